/-
  star: is a type of functions over numbers and truths of the kind of types?
-/
import Derived.Test.YtjldgfgjbdogoaaGreatDoorFkE
import Derived.Test.YtjldgfgjbdogoaaGreatDoorMyRecover
set_option linter.unusedSimpArgs false
set_option linter.unusedVariables false
set_option linter.unusedSectionVars false
namespace Go.Fu
open Go Go.Mx
set_option maxRecDepth 10000
theorem zc4b {f : FuncId} {a b : List D} : (D.fn (.func f) a b).fnF? = ifB (isY f) none (some (f, a, b)) := rfl
theorem fn_eq {f : FuncId} {a b : List D} : (D.fn (.func f) a b).fn? = ifB (isY f) none (some (f, a, b)) := rfl
theorem zbxb : isY n_76 = false := rfl
theorem y_of1 : isY n_64 = false := rfl
theorem t_521 : zz4 = 4 := rfl
theorem zcqb (σ : Store) : Ra n_76 [.ptr 28 0] none σ = some (none, σ) := by
  have h : Ra n_76 [.ptr 28 0] none σ = zlx (fun _ _ _ => none) 3 a_71 1 4 1 [.ptr 28 0] none σ := rfl
  rw [h]
  unfold zlx ztu
  simp only [a_71, sy0, sy1, sy2, sy3, sy4, sy5, sy6, zbh, zab, zaw, zay, clearEnv, adel, mem, zb1, zb4, stepOp, zcb, zbe, zcj, zci, evalV, addr, opd, opds, aget, aset, adel1, lkill, lfree, zbg, nth, Env.put, Env.putV, Env.box, Env.bare, zbz, zbt, binD, binBD, zco, zcu, zcv, unD, mmD, AOpd.drop, Cell.of, AOp.kind, stableOf, zb8, zck, eqlB, zcp, takeC, zbu, fits, zbk, zbf, putD, fillD, zce, optLo, optHi, zbq, Option.getD_some, Option.getD_none, runDefers, readRes, zb7, zb2, Nat.reduceAdd, Nat.reduceSub, Nat.reduceMul, Nat.reduceBEq, Nat.ble, Bool.false_and, Bool.true_and, Bool.and_true, Bool.and_false, Bool.or_true, Bool.true_or, Bool.or_false, Bool.false_or, Nat.zero_add, Nat.add_zero, beq_self_eq_true, Bool.true_beq, Bool.false_beq, Bool.not_true, Bool.not_false, decide_true, decide_false, bindO, List.map_cons, List.map_nil, List.length_cons, List.length_nil, List.append_nil, List.nil_append, List.cons_append, List.isEmpty_nil, List.isEmpty_cons, List.all_nil, List.all_cons, Nat.reduceLeDiff, Int.reduceBEq, Int.reduceBNe, Int.reduceLE, Int.reduceLT, Int.reduceGE, Int.reduceGT, Int.reduceNeg, Nat.le_refl, k_7, k_5, k_6, k_13, k_11, k_12, k_16, k_14, k_15, k_10, k_8, k_9, k_4, k_2, k_3, nat1, nat2, nat3, nat4, nat5, nat6, nat7, nat8, idxL, D.isNil?]
theorem zz7 (bs : List Bool) (h : bs.length ≤ 8) : ∃ σ6, T0 58 n_50 [.fn (.func n_64) [] [.ptr 27 0, .ptr 0 0, .ptr 1 0, .ptr 2 0, .ptr 3 0]] (S4 (atys (tyB bs))) = some (.ret ⟨false, .bool true⟩, σ6) ∧ aget σ6.objs 3 = some [⟨false, .nils⟩] := by
  obtain ⟨σ6, h3, h28, h1⟩ := zccb bs h
  refine ⟨{ objs := aset (aset σ6.objs 3 [⟨false, .nils⟩]) 28 [⟨false, .bool true⟩], tys := σ6.tys, oth := σ6.oth, next := σ6.next }, ?_, ?_⟩
  · rw [zgy (af := a_58) rfl rfl]
    have e : S4 (atys (tyB bs)) = { objs := (27, [⟨false, .ptr 8 0⟩]) :: ob (atys (tyB bs)), tys := (27, ⟨71, 0⟩) :: ty0, oth := ot0, next := 28 } := rfl
    have g28 : aget (aset σ6.objs 3 [⟨false, .nils⟩]) 28 = some [⟨false, .bool false⟩] := by rw [zbp, if_neg (by omega)]; exact h28
    have g28b : aget (aset (aset σ6.objs 3 [⟨false, .nils⟩]) 28 [⟨false, .bool true⟩]) 28 = some [⟨false, .bool true⟩] := by rw [zbp, if_pos rfl]
    simp only [S3] at h1
    simp only [a_58, sy0, sy1, sy2, sy3, sy4, sy5, sy6, zbh, zab, zaw, zay, clearEnv, adel, mem, zb1, zb4, stepOp, zcb, zbe, zcj, zci, evalV, addr, opd, opds, aget, aset, adel1, lkill, lfree, zbg, nth, Env.put, Env.putV, Env.box, Env.bare, zbz, zbt, binD, binBD, zco, zcu, zcv, unD, mmD, AOpd.drop, Cell.of, AOp.kind, stableOf, zb8, zck, eqlB, zcp, takeC, zbu, fits, zbk, zbf, putD, fillD, zce, optLo, optHi, zbq, Option.getD_some, Option.getD_none, runDefers, readRes, zb7, zb2, Nat.reduceAdd, Nat.reduceSub, Nat.reduceMul, Nat.reduceBEq, Nat.ble, Bool.false_and, Bool.true_and, Bool.and_true, Bool.and_false, Bool.or_true, Bool.true_or, Bool.or_false, Bool.false_or, Nat.zero_add, Nat.add_zero, beq_self_eq_true, Bool.true_beq, Bool.false_beq, Bool.not_true, Bool.not_false, decide_true, decide_false, bindO, List.map_cons, List.map_nil, List.length_cons, List.length_nil, List.append_nil, List.nil_append, List.cons_append, List.isEmpty_nil, List.isEmpty_cons, List.all_nil, List.all_cons, Nat.reduceLeDiff, Int.reduceBEq, Int.reduceBNe, Int.reduceLE, Int.reduceLT, Int.reduceGE, Int.reduceGT, Int.reduceNeg, Nat.le_refl, k_7, k_5, k_6, k_13, k_11, k_12, k_16, k_14, k_15, k_10, k_8, k_9, k_4, k_2, k_3, nat1, nat2, nat3, nat4, nat5, nat6, nat7, nat8, idxL, memE, memOp, e, zc4b, fn_eq, zbxb, y_of1, t_521, h1, g28, g28b, zcqb]
  · simp only [zbp]
    simp
theorem zc6b (bs : List Bool) (h : bs.length ≤ 8) : ∃ σ6, T0 59 n_269 [.agg [.nils, .nils, .nils, .nils], .nils, .nils, dT (tyB bs)] σe = some (.ret ⟨false, .tup [.agg [.nils], .int .i64 0]⟩, σ6) := by
  obtain ⟨σ6, h1, h3⟩ := zz7 bs h
  have hb := zwq (atys (tyB bs))
  rw [zgy (af := a_55) rfl rfl]
  have e4 : S4 (atys (tyB bs)) = { objs := (27, [⟨false, .ptr 8 0⟩]) :: ob (atys (tyB bs)), tys := (27, ⟨71, 0⟩) :: ty0, oth := ot0, next := 28 } := rfl
  rw [e4] at h1
  refine ⟨{ objs := aset (aset σ6.objs 3 [⟨false, .nils⟩]) 3 [⟨false, .nils⟩], tys := σ6.tys, oth := σ6.oth, next := σ6.next }, ?_⟩
  simp only [SB1, SB2, atys] at hb h1
  have g1 : t_309 = 49 := rfl
  have g2 : t_262 = 35 := rfl
  have g3 : t_307 = 26 := rfl
  have g4 : t_308 = 25 := rfl
  have g5 : t_54 = 71 := rfl
  have g6 : aget (aset σ6.objs 3 [⟨false, .nils⟩]) 3 = some [⟨false, .nils⟩] := by rw [zbp, if_pos rfl]
  have g7 : aget (aset (aset σ6.objs 3 [⟨false, .nils⟩]) 3 [⟨false, .nils⟩]) 3 = some [⟨false, .nils⟩] := by rw [zbp, if_pos rfl]
  simp only [a_55, sy0, sy1, sy2, sy3, sy4, sy5, sy6, zbh, zab, zaw, zay, clearEnv, adel, mem, zb1, zb4, stepOp, zcb, zbe, zcj, zci, evalV, addr, opd, opds, aget, aset, adel1, lkill, lfree, zbg, nth, Env.put, Env.putV, Env.box, Env.bare, zbz, zbt, binD, binBD, zco, zcu, zcv, unD, mmD, AOpd.drop, Cell.of, AOp.kind, stableOf, zb8, zck, eqlB, zcp, takeC, zbu, fits, zbk, zbf, putD, fillD, zce, optLo, optHi, zbq, Option.getD_some, Option.getD_none, runDefers, readRes, zb7, zb2, Nat.reduceAdd, Nat.reduceSub, Nat.reduceMul, Nat.reduceBEq, Nat.ble, Bool.false_and, Bool.true_and, Bool.and_true, Bool.and_false, Bool.or_true, Bool.true_or, Bool.or_false, Bool.false_or, Nat.zero_add, Nat.add_zero, beq_self_eq_true, Bool.true_beq, Bool.false_beq, Bool.not_true, Bool.not_false, decide_true, decide_false, bindO, List.map_cons, List.map_nil, List.length_cons, List.length_nil, List.append_nil, List.nil_append, List.cons_append, List.isEmpty_nil, List.isEmpty_cons, List.all_nil, List.all_cons, Nat.reduceLeDiff, Int.reduceBEq, Int.reduceBNe, Int.reduceLE, Int.reduceLT, Int.reduceGE, Int.reduceGT, Int.reduceNeg, Nat.le_refl, k_7, k_5, k_6, k_13, k_11, k_12, k_16, k_14, k_15, k_10, k_8, k_9, k_4, k_2, k_3, nat1, nat2, nat3, nat4, nat5, nat6, nat7, nat8, idxL, memE, memOp, dT_eq, cT, σe, g1, g2, g3, g4, g5, hb, h1, h3, g6, g7]
theorem zbob (bs : List Bool) (h : bs.length ≤ 8) : ∃ σ6, T0 60 n_33 [.agg [.nils, .nils, .nils, .nils], .nils, .nils, dT (tyB bs)] σe = some (.ret ⟨false, .bool true⟩, σ6) := by
  obtain ⟨σ6, h1⟩ := zc6b bs h
  refine ⟨σ6, ?_⟩
  rw [zgy (af := a_59) rfl rfl]
  simp only [dT_eq, cT] at h1
  simp only [a_59, sy0, sy1, sy2, sy3, sy4, sy5, sy6, zbh, zab, zaw, zay, clearEnv, adel, mem, zb1, zb4, stepOp, zcb, zbe, zcj, zci, evalV, addr, opd, opds, aget, aset, adel1, lkill, lfree, zbg, nth, Env.put, Env.putV, Env.box, Env.bare, zbz, zbt, binD, binBD, zco, zcu, zcv, unD, mmD, AOpd.drop, Cell.of, AOp.kind, stableOf, zb8, zck, eqlB, zcp, takeC, zbu, fits, zbk, zbf, putD, fillD, zce, optLo, optHi, zbq, Option.getD_some, Option.getD_none, runDefers, readRes, zb7, zb2, Nat.reduceAdd, Nat.reduceSub, Nat.reduceMul, Nat.reduceBEq, Nat.ble, Bool.false_and, Bool.true_and, Bool.and_true, Bool.and_false, Bool.or_true, Bool.true_or, Bool.or_false, Bool.false_or, Nat.zero_add, Nat.add_zero, beq_self_eq_true, Bool.true_beq, Bool.false_beq, Bool.not_true, Bool.not_false, decide_true, decide_false, bindO, List.map_cons, List.map_nil, List.length_cons, List.length_nil, List.append_nil, List.nil_append, List.cons_append, List.isEmpty_nil, List.isEmpty_cons, List.all_nil, List.all_cons, Nat.reduceLeDiff, Int.reduceBEq, Int.reduceBNe, Int.reduceLE, Int.reduceLT, Int.reduceGE, Int.reduceGT, Int.reduceNeg, Nat.le_refl, k_7, k_5, k_6, k_13, k_11, k_12, k_16, k_14, k_15, k_10, k_8, k_9, k_4, k_2, k_3, nat1, nat2, nat3, nat4, nat5, nat6, nat7, nat8, idxL, dT_eq, cT, h1]
  rfl
end Go.Fu
namespace Go.Fu
open Go Go.Mx
def zhz : AFun := { nargs := 0, ntmps := 14, res := [.tmp 0], gc := false, body := (.seq (.region [ ⟨(some 0), .mov (.const (.nils)), none⟩] none [0]) (.seq (.region [ ⟨(some 2), .call n_80 [], none⟩, ⟨(some 1), .alloc [.nils], none⟩,
 ⟨none, .store 1 (.tmp 1) (.mv 2), none⟩] none [2]) (.seq (.region [ ⟨(some 3), .buildA k_0 [(.const (.str [97])), (.const (.str [98]))], none⟩, ⟨(some 4), .load (some 1) false (.tmp 1), none⟩, ⟨(some 5), .load (some 1) false (.tmp 1), none⟩,
 ⟨(some 6), .buildA k_23 [(.tmp 4), (.tmp 5)], none⟩, ⟨(some 7), .build [.str [], .int .i64 0, .nils, .nils, .nils] [(0, 1, (.const (.str [45, 62]))), (2, 1, (.tmp 3)), (3, 1, (.tmp 6))], none⟩,
 ⟨(some 8), .build [.str [], .int .i64 0, .nils, .nils, .nils] [(0, 1, (.const (.str [73, 110, 116])))], none⟩, ⟨(some 9), .build [.str [], .int .i64 0, .nils] [(0, 1, (.const (.str [70, 97, 108, 115, 101])))], none⟩,
 ⟨(some 10), .build [.str [], .int .i64 0, .nils] [(0, 1, (.const (.str [84, 114, 117, 101])))], none⟩, ⟨(some 11), .buildA k_28 [(.tmp 9), (.tmp 10)], none⟩, ⟨(some 12), .build [.str [], .int .i64 0, .nils, .nils, .nils] [(0, 1, (.const (.str [66, 111, 111, 108]))), (4, 1, (.tmp 11))], none⟩,
 ⟨(some 13), .buildA k_19 [(.tmp 7), (.tmp 8), (.tmp 12)], none⟩, ⟨(some 0), .mov (.mv 13), none⟩] none [1, 3, 4, 5, 6, 7, 8, 9, 10, 11, 12, 13]) .ret))) }
theorem zlt : okFun Go.Proofs.Tryz.prog Go.Proofs.Tryz.f4 zhz = true := by kernel_rfl
end Go.Fu
