/-
  The kind of an application is told by what is told of its parts.
-/
import Derived.Test.YtjldgfgjbdogoaaGreatDoorFkB
set_option linter.unusedSimpArgs false
set_option linter.unusedVariables false
set_option linter.unusedSectionVars false
namespace Go.Fu
open Go Go.Mx
set_option maxRecDepth 10000
theorem zh1 {C : CallF} {rest : List AOper} {dst : Option Nat} {st : Option (List Nat)} {e : Env} {σ : Store} : callX C rest dst st e σ none = none := rfl
theorem zbpb {C : CallF} {rest : List AOper} {dst : Option Nat} {st : Option (List Nat)} {e : Env} {σ : Store} : stepX C rest dst st e σ none = none := rfl
theorem zje {p : Option (List Nat)} {l : List Nat} : opsX p l none = none := rfl
theorem zic {f : Env → Store → XRes} : thenX none f = none := rfl
theorem zg1 {id : Nat} : blockX id none = none := rfl
theorem zhc : scopeX none = none := rfl
theorem zi4 {R : RecF} {C : CallF} {af : AFun} {m : Nat} : finX R C af m none = none := rfl
theorem zwj {m : Nat} {f f' t t' : Tp} {σ : Store} {V : D}
    (hf : T0 m n_17 [.ptr 8 0, V, dT f] σ = T0 m n_17 [.ptr 8 0, V, dT f'] σ)
    (ht : ∀ c σ1, T0 m n_17 [.ptr 8 0, V, dT f'] σ = some (.ret c, σ1) → T0 m n_17 [.ptr 8 0, V, dT t] σ1 = T0 m n_17 [.ptr 8 0, V, dT t'] σ1) :
    T0 (m + 1) n_17 [.ptr 8 0, V, dT (.app f t)] σ = T0 (m + 1) n_17 [.ptr 8 0, V, dT (.app f' t')] σ := by
  rw [zgy (af := a_26) rfl rfl, zgy (af := a_26) rfl rfl]
  cases h1 : T0 m n_17 [.ptr 8 0, V, dT f'] σ with
  | none =>
    rw [h1] at hf
    simp only [a_26, sy0, sy1, sy2, sy3, sy4, sy5, sy6, zbh, zab, zaw, zay, clearEnv, adel, mem, zb1, zb4, stepOp, zcb, zbe, zcj, zci, evalV, addr, opd, opds, aget, aset, adel1, lkill, lfree, zbg, nth, Env.put, Env.putV, Env.box, Env.bare, zbz, zbt, binD, binBD, zco, zcu, zcv, unD, mmD, AOpd.drop, Cell.of, AOp.kind, stableOf, zb8, zck, eqlB, zcp, takeC, zbu, fits, zbk, zbf, putD, fillD, zce, optLo, optHi, zbq, Option.getD_some, Option.getD_none, runDefers, readRes, zb7, zb2, Nat.reduceAdd, Nat.reduceSub, Nat.reduceMul, Nat.reduceBEq, Nat.ble, Bool.false_and, Bool.true_and, Bool.and_true, Bool.and_false, Bool.or_true, Bool.true_or, Bool.or_false, Bool.false_or, Nat.zero_add, Nat.add_zero, beq_self_eq_true, Bool.true_beq, Bool.false_beq, Bool.not_true, Bool.not_false, decide_true, decide_false, bindO, List.map_cons, List.map_nil, List.length_cons, List.length_nil, List.append_nil, List.nil_append, List.cons_append, List.isEmpty_nil, List.isEmpty_cons, List.all_nil, List.all_cons, Nat.reduceLeDiff, Int.reduceBEq, Int.reduceBNe, Int.reduceLE, Int.reduceLT, Int.reduceGE, Int.reduceGT, Int.reduceNeg, Nat.le_refl, k_7, k_5, k_6, k_13, k_11, k_12, k_16, k_14, k_15, k_10, k_8, k_9, k_4, k_2, k_3, nat1, nat2, nat3, nat4, nat5, nat6, nat7, nat8, idxL, zh1, zje, zic, zg1, zhc, zi4, dT, agg?_dT, zgk, hf, h1]
  | some r =>
    obtain ⟨o, σ1⟩ := r
    have ht := fun c => ht c σ1
    rw [h1] at hf ht
    cases o with
    | panic d => simp only [a_26, sy0, sy1, sy2, sy3, sy4, sy5, sy6, zbh, zab, zaw, zay, clearEnv, adel, mem, zb1, zb4, stepOp, zcb, zbe, zcj, zci, evalV, addr, opd, opds, aget, aset, adel1, lkill, lfree, zbg, nth, Env.put, Env.putV, Env.box, Env.bare, zbz, zbt, binD, binBD, zco, zcu, zcv, unD, mmD, AOpd.drop, Cell.of, AOp.kind, stableOf, zb8, zck, eqlB, zcp, takeC, zbu, fits, zbk, zbf, putD, fillD, zce, optLo, optHi, zbq, Option.getD_some, Option.getD_none, runDefers, readRes, zb7, zb2, Nat.reduceAdd, Nat.reduceSub, Nat.reduceMul, Nat.reduceBEq, Nat.ble, Bool.false_and, Bool.true_and, Bool.and_true, Bool.and_false, Bool.or_true, Bool.true_or, Bool.or_false, Bool.false_or, Nat.zero_add, Nat.add_zero, beq_self_eq_true, Bool.true_beq, Bool.false_beq, Bool.not_true, Bool.not_false, decide_true, decide_false, bindO, List.map_cons, List.map_nil, List.length_cons, List.length_nil, List.append_nil, List.nil_append, List.cons_append, List.isEmpty_nil, List.isEmpty_cons, List.all_nil, List.all_cons, Nat.reduceLeDiff, Int.reduceBEq, Int.reduceBNe, Int.reduceLE, Int.reduceLT, Int.reduceGE, Int.reduceGT, Int.reduceNeg, Nat.le_refl, k_7, k_5, k_6, k_13, k_11, k_12, k_16, k_14, k_15, k_10, k_8, k_9, k_4, k_2, k_3, nat1, nat2, nat3, nat4, nat5, nat6, nat7, nat8, idxL, zh1, zje, zic, zg1, zhc, zi4, dT, agg?_dT, zgk, hf, h1]
    | ret c =>
      have ht := ht c rfl
      cases h2 : T0 m n_17 [.ptr 8 0, V, dT t'] σ1 with
      | none =>
        rw [h2] at ht
        simp only [a_26, sy0, sy1, sy2, sy3, sy4, sy5, sy6, zbh, zab, zaw, zay, clearEnv, adel, mem, zb1, zb4, stepOp, zcb, zbe, zcj, zci, evalV, addr, opd, opds, aget, aset, adel1, lkill, lfree, zbg, nth, Env.put, Env.putV, Env.box, Env.bare, zbz, zbt, binD, binBD, zco, zcu, zcv, unD, mmD, AOpd.drop, Cell.of, AOp.kind, stableOf, zb8, zck, eqlB, zcp, takeC, zbu, fits, zbk, zbf, putD, fillD, zce, optLo, optHi, zbq, Option.getD_some, Option.getD_none, runDefers, readRes, zb7, zb2, Nat.reduceAdd, Nat.reduceSub, Nat.reduceMul, Nat.reduceBEq, Nat.ble, Bool.false_and, Bool.true_and, Bool.and_true, Bool.and_false, Bool.or_true, Bool.true_or, Bool.or_false, Bool.false_or, Nat.zero_add, Nat.add_zero, beq_self_eq_true, Bool.true_beq, Bool.false_beq, Bool.not_true, Bool.not_false, decide_true, decide_false, bindO, List.map_cons, List.map_nil, List.length_cons, List.length_nil, List.append_nil, List.nil_append, List.cons_append, List.isEmpty_nil, List.isEmpty_cons, List.all_nil, List.all_cons, Nat.reduceLeDiff, Int.reduceBEq, Int.reduceBNe, Int.reduceLE, Int.reduceLT, Int.reduceGE, Int.reduceGT, Int.reduceNeg, Nat.le_refl, k_7, k_5, k_6, k_13, k_11, k_12, k_16, k_14, k_15, k_10, k_8, k_9, k_4, k_2, k_3, nat1, nat2, nat3, nat4, nat5, nat6, nat7, nat8, idxL, zh1, zje, zic, zg1, zhc, zi4, dT, agg?_dT, zgk, hf, h1, h2, ht]
      | some r =>
        obtain ⟨o, σ2⟩ := r
        rw [h2] at ht
        cases o with
        | panic d => simp only [a_26, sy0, sy1, sy2, sy3, sy4, sy5, sy6, zbh, zab, zaw, zay, clearEnv, adel, mem, zb1, zb4, stepOp, zcb, zbe, zcj, zci, evalV, addr, opd, opds, aget, aset, adel1, lkill, lfree, zbg, nth, Env.put, Env.putV, Env.box, Env.bare, zbz, zbt, binD, binBD, zco, zcu, zcv, unD, mmD, AOpd.drop, Cell.of, AOp.kind, stableOf, zb8, zck, eqlB, zcp, takeC, zbu, fits, zbk, zbf, putD, fillD, zce, optLo, optHi, zbq, Option.getD_some, Option.getD_none, runDefers, readRes, zb7, zb2, Nat.reduceAdd, Nat.reduceSub, Nat.reduceMul, Nat.reduceBEq, Nat.ble, Bool.false_and, Bool.true_and, Bool.and_true, Bool.and_false, Bool.or_true, Bool.true_or, Bool.or_false, Bool.false_or, Nat.zero_add, Nat.add_zero, beq_self_eq_true, Bool.true_beq, Bool.false_beq, Bool.not_true, Bool.not_false, decide_true, decide_false, bindO, List.map_cons, List.map_nil, List.length_cons, List.length_nil, List.append_nil, List.nil_append, List.cons_append, List.isEmpty_nil, List.isEmpty_cons, List.all_nil, List.all_cons, Nat.reduceLeDiff, Int.reduceBEq, Int.reduceBNe, Int.reduceLE, Int.reduceLT, Int.reduceGE, Int.reduceGT, Int.reduceNeg, Nat.le_refl, k_7, k_5, k_6, k_13, k_11, k_12, k_16, k_14, k_15, k_10, k_8, k_9, k_4, k_2, k_3, nat1, nat2, nat3, nat4, nat5, nat6, nat7, nat8, idxL, zh1, zje, zic, zg1, zhc, zi4, dT, agg?_dT, zgk, hf, h1, h2, ht]
        | ret c2 =>
          cases hb1 : (c.d.ok && c.d.cells.length == 3) <;> cases hb2 : (c2.d.ok && c2.d.cells.length == 3) <;>
            simp only [a_26, sy0, sy1, sy2, sy3, sy4, sy5, sy6, zbh, zab, zaw, zay, clearEnv, adel, mem, zb1, zb4, stepOp, zcb, zbe, zcj, zci, evalV, addr, opd, opds, aget, aset, adel1, lkill, lfree, zbg, nth, Env.put, Env.putV, Env.box, Env.bare, zbz, zbt, binD, binBD, zco, zcu, zcv, unD, mmD, AOpd.drop, Cell.of, AOp.kind, stableOf, zb8, zck, eqlB, zcp, takeC, zbu, fits, zbk, zbf, putD, fillD, zce, optLo, optHi, zbq, Option.getD_some, Option.getD_none, runDefers, readRes, zb7, zb2, Nat.reduceAdd, Nat.reduceSub, Nat.reduceMul, Nat.reduceBEq, Nat.ble, Bool.false_and, Bool.true_and, Bool.and_true, Bool.and_false, Bool.or_true, Bool.true_or, Bool.or_false, Bool.false_or, Nat.zero_add, Nat.add_zero, beq_self_eq_true, Bool.true_beq, Bool.false_beq, Bool.not_true, Bool.not_false, decide_true, decide_false, bindO, List.map_cons, List.map_nil, List.length_cons, List.length_nil, List.append_nil, List.nil_append, List.cons_append, List.isEmpty_nil, List.isEmpty_cons, List.all_nil, List.all_cons, Nat.reduceLeDiff, Int.reduceBEq, Int.reduceBNe, Int.reduceLE, Int.reduceLT, Int.reduceGE, Int.reduceGT, Int.reduceNeg, Nat.le_refl, k_7, k_5, k_6, k_13, k_11, k_12, k_16, k_14, k_15, k_10, k_8, k_9, k_4, k_2, k_3, nat1, nat2, nat3, nat4, nat5, nat6, nat7, nat8, idxL, zh1, zje, zic, zg1, zhc, zi4, zbpb, dT, agg?_dT, zgk, hf, h1, h2, ht, hb1, hb2]
end Go.Fu
