/-
  SchemeFresh, run: true, whatever the numbers.
-/
import Derived.Test.YtkgdpcnobfadaaaGreatDoorFuG4
set_option linter.unusedSimpArgs false
set_option linter.unusedVariables false
namespace Go.Fu
open Go Go.Mx
set_option maxRecDepth 10000
section
variable {C : CallF} {n : Nat} {σ : Store}
def bY (vs : List (List UInt8)) (ks : List D) (ps : List Pr) (t : Tp) : List Cell := ⟨false, dSs vs⟩ :: ⟨false, dlist k_api_Kind ks⟩ :: ⟨false, dPs ps⟩ :: bT t
def Ef0 (vs : List (List UInt8)) (ks : List D) (ps : List Pr) (t : Tp) (had i : Nat) : Env := { slots := [(10, ⟨false, .ptr 1 0⟩), (11, ⟨false, .int .i64 had⟩), (12, ⟨false, .int .i64 i⟩)], locs := [(9, 9, 0)], boxes := [(9, bY vs ks ps t)], defers := [] }
theorem lf0_step (vs : List (List UInt8)) (ks : List D) (ps : List Pr) (t : Tp) (had i : Nat) (hi : i < had) (hh : had < 100) (hc : C n_unify_Subst_Fresh [.ptr 1 0] (S i) = some (.ret ⟨false, dT (.hole (i + 1 : Nat))⟩, S (i + 1))) : exec C n a_l13_SchemeFresh_l0 (Ef0 vs ks ps t had i) (S i) = some (.normal, Ef0 vs ks ps t had (i + 1), S (i + 1)) := by
  have h1 : ((i : Int) < (had : Int)) := by omega
  have w1 := wrap64_succ (i := i) (by omega)
  simp only [dT] at hc
  simp only [a_l13_SchemeFresh_l0, Ef0, bY, bT, sy0, sy1, sy2, sy3, sy4, sy5, caseO_none, caseO_some, ifB_false, ifB_true, clearEnv, adel, mem, initEnv, initSlots, stepOp, wantedA, evalOp, callOf, panicOf, evalV, addr, opd, opds, aget, aset, adel1, lkill, lfree, readCells, nth, Env.put, Env.putV, Env.box, Env.bare, dropOwn, dropOwnS, binD, binBD, binBool, binInt, binStr, unD, mmD, AOpd.drop, Cell.of, AOp.kind, stableOf, sameKind, assertD, eqlB, isUndef, takeC, unownAt, fits, layCells, putCells, putD, fillD, partsOf, optLo, optHi, allSize, Option.getD_some, Option.getD_none, runDefers, readRes, readRes1, readRess, Nat.reduceAdd, Nat.reduceSub, Nat.reduceMul, Nat.reduceBEq, Nat.ble, Bool.false_and, Bool.true_and, Bool.and_true, Bool.and_false, Bool.or_true, Bool.true_or, Bool.or_false, Bool.false_or, Nat.zero_add, Nat.add_zero, beq_self_eq_true, Bool.true_beq, Bool.false_beq, Bool.not_true, Bool.not_false, decide_true, decide_false, bindO, List.map_cons, List.map_nil, List.length_cons, List.length_nil, List.append_nil, List.nil_append, List.cons_append, List.isEmpty_nil, List.isEmpty_cons, List.all_nil, List.all_cons, Nat.reduceLeDiff, Int.reduceBEq, Int.reduceBNe, Int.reduceLE, Int.reduceLT, Int.reduceGE, Int.reduceGT, Int.reduceNeg, Nat.le_refl, k_api_Type_sz, k_api_Type_ag, k_api_Type_same, k_api_Pred_sz, k_api_Pred_ag, k_api_Pred_same, k_string_sz, k_string_ag, k_string_same, k_int_sz, k_int_ag, k_int_same, k_api_Kind_sz, k_api_Kind_ag, k_api_Kind_same, nat1, nat2, nat3, nat4, nat5, nat6, nat7, nat8, idxL, h1, w1, hc]
theorem lf0_end (vs : List (List UInt8)) (ks : List D) (ps : List Pr) (t : Tp) (had : Nat) : exec C n a_l13_SchemeFresh_l0 (Ef0 vs ks ps t had had) σ = some (.exit 0, { Ef0 vs ks ps t had had with slots := [(10, ⟨false, .ptr 1 0⟩), (11, ⟨false, .int .i64 had⟩), (12, ⟨false, .int .i64 had⟩), (28, ⟨false, .bool false⟩)] }, σ) := by
  have h1 : ¬ ((had : Int) < (had : Int)) := by omega
  simp only [a_l13_SchemeFresh_l0, Ef0, bY, bT, sy0, sy1, sy2, sy3, sy4, sy5, caseO_none, caseO_some, ifB_false, ifB_true, clearEnv, adel, mem, initEnv, initSlots, stepOp, wantedA, evalOp, callOf, panicOf, evalV, addr, opd, opds, aget, aset, adel1, lkill, lfree, readCells, nth, Env.put, Env.putV, Env.box, Env.bare, dropOwn, dropOwnS, binD, binBD, binBool, binInt, binStr, unD, mmD, AOpd.drop, Cell.of, AOp.kind, stableOf, sameKind, assertD, eqlB, isUndef, takeC, unownAt, fits, layCells, putCells, putD, fillD, partsOf, optLo, optHi, allSize, Option.getD_some, Option.getD_none, runDefers, readRes, readRes1, readRess, Nat.reduceAdd, Nat.reduceSub, Nat.reduceMul, Nat.reduceBEq, Nat.ble, Bool.false_and, Bool.true_and, Bool.and_true, Bool.and_false, Bool.or_true, Bool.true_or, Bool.or_false, Bool.false_or, Nat.zero_add, Nat.add_zero, beq_self_eq_true, Bool.true_beq, Bool.false_beq, Bool.not_true, Bool.not_false, decide_true, decide_false, bindO, List.map_cons, List.map_nil, List.length_cons, List.length_nil, List.append_nil, List.nil_append, List.cons_append, List.isEmpty_nil, List.isEmpty_cons, List.all_nil, List.all_cons, Nat.reduceLeDiff, Int.reduceBEq, Int.reduceBNe, Int.reduceLE, Int.reduceLT, Int.reduceGE, Int.reduceGT, Int.reduceNeg, Nat.le_refl, k_api_Type_sz, k_api_Type_ag, k_api_Type_same, k_api_Pred_sz, k_api_Pred_ag, k_api_Pred_same, k_string_sz, k_string_ag, k_string_same, k_int_sz, k_int_ag, k_int_same, k_api_Kind_sz, k_api_Kind_ag, k_api_Kind_same, nat1, nat2, nat3, nat4, nat5, nat6, nat7, nat8, idxL, h1]
def Ef1 (vs : List (List UInt8)) (ks : List D) (ps qs : List Pr) (t u : Tp) (had i : Nat) : Env := { slots := [(11, ⟨false, .int .i64 had⟩), (13, ⟨false, dPs qs⟩), (15, ⟨false, dlist k_api_Type ((newT had vs.length).map dT)⟩), (16, ⟨false, .int .i64 i⟩)], locs := [(9, 9, 0), (14, 14, 0)], boxes := [(9, bY vs ks ps t), (14, bT u)], defers := [] }
theorem lf1_step (vs : List (List UInt8)) (ks : List D) (ps qs : List Pr) (t u : Tp) (had i : Nat) (hi : i < vs.length) (hv : vs.length < 100) (hh : had < 100) (hc : C n_r04_Equal [dT (.hole (had + i + 1 : Nat)), dT (.hole (had + i + 1 : Nat))] σ = some (.ret ⟨false, .bool true⟩, σ)) :
    exec C n a_l13_SchemeFresh_l1 (Ef1 vs ks ps qs t u had i) σ = some (.normal, Ef1 vs ks ps qs t u had (i + 1), σ) := by
  have h1 : ((i : Int) < (vs.length : Int)) := by omega
  have w1 := wrap64_succ (i := i) (by omega)
  have w2 := wrap64_succ (i := had) (by omega)
  have w3 : IntKind.i64.wrap (((had + 1 : Nat) : Int) + (i : Int)) = ((had + i + 1 : Nat) : Int) := by rw [wrap64 (by omega) (by omega)]; omega
  have hx := idx_T (newT had vs.length) i (by rw [newT_len]; exact hi)
  rw [newT_get] at hx
  simp only [dT] at hc hx
  simp only [a_l13_SchemeFresh_l1, Ef1, bY, bT, sy0, sy1, sy2, sy3, sy4, sy5, caseO_none, caseO_some, ifB_false, ifB_true, clearEnv, adel, mem, initEnv, initSlots, stepOp, wantedA, evalOp, callOf, panicOf, evalV, addr, opd, opds, aget, aset, adel1, lkill, lfree, readCells, nth, Env.put, Env.putV, Env.box, Env.bare, dropOwn, dropOwnS, binD, binBD, binBool, binInt, binStr, unD, mmD, AOpd.drop, Cell.of, AOp.kind, stableOf, sameKind, assertD, eqlB, isUndef, takeC, unownAt, fits, layCells, putCells, putD, fillD, partsOf, optLo, optHi, allSize, Option.getD_some, Option.getD_none, runDefers, readRes, readRes1, readRess, Nat.reduceAdd, Nat.reduceSub, Nat.reduceMul, Nat.reduceBEq, Nat.ble, Bool.false_and, Bool.true_and, Bool.and_true, Bool.and_false, Bool.or_true, Bool.true_or, Bool.or_false, Bool.false_or, Nat.zero_add, Nat.add_zero, beq_self_eq_true, Bool.true_beq, Bool.false_beq, Bool.not_true, Bool.not_false, decide_true, decide_false, bindO, List.map_cons, List.map_nil, List.length_cons, List.length_nil, List.append_nil, List.nil_append, List.cons_append, List.isEmpty_nil, List.isEmpty_cons, List.all_nil, List.all_cons, Nat.reduceLeDiff, Int.reduceBEq, Int.reduceBNe, Int.reduceLE, Int.reduceLT, Int.reduceGE, Int.reduceGT, Int.reduceNeg, Nat.le_refl, k_api_Type_sz, k_api_Type_ag, k_api_Type_same, k_api_Pred_sz, k_api_Pred_ag, k_api_Pred_same, k_string_sz, k_string_ag, k_string_same, k_int_sz, k_int_ag, k_int_same, k_api_Kind_sz, k_api_Kind_ag, k_api_Kind_same, nat1, nat2, nat3, nat4, nat5, nat6, nat7, nat8, idxL, List.length_map, newT_len, h1, w1, w2, w3, hx, hc]
theorem lf1_end (vs : List (List UInt8)) (ks : List D) (ps qs : List Pr) (t u : Tp) (had : Nat) : exec C n a_l13_SchemeFresh_l1 (Ef1 vs ks ps qs t u had vs.length) σ = some (.exit 2, { Ef1 vs ks ps qs t u had vs.length with slots := [(11, ⟨false, .int .i64 had⟩), (13, ⟨false, dPs qs⟩), (15, ⟨false, dlist k_api_Type ((newT had vs.length).map dT)⟩), (16, ⟨false, .int .i64 vs.length⟩), (61, ⟨false, .bool false⟩)] }, σ) := by
  have h1 : ¬ ((vs.length : Int) < (vs.length : Int)) := by omega
  simp only [a_l13_SchemeFresh_l1, Ef1, bY, bT, sy0, sy1, sy2, sy3, sy4, sy5, caseO_none, caseO_some, ifB_false, ifB_true, clearEnv, adel, mem, initEnv, initSlots, stepOp, wantedA, evalOp, callOf, panicOf, evalV, addr, opd, opds, aget, aset, adel1, lkill, lfree, readCells, nth, Env.put, Env.putV, Env.box, Env.bare, dropOwn, dropOwnS, binD, binBD, binBool, binInt, binStr, unD, mmD, AOpd.drop, Cell.of, AOp.kind, stableOf, sameKind, assertD, eqlB, isUndef, takeC, unownAt, fits, layCells, putCells, putD, fillD, partsOf, optLo, optHi, allSize, Option.getD_some, Option.getD_none, runDefers, readRes, readRes1, readRess, Nat.reduceAdd, Nat.reduceSub, Nat.reduceMul, Nat.reduceBEq, Nat.ble, Bool.false_and, Bool.true_and, Bool.and_true, Bool.and_false, Bool.or_true, Bool.true_or, Bool.or_false, Bool.false_or, Nat.zero_add, Nat.add_zero, beq_self_eq_true, Bool.true_beq, Bool.false_beq, Bool.not_true, Bool.not_false, decide_true, decide_false, bindO, List.map_cons, List.map_nil, List.length_cons, List.length_nil, List.append_nil, List.nil_append, List.cons_append, List.isEmpty_nil, List.isEmpty_cons, List.all_nil, List.all_cons, Nat.reduceLeDiff, Int.reduceBEq, Int.reduceBNe, Int.reduceLE, Int.reduceLT, Int.reduceGE, Int.reduceGT, Int.reduceNeg, Nat.le_refl, k_api_Type_sz, k_api_Type_ag, k_api_Type_same, k_api_Pred_sz, k_api_Pred_ag, k_api_Pred_same, k_string_sz, k_string_ag, k_string_same, k_int_sz, k_int_ag, k_int_same, k_api_Kind_sz, k_api_Kind_ag, k_api_Kind_same, nat1, nat2, nat3, nat4, nat5, nat6, nat7, nat8, idxL, List.length_map, newT_len, h1]
end
theorem law_fresh (d d1 : D) (xs ys : List Int) (x k : Int) (hR : Row d xs) (hR1 : Row d1 ys) (hS : Smalls xs) (hS1 : Smalls ys) (hx : Small x) (hk : Small k) : Evly fun n => ∃ σ', T n n_l13_SchemeFresh [d, d1, .int .i64 x, .int .i64 k] σ0 = some (.ret ⟨false, .bool true⟩, σ') := by
  obtain ⟨vs, ks, ps, t, hv, hp, hmade⟩ := made_run d d1 xs ys x hR hS hR1 hS1 hx
  have hh := aro_lt k (m := 4) (by omega)
  have r4 : Evly fun n => ∀ σ, T n n_r01_Around [.int .i64 k, .int .i64 4] σ = some (.ret ⟨false, .int .i64 (aro k 4)⟩, σ) := aroundL.mono fun n h σ => h k 4 4 σ hk rfl (by omega) (by omega)
  generalize aro k 4 = had at hh r4
  have hsf := scheme_fresh_run vs (dlist k_api_Kind ks) ps t had (by omega) (by omega) (by omega)
  have hbl := newT_len had vs.length
  have hput := Put_run ps vs (newT had vs.length) (by omega) (by omega) hbl
  have hsub := r04_subst_run vs (newT had vs.length) (by omega) hbl t
  have hsame := Same_run (ps.map (putP vs (newT had vs.length))) (by simp; omega)
  have heq := equal_run (subT vs (newT had vs.length) t)
  have heqs : Evly fun n => ∀ i, i < vs.length → ∀ σ, T n n_r04_Equal [dT (.hole (had + i + 1 : Nat)), dT (.hole (had + i + 1 : Nat))] σ = some (.ret ⟨false, .bool true⟩, σ) := Evly.below _ fun i _ => equal_run _
  refine (hmade.and (new_run.and (r4.and (fresh_run.and (hsf.and (hput.and (hsub.and (hsame.and (heq.and (heqs.and lives_run)))))))))).step 20 fun m hm h => ⟨S (had + vs.length + 1), ?_⟩
  obtain ⟨e1, e2, e3, e4, e5, e6, e7, e8, e9, e10, e11⟩ := h
  have l0 := loopN_run (body := exec (T m) m a_l13_SchemeFresh_l0) (Ef0 vs ks ps t had) (fun i => S i) had (r := _) (fun _ _ h => by cases h) (fun i hi => lf0_step vs ks ps t had i hi (by omega) (e4 i (by omega))) (lf0_end vs ks ps t had) 0 m (by omega) (by omega)
  have l1 := loopN_run (body := exec (T m) m a_l13_SchemeFresh_l1) (Ef1 vs ks ps (ps.map (putP vs (newT had vs.length))) t (subT vs (newT had vs.length) t) had) (fun _ => S (had + vs.length + 1)) vs.length (r := _) (fun _ _ h => by cases h)
    (fun i hi => lf1_step vs ks ps _ t _ had i hi (by omega) (by omega) (e10 i hi _)) (lf1_end vs ks ps _ t _ had) 0 m (by omega) (by omega)
  have f1 := e1 σ0
  have f3 := e3 (S 0)
  have f4 := e4 (had + vs.length) (by omega)
  have f6 := e6 (S (had + vs.length + 1))
  have f7 := e7 (S (had + vs.length + 1))
  have f8 := e8 (S (had + vs.length + 1))
  have f9 := e9 (S (had + vs.length + 1))
  have f11 := e11 (S (had + vs.length + 1))
  generalize hu : subT vs (newT had vs.length) t = u at *
  rw [dT_eq t] at f7
  rw [dT_eq u] at e5 f7 f9
  have q1 : ((((vs.length : Nat) : Int)) != ((vs.length : Nat) : Int)) = false := by simp
  have w1 : IntKind.i64.wrap ((had : Int) + ((vs.length : Nat) : Int)) = ((had + vs.length : Nat) : Int) := by rw [wrap64 (by omega) (by omega)]; omega
  have w2 := wrap64_succ (i := had + vs.length) (by omega)
  have q2 : ((((had + vs.length + 1 : Nat) : Int)) != ((had + vs.length + 1 : Nat) : Int)) = false := by simp
  have dsl : lenOf (dSs vs) = some vs.length := by simp only [dSs, lenOf_dlist, List.length_map]
  simp only [Ef0, Ef1, bY, bT, zeroI] at l0 l1
  simp only [dTs, dT, cT] at f1 e5 f4 f6 f7 f9
  rw [T_fun (af := a_l13_SchemeFresh) rfl rfl]
  simp only [a_l13_SchemeFresh, sy0, sy1, sy2, sy3, sy4, sy5, caseO_none, caseO_some, ifB_false, ifB_true, clearEnv, adel, mem, initEnv, initSlots, stepOp, wantedA, evalOp, callOf, panicOf, evalV, addr, opd, opds, aget, aset, adel1, lkill, lfree, readCells, nth, Env.put, Env.putV, Env.box, Env.bare, dropOwn, dropOwnS, binD, binBD, binBool, binInt, binStr, unD, mmD, AOpd.drop, Cell.of, AOp.kind, stableOf, sameKind, assertD, eqlB, isUndef, takeC, unownAt, fits, layCells, putCells, putD, fillD, partsOf, optLo, optHi, allSize, Option.getD_some, Option.getD_none, runDefers, readRes, readRes1, readRess, Nat.reduceAdd, Nat.reduceSub, Nat.reduceMul, Nat.reduceBEq, Nat.ble, Bool.false_and, Bool.true_and, Bool.and_true, Bool.and_false, Bool.or_true, Bool.true_or, Bool.or_false, Bool.false_or, Nat.zero_add, Nat.add_zero, beq_self_eq_true, Bool.true_beq, Bool.false_beq, Bool.not_true, Bool.not_false, decide_true, decide_false, bindO, List.map_cons, List.map_nil, List.length_cons, List.length_nil, List.append_nil, List.nil_append, List.cons_append, List.isEmpty_nil, List.isEmpty_cons, List.all_nil, List.all_cons, Nat.reduceLeDiff, Int.reduceBEq, Int.reduceBNe, Int.reduceLE, Int.reduceLT, Int.reduceGE, Int.reduceGT, Int.reduceNeg, Nat.le_refl, k_api_Type_sz, k_api_Type_ag, k_api_Type_same, k_api_Pred_sz, k_api_Pred_ag, k_api_Pred_same, k_string_sz, k_string_ag, k_string_same, k_int_sz, k_int_ag, k_int_same, k_api_Kind_sz, k_api_Kind_ag, k_api_Kind_same, nat1, nat2, nat3, nat4, nat5, nat6, nat7, nat8, idxL, Mx.part, List.length_map, hbl, dsl, f1, e2, f3, l0, e5, q1, w1, w2, f4, q2, l1, f6, f8, f7, f9, f11]
end Go.Fu

