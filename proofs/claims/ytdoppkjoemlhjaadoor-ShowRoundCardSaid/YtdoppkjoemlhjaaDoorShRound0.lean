/-
  The law of what is printed and read.
-/
import Derived.Test.YtdoppkjoemlhjaaDoorShWild
set_option linter.unusedSimpArgs false
set_option linter.unusedVariables false
namespace Go.Proofs.YtdoppkjoemlhjaaDoor.Sh
open Go Go.Mx
mutual
theorem same_eq : ∀ a b : V, pairB none4 a b = true → a = b
  | .mk f n s ks, b, h => by
    rw [pairB] at h
    simp only [none4, Bool.false_or, Bool.and_eq_true, beq_iff_eq] at h
    obtain ⟨⟨⟨⟨h1, h2⟩, h3⟩, h4⟩, h5⟩ := h
    have h6 := sames_eq ks b.kids h4 h5
    rw [V.eta b, ← h1, ← h2, ← h3, ← h6]
theorem sames_eq : ∀ a b : List V, a.length = b.length → pairBs none4 a b = true → a = b
  | [], [], _, _ => rfl
  | [], _ :: _, h, _ => by simp at h
  | _ :: _, [], h, _ => by simp at h
  | a :: x, b :: y, hl, h => by
    rw [pairBs, Bool.and_eq_true] at h
    rw [same_eq a b h.1, sames_eq x y (by simpa using hl) h.2]
end
set_option maxRecDepth 10000
theorem print_told {v : V} (h : told v 40 = true) : pprint v ≠ [] := by
  unfold pprint
  rw [h, ifB_true]
  exact ptext_ne v false 40 h
theorem print_untold {v : V} (h : told v 40 = false) : pprint v = [] := by
  unfold pprint
  rw [h, ifB_false]
theorem same_print (v w : V) (hv : Readable v) (nw : Nums w) (ww : wt w < 1000000) : (pprint v == pprint w) = pairB none4 v w := by
  cases hs : pairB none4 v w with
  | true => rw [same_eq v w hs]; simp
  | false =>
    cases he : pprint v == pprint w with
    | false => rfl
    | true =>
      have he : pprint v = pprint w := by simpa using he
      exfalso
      cases htw : told w 40 with
      | false => rw [print_untold htw] at he; exact print_told hv.2.2 he
      | true =>
        have := print_inj v w hv ⟨nw, ww, htw⟩ he
        rw [this, pairB_refl] at hs
        cases hs
theorem law_round (d1 d2 : D) (l k : List Int) (h1 : ListD d1 l) (h2 : ListD d2 k) (hl : ∀ x ∈ l, Small x) (hk : ∀ x ∈ k, Small x) : Evly fun m => ∀ σ, T m 5 [d1, d2] σ = some (.ret ⟨false, .bool true⟩, σ) := by
  obtain ⟨v, hv⟩ : ∃ v, v = made l := ⟨_, rfl⟩
  obtain ⟨w, hw⟩ : ∃ w, w = made k := ⟨_, rfl⟩
  have nv : Nums v := hv ▸ nums_made l hl
  have wv : wt v ≤ 2430 := hv ▸ wt_made l
  have nw : Nums w := hw ▸ nums_made k hk
  have ww : wt w ≤ 2430 := hw ▸ wt_made k
  have fv := fit_wt v (by omega)
  have r1 := made_run d1 l h1 hl
  have r2 := made_run d2 k h2 hk
  have r3 := may_run v (by omega)
  have r4 := same_run v fv w
  have r5 := psame_run v fv v
  rw [pairB_refl] at r5
  rw [← hv] at r1
  rw [← hw] at r2
  refine (((r1.and r2).and (r3.and r4)).and ((r5.and pprint_run).and (pread_run.and lives_run))).step 0 fun m _ hh σ => ?_
  obtain ⟨⟨⟨r1, r2⟩, ⟨r3, r4⟩⟩, ⟨⟨r5, r6⟩, ⟨r7, r8⟩⟩⟩ := hh
  have r1 := r1 σ
  have r2 := r2 σ
  have r3 := r3 σ
  have r4 := r4 σ
  have r5 := r5 σ
  have r6v := r6 v (printable_of nv (by omega)) σ
  have r6w := r6 w (printable_of nw (by omega)) σ
  have r8 := r8 σ
  rw [T_fun (af := a5) rfl rfl]
  cases ht : told v 40 with
  | false =>
    have hm : may v = false := by unfold may; rw [← told_may]; exact ht
    rw [hm] at r3
    rw [print_untold ht] at r6v
    rw [dV_eq v] at r1 r3 r6v
    rw [dV_eq w] at r2
    simp only [a5, exec_seq, exec_region, exec_cond, exec_block, exec_loop, exec_skip, exec_exit, exec_ret, thenX_normal, thenX_exit, thenX_ret, thenX_panic, blockX_normal, blockX_exit, blockX_ret, blockX_panic, opsX_normal, opsX_panic_none, opsX_panic_some, callX_ret, callX_panic, stepX_next, stepX_call, stepX_panic, runOps_nil, runOps_cons, clearEnv, adel, mem, initEnv, initSlots,
    stepOp, wantedA, evalOp, callOf, panicOf, evalV, addr, opd, opds, aget, aset, adel1, lkill, readCells, nth, Env.put, Env.putV, Env.box, Env.bare, dropOwn, dropOwnS, binD, binBD, binBool, binInt, binStr, unD, AOpd.drop, Cell.of, AOp.kind, sameKind, bool?_bool, bool?_undef, int?_int, str?_str, tup?_tup, fn?_fn, agg?_agg, row?_list, isNil?_iface, isNil?_nil, nat?_nat, nat?_zero, assertD, eqlB, isUndef, takeC, unownAt, fits, layCells, putCells, putD, cells_agg, cells_int, cells_bool, cells_str, cells_nils, cells_list, cells_nilp, cells_ptr, cells_iface, cells_fn, cells_nilfn, cells_niliface, cells_dlist, one_agg, one_int, one_bool, one_str, one_nils, one_list, one_nilp, one_ptr, one_iface, one_niliface, one_fn, one_nilfn, one_dlist, ok_agg, ok_int, ok_bool, ok_str, ok_nils, ok_list, ok_nilp, ok_ptr, ok_iface, ok_niliface, ok_fn, ok_nilfn, ok_dlist, fillD, partsOf, optLo, optHi, allSize, dlist_nil, lenOf_nils, lenOf_list, lenOf_dlist, asList_nils, asList_list, asList_dlist, Option.getD_some, Option.getD_none,
    finX_ret, finX_normal, finX_panic, runDefers_nil, runDefers, resX_none, resP_none, resP_some, readRes, readRes1, readRess,
    caseO_some, caseO_none, ifB_true, ifB_false, Nat.reduceAdd, Nat.reduceSub, Nat.reduceMul, Nat.reduceBEq, Bool.false_and, Bool.true_and, Bool.and_true, Bool.and_false, Nat.zero_add, Nat.add_zero, beq_self_eq_true, Bool.true_beq, Bool.false_beq, Bool.not_true, Bool.not_false, decide_true, decide_false, bindO, ptrOf_ptr, ptrOf_eptr, ptrOf_nilp, List.map_cons, List.map_nil, List.length_cons, List.length_nil, List.append_nil, List.nil_append, List.cons_append, List.isEmpty_nil, List.isEmpty_cons, Nat.reduceLeDiff, Int.reduceBEq, Int.reduceNeg, Nat.le_refl, r1, r2, r3, r6v, r8]
  | true =>
    have hr : Readable v := ⟨nv, by omega, ht⟩
    have r7 := r7 v hr σ
    have hne : (pprint v == []) = false := by simpa using print_told ht
    rw [← same_print v w hr nw (by omega)] at r4
    generalize pprint v = s at *
    generalize pprint w = t at *
    rw [dV_eq v] at r1 r4 r5 r6v r7
    rw [dV_eq w] at r2 r4 r6w
    simp only [a5, exec_seq, exec_region, exec_cond, exec_block, exec_loop, exec_skip, exec_exit, exec_ret, thenX_normal, thenX_exit, thenX_ret, thenX_panic, blockX_normal, blockX_exit, blockX_ret, blockX_panic, opsX_normal, opsX_panic_none, opsX_panic_some, callX_ret, callX_panic, stepX_next, stepX_call, stepX_panic, runOps_nil, runOps_cons, clearEnv, adel, mem, initEnv, initSlots,
    stepOp, wantedA, evalOp, callOf, panicOf, evalV, addr, opd, opds, aget, aset, adel1, lkill, readCells, nth, Env.put, Env.putV, Env.box, Env.bare, dropOwn, dropOwnS, binD, binBD, binBool, binInt, binStr, unD, AOpd.drop, Cell.of, AOp.kind, sameKind, bool?_bool, bool?_undef, int?_int, str?_str, tup?_tup, fn?_fn, agg?_agg, row?_list, isNil?_iface, isNil?_nil, nat?_nat, nat?_zero, assertD, eqlB, isUndef, takeC, unownAt, fits, layCells, putCells, putD, cells_agg, cells_int, cells_bool, cells_str, cells_nils, cells_list, cells_nilp, cells_ptr, cells_iface, cells_fn, cells_nilfn, cells_niliface, cells_dlist, one_agg, one_int, one_bool, one_str, one_nils, one_list, one_nilp, one_ptr, one_iface, one_niliface, one_fn, one_nilfn, one_dlist, ok_agg, ok_int, ok_bool, ok_str, ok_nils, ok_list, ok_nilp, ok_ptr, ok_iface, ok_niliface, ok_fn, ok_nilfn, ok_dlist, fillD, partsOf, optLo, optHi, allSize, dlist_nil, lenOf_nils, lenOf_list, lenOf_dlist, asList_nils, asList_list, asList_dlist, Option.getD_some, Option.getD_none,
    finX_ret, finX_normal, finX_panic, runDefers_nil, runDefers, resX_none, resP_none, resP_some, readRes, readRes1, readRess,
    caseO_some, caseO_none, ifB_true, ifB_false, Nat.reduceAdd, Nat.reduceSub, Nat.reduceMul, Nat.reduceBEq, Bool.false_and, Bool.true_and, Bool.and_true, Bool.and_false, Nat.zero_add, Nat.add_zero, beq_self_eq_true, Bool.true_beq, Bool.false_beq, Bool.not_true, Bool.not_false, decide_true, decide_false, bindO, ptrOf_ptr, ptrOf_eptr, ptrOf_nilp, List.map_cons, List.map_nil, List.length_cons, List.length_nil, List.append_nil, List.nil_append, List.cons_append, List.isEmpty_nil, List.isEmpty_cons, Nat.reduceLeDiff, Int.reduceBEq, Int.reduceNeg, Nat.le_refl, hne, r1, r2, r4, r5, r6v, r6w, r7, r8]
end Go.Proofs.YtdoppkjoemlhjaaDoor.Sh

