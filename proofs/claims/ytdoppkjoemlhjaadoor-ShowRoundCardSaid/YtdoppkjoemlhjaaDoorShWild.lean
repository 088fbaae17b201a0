/-
  Values made of numbers, spoilt; and the law of prints.
-/
import Derived.Test.YtdoppkjoemlhjaaDoorShRefText
import Derived.Test.YtdoppkjoemlhjaaDoorShLaws
set_option linter.unusedSimpArgs false
set_option linter.unusedVariables false
namespace Go.Proofs.YtdoppkjoemlhjaaDoor.Sh
open Go Go.Mx
def wrapS (v : V) : V := .mk 1 0 [83] [v]
def iterS (v : V) : Nat → V
  | 0 => v
  | i + 1 => wrapS (iterS v i)
def wild (v : V) (n : Int) : V :=
  ifB (n == 0) (.mk v.form v.n [110, 105, 108] v.kids) (ifB (n == 1) (.mk 0 v.n v.name v.kids) (ifB (n == 2) (.mk v.form (IntKind.i64.wrap (v.n + 1)) v.name v.kids) (ifB (n == 3) (.mk v.form v.n v.name (v.kids ++ [.mk 1 0 [75, 64] []])) (ifB (n == 4) (iterS v 38) (ifB (n == 5) (.mk 1 0 [84] [v, v, v, v, v, v, v, v, v]) v)))))
set_option maxRecDepth 10000
section
variable {C : CallF} {n : Nat} {v : V} {i : Nat} {σ : Store}
def zeroC : List Cell := [⟨false, .int .i64 0⟩, ⟨false, .int .i64 0⟩, ⟨false, .str []⟩, ⟨false, .nils⟩]
def E11 (v : V) (i : Nat) : Env := { slots := [(6, ⟨false, .int .i64 i⟩)], locs := [(4, (4, 0)), (5, (5, 0))], boxes := [(4, zeroC), (5, bx (iterS v i))], defers := [] }
theorem l11_step (h : i < 38) : exec C n a11_l0 (E11 v i) σ = some (.normal, E11 v (i + 1), σ) := by
  have hi : ((i : Int) < 38) := by omega
  have hb : bx (iterS v (i + 1)) = [⟨false, .int .i64 1⟩, ⟨false, .int .i64 0⟩, ⟨false, .str [83]⟩, ⟨false, .list kV [.agg [.int .i64 (iterS v i).form, .int .i64 (iterS v i).n, .str (iterS v i).name, dlist kV ((iterS v i).kids.map dV)]]⟩] := by
    show bx (wrapS (iterS v i)) = _
    unfold wrapS bx
    simp only [form_mk, n_mk, name_mk, kids_mk, List.map_cons, List.map_nil, dV_eq (iterS v i)]
    rfl
  simp only [a11_l0, E11, hb]
  simp only [bx, exec_seq, exec_region, exec_cond, exec_block, exec_loop, exec_skip, exec_exit, exec_ret, thenX_normal, thenX_exit, thenX_ret, thenX_panic, blockX_normal, blockX_exit, blockX_ret, blockX_panic, opsX_normal, opsX_panic_none, opsX_panic_some, callX_ret, callX_panic, stepX_next, stepX_call, stepX_panic, runOps_nil, runOps_cons, clearEnv, adel, mem, initEnv, initSlots,
    stepOp, wantedA, evalOp, callOf, panicOf, evalV, addr, opd, opds, aget, aset, adel1, lkill, readCells, nth, Env.put, Env.putV, Env.box, Env.bare, dropOwn, dropOwnS, binD, binBD, binBool, binInt, binStr, unD, AOpd.drop, Cell.of, AOp.kind, sameKind, bool?_bool, bool?_undef, int?_int, str?_str, tup?_tup, fn?_fn, agg?_agg, row?_list, isNil?_iface, isNil?_nil, nat?_nat, nat?_zero, assertD, eqlB, isUndef, takeC, unownAt, fits, layCells, putCells, putD, cells_agg, cells_int, cells_bool, cells_str, cells_nils, cells_list, cells_nilp, cells_ptr, cells_iface, cells_fn, cells_nilfn, cells_niliface, cells_dlist, one_agg, one_int, one_bool, one_str, one_nils, one_list, one_nilp, one_ptr, one_iface, one_niliface, one_fn, one_nilfn, one_dlist, ok_agg, ok_int, ok_bool, ok_str, ok_nils, ok_list, ok_nilp, ok_ptr, ok_iface, ok_niliface, ok_fn, ok_nilfn, ok_dlist, fillD, partsOf, optLo, optHi, allSize, dlist_nil, lenOf_nils, lenOf_list, lenOf_dlist, asList_nils, asList_list, asList_dlist, Option.getD_some, Option.getD_none,
    finX_ret, finX_normal, finX_panic, runDefers_nil, runDefers, resX_none, resP_none, resP_some, readRes, readRes1, readRess,
    caseO_some, caseO_none, ifB_true, ifB_false, Nat.reduceAdd, Nat.reduceSub, Nat.reduceMul, Nat.reduceBEq, Bool.false_and, Bool.true_and, Bool.and_true, Bool.and_false, Nat.zero_add, Nat.add_zero, beq_self_eq_true, Bool.true_beq, Bool.false_beq, Bool.not_true, Bool.not_false, decide_true, decide_false, bindO, ptrOf_ptr, ptrOf_eptr, ptrOf_nilp, List.map_cons, List.map_nil, List.length_cons, List.length_nil, List.append_nil, List.nil_append, List.cons_append, List.isEmpty_nil, List.isEmpty_cons, Nat.reduceLeDiff, Int.reduceBEq, Int.reduceNeg, Nat.le_refl, hi, wrap64_succ (i := i) (by omega)]
theorem l11_end : exec C n a11_l0 (E11 v 38) σ = some (.exit 1, { slots := [(6, ⟨false, .int .i64 38⟩), (34, ⟨false, .bool false⟩)], locs := [(4, (4, 0)), (5, (5, 0))], boxes := [(4, zeroC), (5, bx (iterS v 38))], defers := [] }, σ) := by
  have hi : ¬ (((38 : Nat) : Int) < 38) := by omega
  have h38 : (((38 : Nat) : Int)) = 38 := rfl
  simp only [a11_l0, E11, exec_seq, exec_region, exec_cond, exec_block, exec_loop, exec_skip, exec_exit, exec_ret, thenX_normal, thenX_exit, thenX_ret, thenX_panic, blockX_normal, blockX_exit, blockX_ret, blockX_panic, opsX_normal, opsX_panic_none, opsX_panic_some, callX_ret, callX_panic, stepX_next, stepX_call, stepX_panic, runOps_nil, runOps_cons, clearEnv, adel, mem, initEnv, initSlots,
    stepOp, wantedA, evalOp, callOf, panicOf, evalV, addr, opd, opds, aget, aset, adel1, lkill, readCells, nth, Env.put, Env.putV, Env.box, Env.bare, dropOwn, dropOwnS, binD, binBD, binBool, binInt, binStr, unD, AOpd.drop, Cell.of, AOp.kind, sameKind, bool?_bool, bool?_undef, int?_int, str?_str, tup?_tup, fn?_fn, agg?_agg, row?_list, isNil?_iface, isNil?_nil, nat?_nat, nat?_zero, assertD, eqlB, isUndef, takeC, unownAt, fits, layCells, putCells, putD, cells_agg, cells_int, cells_bool, cells_str, cells_nils, cells_list, cells_nilp, cells_ptr, cells_iface, cells_fn, cells_nilfn, cells_niliface, cells_dlist, one_agg, one_int, one_bool, one_str, one_nils, one_list, one_nilp, one_ptr, one_iface, one_niliface, one_fn, one_nilfn, one_dlist, ok_agg, ok_int, ok_bool, ok_str, ok_nils, ok_list, ok_nilp, ok_ptr, ok_iface, ok_niliface, ok_fn, ok_nilfn, ok_dlist, fillD, partsOf, optLo, optHi, allSize, dlist_nil, lenOf_nils, lenOf_list, lenOf_dlist, asList_nils, asList_list, asList_dlist, Option.getD_some, Option.getD_none,
    finX_ret, finX_normal, finX_panic, runDefers_nil, runDefers, resX_none, resP_none, resP_some, readRes, readRes1, readRess,
    caseO_some, caseO_none, ifB_true, ifB_false, Nat.reduceAdd, Nat.reduceSub, Nat.reduceMul, Nat.reduceBEq, Bool.false_and, Bool.true_and, Bool.and_true, Bool.and_false, Nat.zero_add, Nat.add_zero, beq_self_eq_true, Bool.true_beq, Bool.false_beq, Bool.not_true, Bool.not_false, decide_true, decide_false, bindO, ptrOf_ptr, ptrOf_eptr, ptrOf_nilp, List.map_cons, List.map_nil, List.length_cons, List.length_nil, List.append_nil, List.nil_append, List.cons_append, List.isEmpty_nil, List.isEmpty_cons, Nat.reduceLeDiff, Int.reduceBEq, Int.reduceNeg, Nat.le_refl, h38, hi, Int.lt_irrefl]
end
theorem wild_run (d : D) (xs : List Int) (hd : ListD d xs) (hxs : ∀ x ∈ xs, Small x) (n : Int) : Evly fun m => ∀ σ, T m 11 [d, .int .i64 n] σ = some (.ret ⟨false, dV (wild (made xs) n)⟩, σ) := by
  refine (made_run d xs hd hxs).step 40 fun m hm h1 σ => ?_
  have h1 := h1 σ
  have hfit := fit_made xs
  generalize made xs = v at *
  have hks : v.kids.length < 1048576 := by cases hfit with | mk f n s ks h hk => exact h
  rw [T_fun (af := a11) rfl rfl]
  rw [dV_eq] at h1 ⊢
  unfold wild
  cases e0 : n == 0 with
  | true => simp only [a11, exec_seq, exec_region, exec_cond, exec_block, exec_loop, exec_skip, exec_exit, exec_ret, thenX_normal, thenX_exit, thenX_ret, thenX_panic, blockX_normal, blockX_exit, blockX_ret, blockX_panic, opsX_normal, opsX_panic_none, opsX_panic_some, callX_ret, callX_panic, stepX_next, stepX_call, stepX_panic, runOps_nil, runOps_cons, clearEnv, adel, mem, initEnv, initSlots,
    stepOp, wantedA, evalOp, callOf, panicOf, evalV, addr, opd, opds, aget, aset, adel1, lkill, readCells, nth, Env.put, Env.putV, Env.box, Env.bare, dropOwn, dropOwnS, binD, binBD, binBool, binInt, binStr, unD, AOpd.drop, Cell.of, AOp.kind, sameKind, bool?_bool, bool?_undef, int?_int, str?_str, tup?_tup, fn?_fn, agg?_agg, row?_list, isNil?_iface, isNil?_nil, nat?_nat, nat?_zero, assertD, eqlB, isUndef, takeC, unownAt, fits, layCells, putCells, putD, cells_agg, cells_int, cells_bool, cells_str, cells_nils, cells_list, cells_nilp, cells_ptr, cells_iface, cells_fn, cells_nilfn, cells_niliface, cells_dlist, one_agg, one_int, one_bool, one_str, one_nils, one_list, one_nilp, one_ptr, one_iface, one_niliface, one_fn, one_nilfn, one_dlist, ok_agg, ok_int, ok_bool, ok_str, ok_nils, ok_list, ok_nilp, ok_ptr, ok_iface, ok_niliface, ok_fn, ok_nilfn, ok_dlist, fillD, partsOf, optLo, optHi, allSize, dlist_nil, lenOf_nils, lenOf_list, lenOf_dlist, asList_nils, asList_list, asList_dlist, Option.getD_some, Option.getD_none,
    finX_ret, finX_normal, finX_panic, runDefers_nil, runDefers, resX_none, resP_none, resP_some, readRes, readRes1, readRess,
    caseO_some, caseO_none, ifB_true, ifB_false, Nat.reduceAdd, Nat.reduceSub, Nat.reduceMul, Nat.reduceBEq, Bool.false_and, Bool.true_and, Bool.and_true, Bool.and_false, Nat.zero_add, Nat.add_zero, beq_self_eq_true, Bool.true_beq, Bool.false_beq, Bool.not_true, Bool.not_false, decide_true, decide_false, bindO, ptrOf_ptr, ptrOf_eptr, ptrOf_nilp, List.map_cons, List.map_nil, List.length_cons, List.length_nil, List.append_nil, List.nil_append, List.cons_append, List.isEmpty_nil, List.isEmpty_cons, Nat.reduceLeDiff, Int.reduceBEq, Int.reduceNeg, Nat.le_refl, h1, e0, form_mk, n_mk, name_mk, kids_mk]
  | false =>
  cases e1 : n == 1 with
  | true => simp only [a11, exec_seq, exec_region, exec_cond, exec_block, exec_loop, exec_skip, exec_exit, exec_ret, thenX_normal, thenX_exit, thenX_ret, thenX_panic, blockX_normal, blockX_exit, blockX_ret, blockX_panic, opsX_normal, opsX_panic_none, opsX_panic_some, callX_ret, callX_panic, stepX_next, stepX_call, stepX_panic, runOps_nil, runOps_cons, clearEnv, adel, mem, initEnv, initSlots,
    stepOp, wantedA, evalOp, callOf, panicOf, evalV, addr, opd, opds, aget, aset, adel1, lkill, readCells, nth, Env.put, Env.putV, Env.box, Env.bare, dropOwn, dropOwnS, binD, binBD, binBool, binInt, binStr, unD, AOpd.drop, Cell.of, AOp.kind, sameKind, bool?_bool, bool?_undef, int?_int, str?_str, tup?_tup, fn?_fn, agg?_agg, row?_list, isNil?_iface, isNil?_nil, nat?_nat, nat?_zero, assertD, eqlB, isUndef, takeC, unownAt, fits, layCells, putCells, putD, cells_agg, cells_int, cells_bool, cells_str, cells_nils, cells_list, cells_nilp, cells_ptr, cells_iface, cells_fn, cells_nilfn, cells_niliface, cells_dlist, one_agg, one_int, one_bool, one_str, one_nils, one_list, one_nilp, one_ptr, one_iface, one_niliface, one_fn, one_nilfn, one_dlist, ok_agg, ok_int, ok_bool, ok_str, ok_nils, ok_list, ok_nilp, ok_ptr, ok_iface, ok_niliface, ok_fn, ok_nilfn, ok_dlist, fillD, partsOf, optLo, optHi, allSize, dlist_nil, lenOf_nils, lenOf_list, lenOf_dlist, asList_nils, asList_list, asList_dlist, Option.getD_some, Option.getD_none,
    finX_ret, finX_normal, finX_panic, runDefers_nil, runDefers, resX_none, resP_none, resP_some, readRes, readRes1, readRess,
    caseO_some, caseO_none, ifB_true, ifB_false, Nat.reduceAdd, Nat.reduceSub, Nat.reduceMul, Nat.reduceBEq, Bool.false_and, Bool.true_and, Bool.and_true, Bool.and_false, Nat.zero_add, Nat.add_zero, beq_self_eq_true, Bool.true_beq, Bool.false_beq, Bool.not_true, Bool.not_false, decide_true, decide_false, bindO, ptrOf_ptr, ptrOf_eptr, ptrOf_nilp, List.map_cons, List.map_nil, List.length_cons, List.length_nil, List.append_nil, List.nil_append, List.cons_append, List.isEmpty_nil, List.isEmpty_cons, Nat.reduceLeDiff, Int.reduceBEq, Int.reduceNeg, Nat.le_refl, h1, e0, e1, form_mk, n_mk, name_mk, kids_mk]
  | false =>
  cases e2 : n == 2 with
  | true => simp only [a11, exec_seq, exec_region, exec_cond, exec_block, exec_loop, exec_skip, exec_exit, exec_ret, thenX_normal, thenX_exit, thenX_ret, thenX_panic, blockX_normal, blockX_exit, blockX_ret, blockX_panic, opsX_normal, opsX_panic_none, opsX_panic_some, callX_ret, callX_panic, stepX_next, stepX_call, stepX_panic, runOps_nil, runOps_cons, clearEnv, adel, mem, initEnv, initSlots,
    stepOp, wantedA, evalOp, callOf, panicOf, evalV, addr, opd, opds, aget, aset, adel1, lkill, readCells, nth, Env.put, Env.putV, Env.box, Env.bare, dropOwn, dropOwnS, binD, binBD, binBool, binInt, binStr, unD, AOpd.drop, Cell.of, AOp.kind, sameKind, bool?_bool, bool?_undef, int?_int, str?_str, tup?_tup, fn?_fn, agg?_agg, row?_list, isNil?_iface, isNil?_nil, nat?_nat, nat?_zero, assertD, eqlB, isUndef, takeC, unownAt, fits, layCells, putCells, putD, cells_agg, cells_int, cells_bool, cells_str, cells_nils, cells_list, cells_nilp, cells_ptr, cells_iface, cells_fn, cells_nilfn, cells_niliface, cells_dlist, one_agg, one_int, one_bool, one_str, one_nils, one_list, one_nilp, one_ptr, one_iface, one_niliface, one_fn, one_nilfn, one_dlist, ok_agg, ok_int, ok_bool, ok_str, ok_nils, ok_list, ok_nilp, ok_ptr, ok_iface, ok_niliface, ok_fn, ok_nilfn, ok_dlist, fillD, partsOf, optLo, optHi, allSize, dlist_nil, lenOf_nils, lenOf_list, lenOf_dlist, asList_nils, asList_list, asList_dlist, Option.getD_some, Option.getD_none,
    finX_ret, finX_normal, finX_panic, runDefers_nil, runDefers, resX_none, resP_none, resP_some, readRes, readRes1, readRess,
    caseO_some, caseO_none, ifB_true, ifB_false, Nat.reduceAdd, Nat.reduceSub, Nat.reduceMul, Nat.reduceBEq, Bool.false_and, Bool.true_and, Bool.and_true, Bool.and_false, Nat.zero_add, Nat.add_zero, beq_self_eq_true, Bool.true_beq, Bool.false_beq, Bool.not_true, Bool.not_false, decide_true, decide_false, bindO, ptrOf_ptr, ptrOf_eptr, ptrOf_nilp, List.map_cons, List.map_nil, List.length_cons, List.length_nil, List.append_nil, List.nil_append, List.cons_append, List.isEmpty_nil, List.isEmpty_cons, Nat.reduceLeDiff, Int.reduceBEq, Int.reduceNeg, Nat.le_refl, h1, e0, e1, e2, form_mk, n_mk, name_mk, kids_mk]
  | false =>
  cases e3 : n == 3 with
  | true =>
    have ha1 : appendD kV 56 ⟨false, .nils⟩ (dlist kV (v.kids.map dV)) = some ⟨true, dlist kV (v.kids.map dV)⟩ := append_nils (asList_dlist) (all_dV _) (by simpa using hks)
    have ha2 : appendD kV 56 ⟨true, dlist kV (v.kids.map dV)⟩ (.list kV [.agg [.int .i64 1, .int .i64 0, .str [75, 64], .nils]]) = some ⟨true, dlist kV ((v.kids ++ [V.mk 1 0 [75, 64] []]).map dV)⟩ := by
      have := append_V v.kids (.mk 1 0 [75, 64] []) hks
      rw [dV_eq] at this
      exact this
    simp only [a11, exec_seq, exec_region, exec_cond, exec_block, exec_loop, exec_skip, exec_exit, exec_ret, thenX_normal, thenX_exit, thenX_ret, thenX_panic, blockX_normal, blockX_exit, blockX_ret, blockX_panic, opsX_normal, opsX_panic_none, opsX_panic_some, callX_ret, callX_panic, stepX_next, stepX_call, stepX_panic, runOps_nil, runOps_cons, clearEnv, adel, mem, initEnv, initSlots,
    stepOp, wantedA, evalOp, callOf, panicOf, evalV, addr, opd, opds, aget, aset, adel1, lkill, readCells, nth, Env.put, Env.putV, Env.box, Env.bare, dropOwn, dropOwnS, binD, binBD, binBool, binInt, binStr, unD, AOpd.drop, Cell.of, AOp.kind, sameKind, bool?_bool, bool?_undef, int?_int, str?_str, tup?_tup, fn?_fn, agg?_agg, row?_list, isNil?_iface, isNil?_nil, nat?_nat, nat?_zero, assertD, eqlB, isUndef, takeC, unownAt, fits, layCells, putCells, putD, cells_agg, cells_int, cells_bool, cells_str, cells_nils, cells_list, cells_nilp, cells_ptr, cells_iface, cells_fn, cells_nilfn, cells_niliface, cells_dlist, one_agg, one_int, one_bool, one_str, one_nils, one_list, one_nilp, one_ptr, one_iface, one_niliface, one_fn, one_nilfn, one_dlist, ok_agg, ok_int, ok_bool, ok_str, ok_nils, ok_list, ok_nilp, ok_ptr, ok_iface, ok_niliface, ok_fn, ok_nilfn, ok_dlist, fillD, partsOf, optLo, optHi, allSize, dlist_nil, lenOf_nils, lenOf_list, lenOf_dlist, asList_nils, asList_list, asList_dlist, Option.getD_some, Option.getD_none,
    finX_ret, finX_normal, finX_panic, runDefers_nil, runDefers, resX_none, resP_none, resP_some, readRes, readRes1, readRess,
    caseO_some, caseO_none, ifB_true, ifB_false, Nat.reduceAdd, Nat.reduceSub, Nat.reduceMul, Nat.reduceBEq, Bool.false_and, Bool.true_and, Bool.and_true, Bool.and_false, Nat.zero_add, Nat.add_zero, beq_self_eq_true, Bool.true_beq, Bool.false_beq, Bool.not_true, Bool.not_false, decide_true, decide_false, bindO, ptrOf_ptr, ptrOf_eptr, ptrOf_nilp, List.map_cons, List.map_nil, List.length_cons, List.length_nil, List.append_nil, List.nil_append, List.cons_append, List.isEmpty_nil, List.isEmpty_cons, Nat.reduceLeDiff, Int.reduceBEq, Int.reduceNeg, Nat.le_refl, h1, e0, e1, e2, e3, form_mk, n_mk, name_mk, kids_mk, ha1, ha2]
  | false =>
  cases e4 : n == 4 with
  | true =>
    have hloop := loopN_run (body := exec (T m) m a11_l0) (E11 v) (fun _ => σ) 38 (r := _) (fun _ _ h => by cases h) (fun i hi => l11_step hi) l11_end 0 m (by omega) (by omega)
    have hz : iterS v 0 = v := rfl
    simp only [E11, zeroC, zeroI, hz, bx] at hloop
    simp only [a11, exec_seq, exec_region, exec_cond, exec_block, exec_loop, exec_skip, exec_exit, exec_ret, thenX_normal, thenX_exit, thenX_ret, thenX_panic, blockX_normal, blockX_exit, blockX_ret, blockX_panic, opsX_normal, opsX_panic_none, opsX_panic_some, callX_ret, callX_panic, stepX_next, stepX_call, stepX_panic, runOps_nil, runOps_cons, clearEnv, adel, mem, initEnv, initSlots,
    stepOp, wantedA, evalOp, callOf, panicOf, evalV, addr, opd, opds, aget, aset, adel1, lkill, readCells, nth, Env.put, Env.putV, Env.box, Env.bare, dropOwn, dropOwnS, binD, binBD, binBool, binInt, binStr, unD, AOpd.drop, Cell.of, AOp.kind, sameKind, bool?_bool, bool?_undef, int?_int, str?_str, tup?_tup, fn?_fn, agg?_agg, row?_list, isNil?_iface, isNil?_nil, nat?_nat, nat?_zero, assertD, eqlB, isUndef, takeC, unownAt, fits, layCells, putCells, putD, cells_agg, cells_int, cells_bool, cells_str, cells_nils, cells_list, cells_nilp, cells_ptr, cells_iface, cells_fn, cells_nilfn, cells_niliface, cells_dlist, one_agg, one_int, one_bool, one_str, one_nils, one_list, one_nilp, one_ptr, one_iface, one_niliface, one_fn, one_nilfn, one_dlist, ok_agg, ok_int, ok_bool, ok_str, ok_nils, ok_list, ok_nilp, ok_ptr, ok_iface, ok_niliface, ok_fn, ok_nilfn, ok_dlist, fillD, partsOf, optLo, optHi, allSize, dlist_nil, lenOf_nils, lenOf_list, lenOf_dlist, asList_nils, asList_list, asList_dlist, Option.getD_some, Option.getD_none,
    finX_ret, finX_normal, finX_panic, runDefers_nil, runDefers, resX_none, resP_none, resP_some, readRes, readRes1, readRess,
    caseO_some, caseO_none, ifB_true, ifB_false, Nat.reduceAdd, Nat.reduceSub, Nat.reduceMul, Nat.reduceBEq, Bool.false_and, Bool.true_and, Bool.and_true, Bool.and_false, Nat.zero_add, Nat.add_zero, beq_self_eq_true, Bool.true_beq, Bool.false_beq, Bool.not_true, Bool.not_false, decide_true, decide_false, bindO, ptrOf_ptr, ptrOf_eptr, ptrOf_nilp, List.map_cons, List.map_nil, List.length_cons, List.length_nil, List.append_nil, List.nil_append, List.cons_append, List.isEmpty_nil, List.isEmpty_cons, Nat.reduceLeDiff, Int.reduceBEq, Int.reduceNeg, Nat.le_refl, h1, e0, e1, e2, e3, e4, hloop]
  | false =>
  cases e5 : n == 5 with
  | true =>
    have hl : dlist kV ([v, v, v, v, v, v, v, v, v].map dV) = .list kV [.agg [.int .i64 v.form, .int .i64 v.n, .str v.name, dlist kV (v.kids.map dV)], .agg [.int .i64 v.form, .int .i64 v.n, .str v.name, dlist kV (v.kids.map dV)], .agg [.int .i64 v.form, .int .i64 v.n, .str v.name, dlist kV (v.kids.map dV)], .agg [.int .i64 v.form, .int .i64 v.n, .str v.name, dlist kV (v.kids.map dV)], .agg [.int .i64 v.form, .int .i64 v.n, .str v.name, dlist kV (v.kids.map dV)], .agg [.int .i64 v.form, .int .i64 v.n, .str v.name, dlist kV (v.kids.map dV)], .agg [.int .i64 v.form, .int .i64 v.n, .str v.name, dlist kV (v.kids.map dV)], .agg [.int .i64 v.form, .int .i64 v.n, .str v.name, dlist kV (v.kids.map dV)], .agg [.int .i64 v.form, .int .i64 v.n, .str v.name, dlist kV (v.kids.map dV)]] := by
      simp only [List.map_cons, List.map_nil, dV_eq v]
      rfl
    simp only [form_mk, n_mk, name_mk, kids_mk, ifB_true, ifB_false, hl]
    simp only [a11, exec_seq, exec_region, exec_cond, exec_block, exec_loop, exec_skip, exec_exit, exec_ret, thenX_normal, thenX_exit, thenX_ret, thenX_panic, blockX_normal, blockX_exit, blockX_ret, blockX_panic, opsX_normal, opsX_panic_none, opsX_panic_some, callX_ret, callX_panic, stepX_next, stepX_call, stepX_panic, runOps_nil, runOps_cons, clearEnv, adel, mem, initEnv, initSlots,
    stepOp, wantedA, evalOp, callOf, panicOf, evalV, addr, opd, opds, aget, aset, adel1, lkill, readCells, nth, Env.put, Env.putV, Env.box, Env.bare, dropOwn, dropOwnS, binD, binBD, binBool, binInt, binStr, unD, AOpd.drop, Cell.of, AOp.kind, sameKind, bool?_bool, bool?_undef, int?_int, str?_str, tup?_tup, fn?_fn, agg?_agg, row?_list, isNil?_iface, isNil?_nil, nat?_nat, nat?_zero, assertD, eqlB, isUndef, takeC, unownAt, fits, layCells, putCells, putD, cells_agg, cells_int, cells_bool, cells_str, cells_nils, cells_list, cells_nilp, cells_ptr, cells_iface, cells_fn, cells_nilfn, cells_niliface, cells_dlist, one_agg, one_int, one_bool, one_str, one_nils, one_list, one_nilp, one_ptr, one_iface, one_niliface, one_fn, one_nilfn, one_dlist, ok_agg, ok_int, ok_bool, ok_str, ok_nils, ok_list, ok_nilp, ok_ptr, ok_iface, ok_niliface, ok_fn, ok_nilfn, ok_dlist, fillD, partsOf, optLo, optHi, allSize, dlist_nil, lenOf_nils, lenOf_list, lenOf_dlist, asList_nils, asList_list, asList_dlist, Option.getD_some, Option.getD_none,
    finX_ret, finX_normal, finX_panic, runDefers_nil, runDefers, resX_none, resP_none, resP_some, readRes, readRes1, readRess,
    caseO_some, caseO_none, ifB_true, ifB_false, Nat.reduceAdd, Nat.reduceSub, Nat.reduceMul, Nat.reduceBEq, Bool.false_and, Bool.true_and, Bool.and_true, Bool.and_false, Nat.zero_add, Nat.add_zero, beq_self_eq_true, Bool.true_beq, Bool.false_beq, Bool.not_true, Bool.not_false, decide_true, decide_false, bindO, ptrOf_ptr, ptrOf_eptr, ptrOf_nilp, List.map_cons, List.map_nil, List.length_cons, List.length_nil, List.append_nil, List.nil_append, List.cons_append, List.isEmpty_nil, List.isEmpty_cons, Nat.reduceLeDiff, Int.reduceBEq, Int.reduceNeg, Nat.le_refl, h1, e0, e1, e2, e3, e4, e5]
  | false => simp only [a11, exec_seq, exec_region, exec_cond, exec_block, exec_loop, exec_skip, exec_exit, exec_ret, thenX_normal, thenX_exit, thenX_ret, thenX_panic, blockX_normal, blockX_exit, blockX_ret, blockX_panic, opsX_normal, opsX_panic_none, opsX_panic_some, callX_ret, callX_panic, stepX_next, stepX_call, stepX_panic, runOps_nil, runOps_cons, clearEnv, adel, mem, initEnv, initSlots,
    stepOp, wantedA, evalOp, callOf, panicOf, evalV, addr, opd, opds, aget, aset, adel1, lkill, readCells, nth, Env.put, Env.putV, Env.box, Env.bare, dropOwn, dropOwnS, binD, binBD, binBool, binInt, binStr, unD, AOpd.drop, Cell.of, AOp.kind, sameKind, bool?_bool, bool?_undef, int?_int, str?_str, tup?_tup, fn?_fn, agg?_agg, row?_list, isNil?_iface, isNil?_nil, nat?_nat, nat?_zero, assertD, eqlB, isUndef, takeC, unownAt, fits, layCells, putCells, putD, cells_agg, cells_int, cells_bool, cells_str, cells_nils, cells_list, cells_nilp, cells_ptr, cells_iface, cells_fn, cells_nilfn, cells_niliface, cells_dlist, one_agg, one_int, one_bool, one_str, one_nils, one_list, one_nilp, one_ptr, one_iface, one_niliface, one_fn, one_nilfn, one_dlist, ok_agg, ok_int, ok_bool, ok_str, ok_nils, ok_list, ok_nilp, ok_ptr, ok_iface, ok_niliface, ok_fn, ok_nilfn, ok_dlist, fillD, partsOf, optLo, optHi, allSize, dlist_nil, lenOf_nils, lenOf_list, lenOf_dlist, asList_nils, asList_list, asList_dlist, Option.getD_some, Option.getD_none,
    finX_ret, finX_normal, finX_panic, runDefers_nil, runDefers, resX_none, resP_none, resP_some, readRes, readRes1, readRess,
    caseO_some, caseO_none, ifB_true, ifB_false, Nat.reduceAdd, Nat.reduceSub, Nat.reduceMul, Nat.reduceBEq, Bool.false_and, Bool.true_and, Bool.and_true, Bool.and_false, Nat.zero_add, Nat.add_zero, beq_self_eq_true, Bool.true_beq, Bool.false_beq, Bool.not_true, Bool.not_false, decide_true, decide_false, bindO, ptrOf_ptr, ptrOf_eptr, ptrOf_nilp, List.map_cons, List.map_nil, List.length_cons, List.length_nil, List.append_nil, List.nil_append, List.cons_append, List.isEmpty_nil, List.isEmpty_cons, Nat.reduceLeDiff, Int.reduceBEq, Int.reduceNeg, Nat.le_refl, h1, e0, e1, e2, e3, e4, e5]
/-! weights and numbers -/
theorem nameOf_len : ∀ q, (nameOf q).length ≤ 5
  | 0 | 1 | 2 | 3 | 4 | _ + 5 => by simp [nameOf]
theorem wts_step (done : List V) (x : Int) : wts (madeStep done x) ≤ wts done + 40 := by
  unfold madeStep stepBy
  generalize (posOf x / 32 % 6).toNat = q
  have hq := nameOf_len q
  generalize done.length - min (posOf x / 8 % 4).toNat done.length = i
  have htd := wts_take_drop done i
  split <;> rw [wts_append] <;> simp only [wts, wt, List.length_nil] <;> omega
theorem wts_madeL (xs : List Int) : ∀ i, wts (madeL xs i) ≤ 30 + 40 * i
  | 0 => by simp [madeL, wts, wt]
  | i + 1 => by
    have ih := wts_madeL xs i
    by_cases h : i < xs.length
    · rw [madeL_succ xs i h]
      have := wts_step (madeL xs i) xs[i]
      omega
    · have : madeL xs (i + 1) = madeL xs i := by
        unfold madeL
        rw [List.take_of_length_le (by omega), List.take_of_length_le (by omega)]
      rw [this]
      omega
theorem wt_made (xs : List Int) : wt (made xs) ≤ 2430 := by
  have h1 := wts_madeL xs (min xs.length 60)
  have h2 := wt_mem (getLastD_mem (madeL xs (min xs.length 60)) (.mk 4 0 [] []) (madeL_len _ _).1)
  unfold made
  omega
theorem nums_leaf {f n : Int} (h : Small' n) : Nums (.mk f n [] []) := .mk _ _ _ _ h (fun k h => by cases h)
theorem nums_step (done : List V) (x : Int) (hx : Small x) (h : ∀ v ∈ done, Nums v) : ∀ v ∈ madeStep done x, Nums v := by
  have hz : Small' 0 := ⟨by omega, by omega⟩
  have hd := small_tdiv hx
  unfold madeStep stepBy
  intro v hv
  split at hv
  all_goals
    rw [List.mem_append] at hv
    rcases hv with hv | hv
  · exact h v hv
  · rw [List.mem_singleton.1 hv]; exact nums_leaf hz
  · exact h v hv
  · rw [List.mem_singleton.1 hv]; exact nums_leaf hz
  · exact h v hv
  · rw [List.mem_singleton.1 hv]; exact nums_leaf hd
  · exact h v hv
  · rw [List.mem_singleton.1 hv]; exact nums_leaf hd
  · exact h v (List.mem_of_mem_take hv)
  · rw [List.mem_singleton.1 hv]
    exact .mk _ _ _ _ hz (fun k hk => h k (List.mem_of_mem_drop hk))
theorem nums_madeL (xs : List Int) (hxs : ∀ x ∈ xs, Small x) : ∀ i, ∀ v ∈ madeL xs i, Nums v
  | 0 => by
    intro v hv
    simp [madeL] at hv
    rw [hv]
    exact nums_leaf ⟨by omega, by omega⟩
  | i + 1 => by
    have ih := nums_madeL xs hxs i
    by_cases h : i < xs.length
    · rw [madeL_succ xs i h]
      exact nums_step _ _ (hxs _ (List.getElem_mem h)) ih
    · have : madeL xs (i + 1) = madeL xs i := by
        unfold madeL
        rw [List.take_of_length_le (by omega), List.take_of_length_le (by omega)]
      rw [this]
      exact ih
theorem nums_made (xs : List Int) (hxs : ∀ x ∈ xs, Small x) : Nums (made xs) := nums_madeL xs hxs _ _ (getLastD_mem _ _ (madeL_len _ _).1)
theorem wrap_small (z : Int) : Small' (IntKind.i64.wrap z) := by
  unfold Small'
  simp [IntKind.wrap, IntKind.bits, IntKind.signed]
  omega
theorem wt_iterS (v : V) : ∀ i, wt (iterS v i) = 31 * i + wt v
  | 0 => by simp [iterS]
  | i + 1 => by
    have := wt_iterS v i
    simp only [iterS, wrapS, wt, wts, List.length_cons, List.length_nil]
    omega
theorem nums_iterS {v : V} (h : Nums v) : ∀ i, Nums (iterS v i)
  | 0 => h
  | i + 1 => .mk _ _ _ _ ⟨by omega, by omega⟩ (fun k hk => by rw [List.mem_singleton.1 hk]; exact nums_iterS h i)
theorem wild_ok (v : V) (n : Int) (hn : Nums v) (hw : wt v ≤ 2430) : Nums (wild v n) ∧ wt (wild v n) < 1000000 := by
  have hi := nums_iterS hn 38
  have hwi := wt_iterS v 38
  have hz : Small' 0 := ⟨by omega, by omega⟩
  cases v with
  | mk f m s ks =>
    cases hn with
    | mk _ _ _ _ hm hk =>
      have hv : Nums (.mk f m s ks) := .mk _ _ _ _ hm hk
      have hw' := hw
      rw [wt] at hw'
      unfold wild
      simp only [form_mk, n_mk, name_mk, kids_mk]
      cases n == 0 with
      | true => exact ⟨.mk _ _ _ _ hm hk, by simp only [ifB_true, wt, List.length_cons, List.length_nil]; omega⟩
      | false =>
      cases n == 1 with
      | true => exact ⟨.mk _ _ _ _ hm hk, by simp only [ifB_true, ifB_false, wt]; omega⟩
      | false =>
      cases n == 2 with
      | true => exact ⟨.mk _ _ _ _ (wrap_small _) hk, by simp only [ifB_true, ifB_false, wt]; omega⟩
      | false =>
      cases n == 3 with
      | true =>
        refine ⟨.mk _ _ _ _ hm fun k hk' => ?_, by simp only [ifB_true, ifB_false, wt, wts_append, wts, List.length_cons, List.length_nil]; omega⟩
        rcases List.mem_append.1 hk' with h | h
        · exact hk k h
        · rw [List.mem_singleton.1 h]; exact .mk _ _ _ _ hz (fun k h => by cases h)
      | false =>
      cases n == 4 with
      | true => exact ⟨hi, by simp only [ifB_true, ifB_false]; omega⟩
      | false =>
      cases n == 5 with
      | true =>
        refine ⟨.mk _ _ _ _ hz fun k hk' => ?_, by simp only [ifB_true, ifB_false, wt, wts, List.length_cons, List.length_nil]; omega⟩
        simp only [List.mem_cons, List.not_mem_nil, or_false, or_self] at hk'
        rw [hk']
        exact hv
      | false => exact ⟨hv, by simp only [ifB_false]; omega⟩
theorem law_prints (d : D) (l : List Int) (n : Int) (hd : ListD d l) (hl : ∀ x ∈ l, Small x) (hn : Small n) : Evly fun m => ∀ σ, T m 3 [d, .int .i64 n] σ = some (.ret ⟨false, .bool true⟩, σ) := by
  obtain ⟨v, hv⟩ : ∃ v, v = made l := ⟨_, rfl⟩
  obtain ⟨w, hw⟩ : ∃ w, w = wild v n := ⟨_, rfl⟩
  have nv : Nums v := hv ▸ nums_made l hl
  have wv : wt v ≤ 2430 := hv ▸ wt_made l
  obtain ⟨nw, ww⟩ : Nums w ∧ wt w < 1000000 := hw ▸ wild_ok v n nv wv
  have r1 := made_run d l hd hl
  have r2 := wild_run d l hd hl n
  have r4 := rprint_run v nv (by omega)
  have r5 := rprint_run w nw ww
  rw [← hv] at r1 r2
  rw [← hw] at r2
  refine (((r1.and r2).and pprint_run).and ((r4.and r5).and lives_run)).step 0 fun m _ hh σ => ?_
  obtain ⟨⟨⟨r1, r2⟩, r3⟩, ⟨⟨r4, r5⟩, r6⟩⟩ := hh
  have r1 := r1 σ
  have r2 := r2 σ
  have r3v := r3 v (printable_of nv (by omega)) σ
  have r3w := r3 w (printable_of nw ww) σ
  have r4 := r4 σ
  have r5 := r5 σ
  have r6 := r6 σ
  rw [print_same] at r3v r3w
  generalize rprint v = b1 at *
  generalize rprint w = b2 at *
  rw [dV_eq v] at r1 r3v r4
  rw [dV_eq w] at r2 r3w r5
  rw [T_fun (af := a3) rfl rfl]
  simp only [a3, exec_seq, exec_region, exec_cond, exec_block, exec_loop, exec_skip, exec_exit, exec_ret, thenX_normal, thenX_exit, thenX_ret, thenX_panic, blockX_normal, blockX_exit, blockX_ret, blockX_panic, opsX_normal, opsX_panic_none, opsX_panic_some, callX_ret, callX_panic, stepX_next, stepX_call, stepX_panic, runOps_nil, runOps_cons, clearEnv, adel, mem, initEnv, initSlots,
    stepOp, wantedA, evalOp, callOf, panicOf, evalV, addr, opd, opds, aget, aset, adel1, lkill, readCells, nth, Env.put, Env.putV, Env.box, Env.bare, dropOwn, dropOwnS, binD, binBD, binBool, binInt, binStr, unD, AOpd.drop, Cell.of, AOp.kind, sameKind, bool?_bool, bool?_undef, int?_int, str?_str, tup?_tup, fn?_fn, agg?_agg, row?_list, isNil?_iface, isNil?_nil, nat?_nat, nat?_zero, assertD, eqlB, isUndef, takeC, unownAt, fits, layCells, putCells, putD, cells_agg, cells_int, cells_bool, cells_str, cells_nils, cells_list, cells_nilp, cells_ptr, cells_iface, cells_fn, cells_nilfn, cells_niliface, cells_dlist, one_agg, one_int, one_bool, one_str, one_nils, one_list, one_nilp, one_ptr, one_iface, one_niliface, one_fn, one_nilfn, one_dlist, ok_agg, ok_int, ok_bool, ok_str, ok_nils, ok_list, ok_nilp, ok_ptr, ok_iface, ok_niliface, ok_fn, ok_nilfn, ok_dlist, fillD, partsOf, optLo, optHi, allSize, dlist_nil, lenOf_nils, lenOf_list, lenOf_dlist, asList_nils, asList_list, asList_dlist, Option.getD_some, Option.getD_none,
    finX_ret, finX_normal, finX_panic, runDefers_nil, runDefers, resX_none, resP_none, resP_some, readRes, readRes1, readRess,
    caseO_some, caseO_none, ifB_true, ifB_false, Nat.reduceAdd, Nat.reduceSub, Nat.reduceMul, Nat.reduceBEq, Bool.false_and, Bool.true_and, Bool.and_true, Bool.and_false, Nat.zero_add, Nat.add_zero, beq_self_eq_true, Bool.true_beq, Bool.false_beq, Bool.not_true, Bool.not_false, decide_true, decide_false, bindO, ptrOf_ptr, ptrOf_eptr, ptrOf_nilp, List.map_cons, List.map_nil, List.length_cons, List.length_nil, List.append_nil, List.nil_append, List.cons_append, List.isEmpty_nil, List.isEmpty_cons, Nat.reduceLeDiff, Int.reduceBEq, Int.reduceNeg, Nat.le_refl, r1, r2, r3v, r3w, r4, r5, r6]
end Go.Proofs.YtdoppkjoemlhjaaDoor.Sh

