/-
  Values made of numbers: the whole.
-/
import Derived.Test.YtdoppkjoemlhjaaDoorShMadeS
set_option linter.unusedSimpArgs false
set_option linter.unusedVariables false
namespace Go.Proofs.YtdoppkjoemlhjaaDoor.Sh
open Go Go.Mx
set_option maxRecDepth 10000
theorem madeL_step_small {xs : List Int} (hxs : ∀ x ∈ xs, Small x) {i : Nat} (h : i < xs.length) : Small xs[i] := hxs _ (List.getElem_mem h)
theorem made_run (d : D) (xs : List Int) (hd : ListD d xs) (hxs : ∀ x ∈ xs, Small x) : Evly fun n => ∀ σ, T n 10 [d] σ = some (.ret ⟨false, dV (made xs)⟩, σ) := by
  refine name_run.step 62 fun m hm hname σ => ?_
  rw [T_fun (af := a10) rfl rfl]
  have hloop := loopN_run (body := exec (T m) m a10_l0) (fun i => E10 d (madeL xs i) i) (fun _ => σ) (min xs.length 60) (r := _) (fun _ _ h => by cases h)
    (fun i hi => by
      have hlt : i < xs.length := by omega
      rw [madeL_succ xs i hlt]
      exact l10_step d xs (madeL xs i) hd i hlt (by omega) (madeL_step_small hxs hlt) (madeL_len xs i).1 (by have := (madeL_len xs i).2; omega) (fun q hq => hname q hq σ))
    (l10_end d xs (madeL xs (min xs.length 60)) hd _ rfl) 0 m (by omega) (by omega)
  have hm1 := madeL_len xs (min xs.length 60)
  have hmade : nth ((madeL xs (min xs.length 60)).map dV) ((madeL xs (min xs.length 60)).length - 1) = some (dV (made xs)) := by
    unfold made
    generalize madeL xs (min xs.length 60) = l at hm1
    have hne := hm1.1
    rw [nth_map, nth_get _ _ (by have := List.length_pos_iff.2 hne; omega)]
    rw [List.getLastD_eq_getLast?, ← List.getLast_eq_getElem hne, List.getLast?_eq_some_getLast hne]
    rfl
  have h0 : madeL xs 0 = [.mk 4 0 [] []] := rfl
  have hd0 : dlist kV ([V.mk 4 0 [] []].map dV) = .list kV [.agg [.int .i64 4, .int .i64 0, .str [], .nils]] := rfl
  generalize madeL xs (min xs.length 60) = l at *
  have hlen : 0 < l.length := List.length_pos_iff.2 hm1.1
  have hrow : (dlist kV (l.map dV)).row? = some (kV, l.map dV) := kid_row l 0 hlen
  have hw : IntKind.i64.wrap (((l.length : Nat) : Int) - 1) = ((l.length - 1 : Nat) : Int) := by
    rw [wrap64 (by omega) (by omega)]
    omega
  rw [dV_eq] at hmade ⊢
  simp only [h0, E10, hd0, zeroI] at hloop
  simp only [a10, exec_seq, exec_region, exec_cond, exec_block, exec_loop, exec_skip, exec_exit, exec_ret, thenX_normal, thenX_exit, thenX_ret, thenX_panic, blockX_normal, blockX_exit, blockX_ret, blockX_panic, opsX_normal, opsX_panic_none, opsX_panic_some, callX_ret, callX_panic, stepX_next, stepX_call, stepX_panic, runOps_nil, runOps_cons, clearEnv, adel, mem, initEnv, initSlots,
    stepOp, wantedA, evalOp, callOf, panicOf, evalV, addr, opd, opds, aget, aset, adel1, lkill, readCells, nth, Env.put, Env.putV, Env.box, Env.bare, dropOwn, dropOwnS, binD, binBD, binBool, binInt, binStr, unD, AOpd.drop, Cell.of, AOp.kind, sameKind, bool?_bool, int?_int, str?_str, tup?_tup, fn?_fn, agg?_agg, row?_list, isNil?_iface, isNil?_nil, nat?_nat, nat?_zero, assertD, eqlB, isUndef, takeC, unownAt, fits, layCells, putCells, putD, cells_agg, cells_int, cells_bool, cells_str, cells_nils, cells_list, cells_nilp, cells_ptr, cells_iface, cells_fn, cells_nilfn, cells_niliface, cells_dlist, one_agg, one_int, one_bool, one_str, one_nils, one_list, one_nilp, one_ptr, one_iface, one_niliface, one_fn, one_nilfn, one_dlist, ok_agg, ok_int, ok_bool, ok_str, ok_nils, ok_list, ok_nilp, ok_ptr, ok_iface, ok_niliface, ok_fn, ok_nilfn, ok_dlist, fillD, partsOf, optLo, optHi, allSize, dlist_nil, lenOf_nils, lenOf_list, lenOf_dlist, asList_nils, asList_list, asList_dlist, Option.getD_some, Option.getD_none,
    finX_ret, finX_normal, finX_panic, runDefers_nil, runDefers, resX_none, resP_none, resP_some, readRes, readRes1, readRess,
    caseO_some, caseO_none, ifB_true, ifB_false, Nat.reduceAdd, Nat.reduceSub, Nat.reduceMul, Nat.reduceBEq, Bool.false_and, Bool.true_and, Bool.and_true, Bool.and_false, Nat.zero_add, Nat.add_zero, beq_self_eq_true, Bool.true_beq, Bool.false_beq, Bool.not_true, Bool.not_false, decide_true, decide_false, bindO, ptrOf_ptr, ptrOf_eptr, ptrOf_nilp, List.map_cons, List.map_nil, List.length_cons, List.length_nil, List.append_nil, List.nil_append, List.cons_append, List.isEmpty_nil, List.isEmpty_cons, Nat.reduceLeDiff, Int.reduceBEq, Int.reduceNeg, Nat.le_refl, hloop, List.length_map, hw, hmade, hrow]
end Go.Proofs.YtdoppkjoemlhjaaDoor.Sh
