/-
  A value's print: the program's function, at every store.
-/
import Derived.Test.YtdoppkjoemlhjaaDoorShPut
set_option linter.unusedSimpArgs false
set_option linter.unusedVariables false
namespace Go.Proofs.YtdoppkjoemlhjaaDoor.Sh
open Go Go.Mx
def pprint (v : V) : List UInt8 := ifB (told v 40) (ptext v false) []
theorem digF_ne : ∀ (k n : Nat) (acc : List UInt8), acc ≠ [] → digF k n acc ≠ []
  | 0, _, acc, h => h
  | k + 1, n, acc, _ => by
    rw [digF]
    cases decide (n < 10) with
    | true => simp [ifB_true]
    | false => rw [ifB_false]; exact digF_ne k _ _ (by simp)
theorem digN_ne (n : Nat) : digN n ≠ [] := by
  unfold digN
  rw [digF]
  cases decide (n < 10) with
  | true => simp [ifB_true]
  | false => rw [ifB_false]; exact digF_ne _ _ _ (by simp)
theorem itoaN_ne (n : Int) : itoaN n ≠ [] := by
  cases n with
  | ofNat m => exact digN_ne m
  | negSucc m => simp [itoaN]
theorem upperB_ne {s : List UInt8} (h : upperB s = true) : s ≠ [] := by
  intro e
  rw [e] at h
  simp [upperB] at h
theorem told_head (f n : Int) (s : List UInt8) (ks : List V) (d : Nat) (h : told (.mk f n s ks) d = true) : phead f n s ≠ [] := by
  rw [told] at h
  unfold phead
  cases h2 : f == 2 with
  | true => rw [ifB_true]; exact itoaN_ne n
  | false =>
    rw [ifB_false]
    cases h3 : f == 3 with
    | true => simp [ifB_true]
    | false =>
      rw [ifB_false]
      cases h4 : f == 4 with
      | true => simp [ifB_true]
      | false =>
        rw [ifB_false]
        rw [h2, h3, h4] at h
        simp only [ifB_false] at h
        cases h1 : f == 1 with
        | false => rw [h1] at h; cases h
        | true =>
          rw [h1] at h
          simp only [ifB_true, Bool.and_eq_true] at h
          exact upperB_ne h.1.1.2
theorem ptext_ne (v : V) (w : Bool) (d : Nat) (h : told v d = true) : ptext v w ≠ [] := by
  cases v with
  | mk f n s ks =>
    have := told_head f n s ks d h
    rw [ptext]
    cases (w && (decide (0 < ks.length) || decide (n < 0))) with
    | true => rw [ifB_true]; simp
    | false => rw [ifB_false]; simp [this]
def σ2 : Store := { objs := [], tys := [], iters := [], next := 2 }
set_option maxRecDepth 10000
theorem string_run (s : List UInt8) (h : s ≠ []) : Xu Xl 32 [.ptr 0 0] (SB true true s) = some (.ret ⟨false, .str s⟩, SB true false s) := by
  cases s with
  | nil => exact absurd rfl h
  | cons b r =>
    have hb := bytesOf_bytesD (b :: r)
    have hd : dlist kB (bytesD (b :: r)) = .list kB (bytesD (b :: r)) := rfl
    have he : (bytesD (b :: r)).isEmpty = false := rfl
    have hk : isByteRow kB = true := rfl
    have h49 : ((49 : Nat) == 49) = true := rfl
    show xString [.ptr 0 0] (SB true true (b :: r)) = _
    simp only [xString, SB, bindO, hd, he, hk, hb, h49, aget, aset, Nat.reduceBEq, Bool.and_self, Bool.not_false, ifB_true, ifB_false, caseO_some, Bool.and_true]
theorem print_run (v : V) (hf : FitN v) (hl : told v 40 = true → (ptext v false).length < 1000000000) : Evly fun n => TP n 12 [dV v] σ0 = some (.ret ⟨false, .str (pprint v)⟩, ifB (told v 40) σ2 σ0) := by
  refine ((told_run v hf.fit 40 (by omega)).and ((put_run v hf).and ((Evly.all (p := fun _ => True) fun _ => trivial).step (q := fun n => ∀ s, s ≠ [] → TP n 32 [.ptr 0 0] (SB true true s) = some (.ret ⟨false, .str s⟩, SB true false s)) 0 fun m _ _ s hs => by rw [TP_lib rfl]; exact string_run s hs))).step 0 fun m _ ⟨ht, hp, hs⟩ => ?_
  have ht : TP m 27 [dV v, .int .i64 40] σ0 = some (.ret ⟨false, .bool (told v 40)⟩, σ0) := ht σ0
  rw [TP_fun (af := a12) rfl rfl]
  unfold pprint
  cases htold : told v 40 with
  | false =>
    rw [htold] at ht
    rw [dV_eq] at ht ⊢
    simp only [σ0] at ht
    simp only [a12, σ0, exec_seq, exec_region, exec_cond, exec_block, exec_loop, exec_skip, exec_exit, exec_ret, thenX_normal, thenX_exit, thenX_ret, thenX_panic, blockX_normal, blockX_exit, blockX_ret, blockX_panic, opsX_normal, opsX_panic_none, opsX_panic_some, callX_ret, callX_panic, stepX_next, stepX_call, stepX_panic, runOps_nil, runOps_cons, clearEnv, adel, mem, initEnv, initSlots,
    stepOp, wantedA, evalOp, callOf, panicOf, evalV, addr, opd, opds, aget, aset, adel1, lkill, readCells, nth, Env.put, Env.putV, Env.box, Env.bare, dropOwn, dropOwnS, binD, binBD, binBool, binInt, binStr, unD, AOpd.drop, Cell.of, AOp.kind, sameKind, bool?_bool, bool?_undef, int?_int, str?_str, tup?_tup, fn?_fn, agg?_agg, row?_list, isNil?_iface, isNil?_nil, nat?_nat, nat?_zero, assertD, eqlB, isUndef, takeC, unownAt, fits, layCells, putCells, putD, cells_agg, cells_int, cells_bool, cells_str, cells_nils, cells_list, cells_nilp, cells_ptr, cells_iface, cells_fn, cells_nilfn, cells_niliface, cells_dlist, one_agg, one_int, one_bool, one_str, one_nils, one_list, one_nilp, one_ptr, one_iface, one_niliface, one_fn, one_nilfn, one_dlist, ok_agg, ok_int, ok_bool, ok_str, ok_nils, ok_list, ok_nilp, ok_ptr, ok_iface, ok_niliface, ok_fn, ok_nilfn, ok_dlist, fillD, partsOf, optLo, optHi, allSize, dlist_nil, lenOf_nils, lenOf_list, lenOf_dlist, asList_nils, asList_list, asList_dlist, Option.getD_some, Option.getD_none,
    finX_ret, finX_normal, finX_panic, runDefers_nil, runDefers, resX_none, resP_none, resP_some, readRes, readRes1, readRess,
    caseO_some, caseO_none, ifB_true, ifB_false, Nat.reduceAdd, Nat.reduceSub, Nat.reduceMul, Nat.reduceBEq, Bool.false_and, Bool.true_and, Bool.and_true, Bool.and_false, Nat.zero_add, Nat.add_zero, beq_self_eq_true, Bool.true_beq, Bool.false_beq, Bool.not_true, Bool.not_false, decide_true, decide_false, bindO, ptrOf_ptr, ptrOf_eptr, ptrOf_nilp, List.map_cons, List.map_nil, List.length_cons, List.length_nil, List.append_nil, List.nil_append, List.cons_append, List.isEmpty_nil, List.isEmpty_cons, Nat.reduceLeDiff, Int.reduceBEq, Int.reduceNeg, Nat.le_refl, ht]
    rfl
  | true =>
    rw [htold] at ht
    have hp := hp false false false [] (fun h => absurd rfl h) (by simpa using hl htold)
    have hs := hs (ptext v false) (ptext_ne v false 40 htold)
    rw [dV_eq] at ht hp ⊢
    simp only [σ0] at ht
    simp only [SB, bytesD, dlist_nil, ifB_false, ifB_true, List.nil_append] at hp hs
    simp only [a12, σ0, exec_seq, exec_region, exec_cond, exec_block, exec_loop, exec_skip, exec_exit, exec_ret, thenX_normal, thenX_exit, thenX_ret, thenX_panic, blockX_normal, blockX_exit, blockX_ret, blockX_panic, opsX_normal, opsX_panic_none, opsX_panic_some, callX_ret, callX_panic, stepX_next, stepX_call, stepX_panic, runOps_nil, runOps_cons, clearEnv, adel, mem, initEnv, initSlots,
    stepOp, wantedA, evalOp, callOf, panicOf, evalV, addr, opd, opds, aget, aset, adel1, lkill, readCells, nth, Env.put, Env.putV, Env.box, Env.bare, dropOwn, dropOwnS, binD, binBD, binBool, binInt, binStr, unD, AOpd.drop, Cell.of, AOp.kind, sameKind, bool?_bool, bool?_undef, int?_int, str?_str, tup?_tup, fn?_fn, agg?_agg, row?_list, isNil?_iface, isNil?_nil, nat?_nat, nat?_zero, assertD, eqlB, isUndef, takeC, unownAt, fits, layCells, putCells, putD, cells_agg, cells_int, cells_bool, cells_str, cells_nils, cells_list, cells_nilp, cells_ptr, cells_iface, cells_fn, cells_nilfn, cells_niliface, cells_dlist, one_agg, one_int, one_bool, one_str, one_nils, one_list, one_nilp, one_ptr, one_iface, one_niliface, one_fn, one_nilfn, one_dlist, ok_agg, ok_int, ok_bool, ok_str, ok_nils, ok_list, ok_nilp, ok_ptr, ok_iface, ok_niliface, ok_fn, ok_nilfn, ok_dlist, fillD, partsOf, optLo, optHi, allSize, dlist_nil, lenOf_nils, lenOf_list, lenOf_dlist, asList_nils, asList_list, asList_dlist, Option.getD_some, Option.getD_none,
    finX_ret, finX_normal, finX_panic, runDefers_nil, runDefers, resX_none, resP_none, resP_some, readRes, readRes1, readRess,
    caseO_some, caseO_none, ifB_true, ifB_false, Nat.reduceAdd, Nat.reduceSub, Nat.reduceMul, Nat.reduceBEq, Bool.false_and, Bool.true_and, Bool.and_true, Bool.and_false, Nat.zero_add, Nat.add_zero, beq_self_eq_true, Bool.true_beq, Bool.false_beq, Bool.not_true, Bool.not_false, decide_true, decide_false, bindO, ptrOf_ptr, ptrOf_eptr, ptrOf_nilp, List.map_cons, List.map_nil, List.length_cons, List.length_nil, List.append_nil, List.nil_append, List.cons_append, List.isEmpty_nil, List.isEmpty_cons, Nat.reduceLeDiff, Int.reduceBEq, Int.reduceNeg, Nat.le_refl, ht, hp, hs]
    rfl
theorem noPtrL_dVs : ∀ l : List V, (∀ v ∈ l, noPtr (dV v) = true) → noPtrL (l.map dV) = true
  | [], _ => rfl
  | v :: l, h => by
    simp only [List.map_cons, noPtrL, h v (List.mem_cons_self ..), Bool.true_and]
    exact noPtrL_dVs l fun x hx => h x (List.mem_cons_of_mem _ hx)
theorem noPtr_dV (v : V) (hf : Fit v) : noPtr (dV v) = true := by
  induction hf with
  | mk f n s ks h hk ih =>
    rw [dV_eq]
    have := noPtrL_dVs ks ih
    have h2 : noPtr (dlist kV (ks.map dV)) = true := by
      cases hks : ks.map dV with
      | nil => rfl
      | cons a l => rw [hks] at this; exact this
    simp only [noPtr, noPtrL, V.kids, h2, Bool.and_self]
theorem print_ok (v : V) (hf : FitN v) (hl : told v 40 = true → (ptext v false).length < 1000000000) (σ : Store) : CallOK Tryd.prog κ 12 [dV v] σ (.ret ⟨false, .str (pprint v)⟩) σ := by
  obtain ⟨n, hn⟩ := print_run v hf hl
  exact frame_rule (TP_sound n 12 [dV v] σ0 _ _ (hn n (Nat.le_refl _))) (by simp only [noPtrL, noPtr_dV v hf.fit, Bool.and_self]) rfl σ
end Go.Proofs.YtdoppkjoemlhjaaDoor.Sh

