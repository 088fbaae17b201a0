/-
  The reader of prints: what stands ahead, words.
-/
import Derived.Test.YtdoppkjoemlhjaaDoorShRun0
import Derived.Test.YtdoppkjoemlhjaaDoorShGoodD
set_option linter.unusedSimpArgs false
set_option linter.unusedVariables false
namespace Go.Proofs.YtdoppkjoemlhjaaDoor.Sh
open Go Go.Mx
noncomputable def XR : CallF := fun f ds σ => match f with
  | 57 => bindO (xAtoi ds) fun d => some (.ret ⟨false, d⟩, σ)
  | f => Xq f ds σ
theorem XR_sound : CSound Tryd.prog κ XR := by
  intro f ds σ out σ' h
  unfold XR at h
  split at h
  · obtain ⟨d, h1, h2⟩ := bindO_some h
    cases h2
    exact xAtoi_ok h1 σ
  · exact Xq_sound _ _ _ _ _ h
def Γr : FuncId → Option AFun := fun f => ifB (f == 57 || f == 24 || f == 12) none (Γl f)
theorem Γr_holds : Holds Tryd.prog Γr := by
  intro f af h
  unfold Γr at h
  cases hf : (f == 57 || f == 24 || f == 12) with
  | true => rw [hf] at h; cases h
  | false => rw [hf] at h; exact Γl_holds f af h
noncomputable def TR (n : Nat) : CallF := runQ Γr Rl XR n false
noncomputable def TRD (n : Nat) : CallF := runQ Γr Rl XR n true
theorem TR_sound (n : Nat) : CSound Tryd.prog κ (TR n) := (run_sound Γr_holds Rl_sound XR_sound n).1
theorem TR_fun {n : Nat} {f : FuncId} {af : AFun} {ds : List D} {σ : Store} (h : Γr f = some af) (hl : ds.length = af.nargs) : TR (n + 1) f ds σ = finX Rl (TRD n) af σ.next (exec (TR n) n af.body (initEnv ds) σ) := runQ_fun h hl
theorem TR_lib {n : Nat} {f : FuncId} {ds : List D} {σ : Store} (h : Γr f = none) : TR (n + 1) f ds σ = XR f ds σ := runQ_lib h
theorem slice_str_to {s : List UInt8} {hi : Nat} (h : hi ≤ s.length) : sliceStr s 0 (some hi) = some (.str (s.take hi)) := by
  simp only [sliceStr, Option.getD_some, decide_eq_true (Nat.zero_le hi), decide_eq_true h, Bool.and_self, ifB_true, List.drop_zero, Nat.sub_zero]
theorem slice_str_from {s : List UInt8} {lo : Nat} (h : lo ≤ s.length) : sliceStr s lo none = some (.str (s.drop lo)) := by
  simp only [sliceStr, Option.getD_none, decide_eq_true h, decide_eq_true (Nat.le_refl s.length), Bool.and_self, ifB_true]
  rw [List.take_of_length_le (by simp)]
set_option maxRecDepth 10000
/-- What stands behind a byte, if it stands ahead. -/
def cutB (b : UInt8) : List UInt8 → List UInt8 × Bool
  | [] => ([], false)
  | c :: r => ifB (c == b) (r, true) (c :: r, false)
theorem cutB_cons (b c : UInt8) (r : List UInt8) : cutB b (c :: r) = ifB (c == b) (r, true) (c :: r, false) := rfl
theorem hasp_run : Evly fun n => ∀ (b : UInt8) l σ, TR n 67 [.str l, .str [b]] σ = some (.ret ⟨false, .bool (cutB b l).2⟩, σ) := (Evly.all (p := fun _ => True) fun _ => trivial).step 0 fun m _ _ b l σ => by
  rw [TR_fun (af := a67) rfl rfl]
  cases l with
  | nil =>
    have h : ¬ ((((0 : Nat) : Int)) ≥ (((1 : Nat) : Int))) := by omega
    simp only [a67, exec_seq, exec_region, exec_cond, exec_block, exec_loop, exec_skip, exec_exit, exec_ret, thenX_normal, thenX_exit, thenX_ret, thenX_panic, blockX_normal, blockX_exit, blockX_ret, blockX_panic, opsX_normal, opsX_panic_none, opsX_panic_some, callX_ret, callX_panic, stepX_next, stepX_call, stepX_panic, runOps_nil, runOps_cons, clearEnv, adel, mem, initEnv, initSlots,
    stepOp, wantedA, evalOp, callOf, panicOf, evalV, addr, opd, opds, aget, aset, adel1, lkill, readCells, nth, Env.put, Env.putV, Env.box, Env.bare, dropOwn, dropOwnS, binD, binBD, binBool, binInt, binStr, unD, AOpd.drop, Cell.of, AOp.kind, sameKind, bool?_bool, bool?_undef, int?_int, str?_str, tup?_tup, fn?_fn, agg?_agg, row?_list, isNil?_iface, isNil?_nil, nat?_nat, nat?_zero, assertD, eqlB, isUndef, takeC, unownAt, fits, layCells, putCells, putD, cells_agg, cells_int, cells_bool, cells_str, cells_nils, cells_list, cells_nilp, cells_ptr, cells_iface, cells_fn, cells_nilfn, cells_niliface, cells_dlist, one_agg, one_int, one_bool, one_str, one_nils, one_list, one_nilp, one_ptr, one_iface, one_niliface, one_fn, one_nilfn, one_dlist, ok_agg, ok_int, ok_bool, ok_str, ok_nils, ok_list, ok_nilp, ok_ptr, ok_iface, ok_niliface, ok_fn, ok_nilfn, ok_dlist, fillD, partsOf, optLo, optHi, allSize, dlist_nil, lenOf_nils, lenOf_list, lenOf_dlist, asList_nils, asList_list, asList_dlist, Option.getD_some, Option.getD_none,
    finX_ret, finX_normal, finX_panic, runDefers_nil, runDefers, resX_none, resP_none, resP_some, readRes, readRes1, readRess,
    caseO_some, caseO_none, ifB_true, ifB_false, Nat.reduceAdd, Nat.reduceSub, Nat.reduceMul, Nat.reduceBEq, Bool.false_and, Bool.true_and, Bool.and_true, Bool.and_false, Nat.zero_add, Nat.add_zero, beq_self_eq_true, Bool.true_beq, Bool.false_beq, Bool.not_true, Bool.not_false, decide_true, decide_false, bindO, ptrOf_ptr, ptrOf_eptr, ptrOf_nilp, List.map_cons, List.map_nil, List.length_cons, List.length_nil, List.append_nil, List.nil_append, List.cons_append, List.isEmpty_nil, List.isEmpty_cons, Nat.reduceLeDiff, Int.reduceBEq, Int.reduceNeg, Nat.le_refl, h, cutB]
  | cons c r =>
    have h : ((((c :: r).length : Nat) : Int)) ≥ (((1 : Nat) : Int)) := by simp only [List.length_cons]; omega
    have hs := slice_str_to (s := c :: r) (hi := 1) (by simp)
    have ht : (c :: r).take 1 = [c] := rfl
    rw [ht] at hs
    have he : (([c] : List UInt8) == [b]) = (c == b) := by
      simp
    have hb : (cutB b (c :: r)).2 = (c == b) := by
      rw [cutB_cons]
      cases c == b <;> rfl
    rw [hb]
    generalize c :: r = l at *
    simp only [a67, exec_seq, exec_region, exec_cond, exec_block, exec_loop, exec_skip, exec_exit, exec_ret, thenX_normal, thenX_exit, thenX_ret, thenX_panic, blockX_normal, blockX_exit, blockX_ret, blockX_panic, opsX_normal, opsX_panic_none, opsX_panic_some, callX_ret, callX_panic, stepX_next, stepX_call, stepX_panic, runOps_nil, runOps_cons, clearEnv, adel, mem, initEnv, initSlots,
    stepOp, wantedA, evalOp, callOf, panicOf, evalV, addr, opd, opds, aget, aset, adel1, lkill, readCells, nth, Env.put, Env.putV, Env.box, Env.bare, dropOwn, dropOwnS, binD, binBD, binBool, binInt, binStr, unD, AOpd.drop, Cell.of, AOp.kind, sameKind, bool?_bool, bool?_undef, int?_int, str?_str, tup?_tup, fn?_fn, agg?_agg, row?_list, isNil?_iface, isNil?_nil, nat?_nat, nat?_zero, assertD, eqlB, isUndef, takeC, unownAt, fits, layCells, putCells, putD, cells_agg, cells_int, cells_bool, cells_str, cells_nils, cells_list, cells_nilp, cells_ptr, cells_iface, cells_fn, cells_nilfn, cells_niliface, cells_dlist, one_agg, one_int, one_bool, one_str, one_nils, one_list, one_nilp, one_ptr, one_iface, one_niliface, one_fn, one_nilfn, one_dlist, ok_agg, ok_int, ok_bool, ok_str, ok_nils, ok_list, ok_nilp, ok_ptr, ok_iface, ok_niliface, ok_fn, ok_nilfn, ok_dlist, fillD, partsOf, optLo, optHi, allSize, dlist_nil, lenOf_nils, lenOf_list, lenOf_dlist, asList_nils, asList_list, asList_dlist, Option.getD_some, Option.getD_none,
    finX_ret, finX_normal, finX_panic, runDefers_nil, runDefers, resX_none, resP_none, resP_some, readRes, readRes1, readRess,
    caseO_some, caseO_none, ifB_true, ifB_false, Nat.reduceAdd, Nat.reduceSub, Nat.reduceMul, Nat.reduceBEq, Bool.false_and, Bool.true_and, Bool.and_true, Bool.and_false, Nat.zero_add, Nat.add_zero, beq_self_eq_true, Bool.true_beq, Bool.false_beq, Bool.not_true, Bool.not_false, decide_true, decide_false, bindO, ptrOf_ptr, ptrOf_eptr, ptrOf_nilp, List.map_cons, List.map_nil, List.length_cons, List.length_nil, List.append_nil, List.nil_append, List.cons_append, List.isEmpty_nil, List.isEmpty_cons, Nat.reduceLeDiff, Int.reduceBEq, Int.reduceNeg, Nat.le_refl, h, hs, he]
theorem cuts58_run : Evly fun n => ∀ (b : UInt8) l σ, TR n 58 [.str l, .str [b]] σ = some (.ret ⟨false, .tup [.str (cutB b l).1, .bool (cutB b l).2]⟩, σ) := hasp_run.step 0 fun m _ hp b l σ => by
  have hp := hp b l σ
  rw [TR_fun (af := a58) rfl rfl]
  cases l with
  | nil =>
    simp only [cutB] at hp ⊢
    simp only [a58, exec_seq, exec_region, exec_cond, exec_block, exec_loop, exec_skip, exec_exit, exec_ret, thenX_normal, thenX_exit, thenX_ret, thenX_panic, blockX_normal, blockX_exit, blockX_ret, blockX_panic, opsX_normal, opsX_panic_none, opsX_panic_some, callX_ret, callX_panic, stepX_next, stepX_call, stepX_panic, runOps_nil, runOps_cons, clearEnv, adel, mem, initEnv, initSlots,
    stepOp, wantedA, evalOp, callOf, panicOf, evalV, addr, opd, opds, aget, aset, adel1, lkill, readCells, nth, Env.put, Env.putV, Env.box, Env.bare, dropOwn, dropOwnS, binD, binBD, binBool, binInt, binStr, unD, AOpd.drop, Cell.of, AOp.kind, sameKind, bool?_bool, bool?_undef, int?_int, str?_str, tup?_tup, fn?_fn, agg?_agg, row?_list, isNil?_iface, isNil?_nil, nat?_nat, nat?_zero, assertD, eqlB, isUndef, takeC, unownAt, fits, layCells, putCells, putD, cells_agg, cells_int, cells_bool, cells_str, cells_nils, cells_list, cells_nilp, cells_ptr, cells_iface, cells_fn, cells_nilfn, cells_niliface, cells_dlist, one_agg, one_int, one_bool, one_str, one_nils, one_list, one_nilp, one_ptr, one_iface, one_niliface, one_fn, one_nilfn, one_dlist, ok_agg, ok_int, ok_bool, ok_str, ok_nils, ok_list, ok_nilp, ok_ptr, ok_iface, ok_niliface, ok_fn, ok_nilfn, ok_dlist, fillD, partsOf, optLo, optHi, allSize, dlist_nil, lenOf_nils, lenOf_list, lenOf_dlist, asList_nils, asList_list, asList_dlist, Option.getD_some, Option.getD_none,
    finX_ret, finX_normal, finX_panic, runDefers_nil, runDefers, resX_none, resP_none, resP_some, readRes, readRes1, readRess,
    caseO_some, caseO_none, ifB_true, ifB_false, Nat.reduceAdd, Nat.reduceSub, Nat.reduceMul, Nat.reduceBEq, Bool.false_and, Bool.true_and, Bool.and_true, Bool.and_false, Nat.zero_add, Nat.add_zero, beq_self_eq_true, Bool.true_beq, Bool.false_beq, Bool.not_true, Bool.not_false, decide_true, decide_false, bindO, ptrOf_ptr, ptrOf_eptr, ptrOf_nilp, List.map_cons, List.map_nil, List.length_cons, List.length_nil, List.append_nil, List.nil_append, List.cons_append, List.isEmpty_nil, List.isEmpty_cons, Nat.reduceLeDiff, Int.reduceBEq, Int.reduceNeg, Nat.le_refl, hp]
  | cons c r =>
    have hs := slice_str_from (s := c :: r) (lo := 1) (by simp)
    have ht : (c :: r).drop 1 = r := rfl
    rw [ht] at hs
    rw [cutB_cons] at hp ⊢
    cases hc : c == b with
    | true =>
      rw [hc] at hp
      simp only [ifB_true] at hp ⊢
      generalize c :: r = l at *
      simp only [a58, exec_seq, exec_region, exec_cond, exec_block, exec_loop, exec_skip, exec_exit, exec_ret, thenX_normal, thenX_exit, thenX_ret, thenX_panic, blockX_normal, blockX_exit, blockX_ret, blockX_panic, opsX_normal, opsX_panic_none, opsX_panic_some, callX_ret, callX_panic, stepX_next, stepX_call, stepX_panic, runOps_nil, runOps_cons, clearEnv, adel, mem, initEnv, initSlots,
    stepOp, wantedA, evalOp, callOf, panicOf, evalV, addr, opd, opds, aget, aset, adel1, lkill, readCells, nth, Env.put, Env.putV, Env.box, Env.bare, dropOwn, dropOwnS, binD, binBD, binBool, binInt, binStr, unD, AOpd.drop, Cell.of, AOp.kind, sameKind, bool?_bool, bool?_undef, int?_int, str?_str, tup?_tup, fn?_fn, agg?_agg, row?_list, isNil?_iface, isNil?_nil, nat?_nat, nat?_zero, assertD, eqlB, isUndef, takeC, unownAt, fits, layCells, putCells, putD, cells_agg, cells_int, cells_bool, cells_str, cells_nils, cells_list, cells_nilp, cells_ptr, cells_iface, cells_fn, cells_nilfn, cells_niliface, cells_dlist, one_agg, one_int, one_bool, one_str, one_nils, one_list, one_nilp, one_ptr, one_iface, one_niliface, one_fn, one_nilfn, one_dlist, ok_agg, ok_int, ok_bool, ok_str, ok_nils, ok_list, ok_nilp, ok_ptr, ok_iface, ok_niliface, ok_fn, ok_nilfn, ok_dlist, fillD, partsOf, optLo, optHi, allSize, dlist_nil, lenOf_nils, lenOf_list, lenOf_dlist, asList_nils, asList_list, asList_dlist, Option.getD_some, Option.getD_none,
    finX_ret, finX_normal, finX_panic, runDefers_nil, runDefers, resX_none, resP_none, resP_some, readRes, readRes1, readRess,
    caseO_some, caseO_none, ifB_true, ifB_false, Nat.reduceAdd, Nat.reduceSub, Nat.reduceMul, Nat.reduceBEq, Bool.false_and, Bool.true_and, Bool.and_true, Bool.and_false, Nat.zero_add, Nat.add_zero, beq_self_eq_true, Bool.true_beq, Bool.false_beq, Bool.not_true, Bool.not_false, decide_true, decide_false, bindO, ptrOf_ptr, ptrOf_eptr, ptrOf_nilp, List.map_cons, List.map_nil, List.length_cons, List.length_nil, List.append_nil, List.nil_append, List.cons_append, List.isEmpty_nil, List.isEmpty_cons, Nat.reduceLeDiff, Int.reduceBEq, Int.reduceNeg, Nat.le_refl, hp, hs]
    | false =>
      rw [hc] at hp
      simp only [ifB_false] at hp ⊢
      generalize c :: r = l at *
      simp only [a58, exec_seq, exec_region, exec_cond, exec_block, exec_loop, exec_skip, exec_exit, exec_ret, thenX_normal, thenX_exit, thenX_ret, thenX_panic, blockX_normal, blockX_exit, blockX_ret, blockX_panic, opsX_normal, opsX_panic_none, opsX_panic_some, callX_ret, callX_panic, stepX_next, stepX_call, stepX_panic, runOps_nil, runOps_cons, clearEnv, adel, mem, initEnv, initSlots,
    stepOp, wantedA, evalOp, callOf, panicOf, evalV, addr, opd, opds, aget, aset, adel1, lkill, readCells, nth, Env.put, Env.putV, Env.box, Env.bare, dropOwn, dropOwnS, binD, binBD, binBool, binInt, binStr, unD, AOpd.drop, Cell.of, AOp.kind, sameKind, bool?_bool, bool?_undef, int?_int, str?_str, tup?_tup, fn?_fn, agg?_agg, row?_list, isNil?_iface, isNil?_nil, nat?_nat, nat?_zero, assertD, eqlB, isUndef, takeC, unownAt, fits, layCells, putCells, putD, cells_agg, cells_int, cells_bool, cells_str, cells_nils, cells_list, cells_nilp, cells_ptr, cells_iface, cells_fn, cells_nilfn, cells_niliface, cells_dlist, one_agg, one_int, one_bool, one_str, one_nils, one_list, one_nilp, one_ptr, one_iface, one_niliface, one_fn, one_nilfn, one_dlist, ok_agg, ok_int, ok_bool, ok_str, ok_nils, ok_list, ok_nilp, ok_ptr, ok_iface, ok_niliface, ok_fn, ok_nilfn, ok_dlist, fillD, partsOf, optLo, optHi, allSize, dlist_nil, lenOf_nils, lenOf_list, lenOf_dlist, asList_nils, asList_list, asList_dlist, Option.getD_some, Option.getD_none,
    finX_ret, finX_normal, finX_panic, runDefers_nil, runDefers, resX_none, resP_none, resP_some, readRes, readRes1, readRess,
    caseO_some, caseO_none, ifB_true, ifB_false, Nat.reduceAdd, Nat.reduceSub, Nat.reduceMul, Nat.reduceBEq, Bool.false_and, Bool.true_and, Bool.and_true, Bool.and_false, Nat.zero_add, Nat.add_zero, beq_self_eq_true, Bool.true_beq, Bool.false_beq, Bool.not_true, Bool.not_false, decide_true, decide_false, bindO, ptrOf_ptr, ptrOf_eptr, ptrOf_nilp, List.map_cons, List.map_nil, List.length_cons, List.length_nil, List.append_nil, List.nil_append, List.cons_append, List.isEmpty_nil, List.isEmpty_cons, Nat.reduceLeDiff, Int.reduceBEq, Int.reduceNeg, Nat.le_refl, hp]
theorem cut_str_run : Evly fun n => ∀ (b : UInt8) l σ, TR n 48 [.str l, .str [b]] σ = some (.ret ⟨false, .tup [.str (cutB b l).1, .bool (cutB b l).2]⟩, σ) := cuts58_run.step 0 fun m _ hp b l σ => by
  have hp := hp b l σ
  rw [TR_fun (af := a48) rfl rfl]
  simp only [a48, exec_seq, exec_region, exec_cond, exec_block, exec_loop, exec_skip, exec_exit, exec_ret, thenX_normal, thenX_exit, thenX_ret, thenX_panic, blockX_normal, blockX_exit, blockX_ret, blockX_panic, opsX_normal, opsX_panic_none, opsX_panic_some, callX_ret, callX_panic, stepX_next, stepX_call, stepX_panic, runOps_nil, runOps_cons, clearEnv, adel, mem, initEnv, initSlots,
    stepOp, wantedA, evalOp, callOf, panicOf, evalV, addr, opd, opds, aget, aset, adel1, lkill, readCells, nth, Env.put, Env.putV, Env.box, Env.bare, dropOwn, dropOwnS, binD, binBD, binBool, binInt, binStr, unD, AOpd.drop, Cell.of, AOp.kind, sameKind, bool?_bool, bool?_undef, int?_int, str?_str, tup?_tup, fn?_fn, agg?_agg, row?_list, isNil?_iface, isNil?_nil, nat?_nat, nat?_zero, assertD, eqlB, isUndef, takeC, unownAt, fits, layCells, putCells, putD, cells_agg, cells_int, cells_bool, cells_str, cells_nils, cells_list, cells_nilp, cells_ptr, cells_iface, cells_fn, cells_nilfn, cells_niliface, cells_dlist, one_agg, one_int, one_bool, one_str, one_nils, one_list, one_nilp, one_ptr, one_iface, one_niliface, one_fn, one_nilfn, one_dlist, ok_agg, ok_int, ok_bool, ok_str, ok_nils, ok_list, ok_nilp, ok_ptr, ok_iface, ok_niliface, ok_fn, ok_nilfn, ok_dlist, fillD, partsOf, optLo, optHi, allSize, dlist_nil, lenOf_nils, lenOf_list, lenOf_dlist, asList_nils, asList_list, asList_dlist, Option.getD_some, Option.getD_none,
    finX_ret, finX_normal, finX_panic, runDefers_nil, runDefers, resX_none, resP_none, resP_some, readRes, readRes1, readRess,
    caseO_some, caseO_none, ifB_true, ifB_false, Nat.reduceAdd, Nat.reduceSub, Nat.reduceMul, Nat.reduceBEq, Bool.false_and, Bool.true_and, Bool.and_true, Bool.and_false, Nat.zero_add, Nat.add_zero, beq_self_eq_true, Bool.true_beq, Bool.false_beq, Bool.not_true, Bool.not_false, decide_true, decide_false, bindO, ptrOf_ptr, ptrOf_eptr, ptrOf_nilp, List.map_cons, List.map_nil, List.length_cons, List.length_nil, List.append_nil, List.nil_append, List.cons_append, List.isEmpty_nil, List.isEmpty_cons, Nat.reduceLeDiff, Int.reduceBEq, Int.reduceNeg, Nat.le_refl, hp]
/-! the reader's store -/
def tops (ts : List Nat) : List (Nat × List Cell) := ts.map fun i => (i, [⟨false, .ptr 2 0⟩])
def zeroV : List Cell := [⟨false, .int .i64 0⟩, ⟨false, .int .i64 0⟩, ⟨false, .str []⟩, ⟨false, .nils⟩]
def SRd (ts : List Nat) (l : List UInt8) (d : Int) (nx : Nat) : Store := { objs := tops ts ++ [(2, [⟨false, .str l⟩, ⟨false, .int .i64 d⟩]), (1, [⟨false, .int .i64 0⟩]), (0, zeroV)], tys := ts.map (fun i => (i, 59)) ++ [(2, 61), (1, 31), (0, 25)], iters := [], next := nx }
structure Tops (ts : List Nat) (nx : Nat) : Prop where
  ge : ∀ i ∈ ts, 3 ≤ i ∧ i < nx
  nx3 : 3 ≤ nx
theorem Tops.mono {ts : List Nat} {nx nx' : Nat} (h : Tops ts nx) (hn : nx ≤ nx') : Tops ts nx' := ⟨fun i hi => ⟨(h.ge i hi).1, by have := (h.ge i hi).2; omega⟩, by have := h.nx3; omega⟩
theorem Tops.push {ts : List Nat} {nx : Nat} (h : Tops ts nx) : Tops (nx :: ts) (nx + 1) := ⟨fun i hi => by
  rcases List.mem_cons.1 hi with e | hi
  · have := h.nx3; omega
  · have := h.ge i hi; omega, by have := h.nx3; omega⟩
theorem aget_tops {ts : List Nat} {r : List (Nat × List Cell)} (h : ∀ i ∈ ts, 3 ≤ i) : aget (tops ts ++ r) 2 = aget r 2 := by
  induction ts with
  | nil => rfl
  | cons i ts ih =>
    have h3 := h i (List.mem_cons_self ..)
    have hb : (i == 2) = false := by simp; omega
    simp only [tops, List.map_cons, List.cons_append, aget, hb, ifB_false]
    exact ih fun j hj => h j (List.mem_cons_of_mem _ hj)
theorem aset_tops {ts : List Nat} {r : List (Nat × List Cell)} {cs : List Cell} (h : ∀ i ∈ ts, 3 ≤ i) : aset (tops ts ++ r) 2 cs = tops ts ++ aset r 2 cs := by
  induction ts with
  | nil => rfl
  | cons i ts ih =>
    have h3 := h i (List.mem_cons_self ..)
    have hb : (i == 2) = false := by simp; omega
    simp only [tops, List.map_cons, List.cons_append, aset, hb, ifB_false]
    congr 1
    exact ih fun j hj => h j (List.mem_cons_of_mem _ hj)
section
variable {ts : List Nat} {l l' : List UInt8} {d d' : Int} {nx nx' : Nat}
theorem SRd_next : (SRd ts l d nx).next = nx := rfl
theorem SRd_get (h : Tops ts nx') : aget (SRd ts l d nx).objs 2 = some [⟨false, .str l⟩, ⟨false, .int .i64 d⟩] := by
  unfold SRd
  rw [aget_tops fun i hi => (h.ge i hi).1]
  rfl
theorem SRd_set (h : Tops ts nx') : ({ objs := aset (SRd ts l d nx).objs 2 [⟨false, .str l'⟩, ⟨false, .int .i64 d'⟩], tys := (SRd ts l d nx).tys, iters := (SRd ts l d nx).iters, next := nx } : Store) = SRd ts l' d' nx := by
  unfold SRd
  rw [aset_tops fun i hi => (h.ge i hi).1]
  rfl
theorem SRd_push : ({ objs := (nx, [⟨false, .ptr 2 0⟩]) :: (SRd ts l d nx).objs, tys := (nx, 59) :: (SRd ts l d nx).tys, iters := (SRd ts l d nx).iters, next := nx + 1 } : Store) = SRd (nx :: ts) l d (nx + 1) := rfl
theorem SRd_top : aget (SRd (nx :: ts) l d nx').objs nx = some [⟨false, .ptr 2 0⟩] := by
  simp [SRd, tops, aget, ifB_true]
theorem SRd_trunc (h : Tops ts nx) : (SRd (nx :: ts) l d nx').trunc nx = SRd ts l d nx' := by
  have h3 := h.nx3
  have e1 : ∀ (p : List (Nat × List Cell)), (tops ts ++ p).filter (fun q => decide (q.1 < nx)) = tops ts ++ p.filter (fun q => decide (q.1 < nx)) := fun p => by
    rw [List.filter_append]
    congr 1
    rw [List.filter_eq_self]
    intro q hq
    obtain ⟨i, hi, rfl⟩ := List.mem_map.1 hq
    have := (h.ge i hi).2
    simpa using this
  have e2 : ∀ (p : List (Nat × Nat)), (ts.map (fun i => (i, 59)) ++ p).filter (fun q => decide (q.1 < nx)) = ts.map (fun i => (i, 59)) ++ p.filter (fun q => decide (q.1 < nx)) := fun p => by
    rw [List.filter_append]
    congr 1
    rw [List.filter_eq_self]
    intro q hq
    obtain ⟨i, hi, rfl⟩ := List.mem_map.1 hq
    have := (h.ge i hi).2
    simpa using this
  have hz : decide (nx < nx) = false := by simp
  have h2 : decide (2 < nx) = true := by simp; omega
  have h1 : decide (1 < nx) = true := by simp; omega
  have h0 : decide (0 < nx) = true := by simp; omega
  unfold SRd Store.trunc
  simp only [tops, List.map_cons, List.cons_append, List.filter_cons, hz, Bool.false_eq_true, if_false]
  rw [show (List.map (fun i => (i, [({ own := false, d := D.ptr 2 0 } : Cell)])) ts) = tops ts from rfl, e1, e2]
  simp only [List.filter_cons, h2, h1, h0, if_true, List.filter_nil]
end
end Go.Proofs.YtdoppkjoemlhjaaDoor.Sh

/-
  The reader of prints: a word.
-/
namespace Go.Proofs.YtdoppkjoemlhjaaDoor.Sh
open Go Go.Mx
set_option maxRecDepth 10000
theorem must_run : Evly fun n => ∀ σ, TR n 36 [.bool true] σ = some (.ret ⟨false, .tup []⟩, σ) := (Evly.all (p := fun _ => True) fun _ => trivial).step 0 fun m _ _ σ => by
  rw [TR_fun (af := a36) rfl rfl]
  simp only [a36, exec_seq, exec_region, exec_cond, exec_block, exec_loop, exec_skip, exec_exit, exec_ret, thenX_normal, thenX_exit, thenX_ret, thenX_panic, blockX_normal, blockX_exit, blockX_ret, blockX_panic, opsX_normal, opsX_panic_none, opsX_panic_some, callX_ret, callX_panic, stepX_next, stepX_call, stepX_panic, runOps_nil, runOps_cons, clearEnv, adel, mem, initEnv, initSlots,
    stepOp, wantedA, evalOp, callOf, panicOf, evalV, addr, opd, opds, aget, aset, adel1, lkill, readCells, nth, Env.put, Env.putV, Env.box, Env.bare, dropOwn, dropOwnS, binD, binBD, binBool, binInt, binStr, unD, AOpd.drop, Cell.of, AOp.kind, sameKind, bool?_bool, bool?_undef, int?_int, str?_str, tup?_tup, fn?_fn, agg?_agg, row?_list, isNil?_iface, isNil?_nil, nat?_nat, nat?_zero, assertD, eqlB, isUndef, takeC, unownAt, fits, layCells, putCells, putD, cells_agg, cells_int, cells_bool, cells_str, cells_nils, cells_list, cells_nilp, cells_ptr, cells_iface, cells_fn, cells_nilfn, cells_niliface, cells_dlist, one_agg, one_int, one_bool, one_str, one_nils, one_list, one_nilp, one_ptr, one_iface, one_niliface, one_fn, one_nilfn, one_dlist, ok_agg, ok_int, ok_bool, ok_str, ok_nils, ok_list, ok_nilp, ok_ptr, ok_iface, ok_niliface, ok_fn, ok_nilfn, ok_dlist, fillD, partsOf, optLo, optHi, allSize, dlist_nil, lenOf_nils, lenOf_list, lenOf_dlist, asList_nils, asList_list, asList_dlist, Option.getD_some, Option.getD_none,
    finX_ret, finX_normal, finX_panic, runDefers_nil, runDefers, resX_none, resP_none, resP_some, readRes, readRes1, readRess,
    caseO_some, caseO_none, ifB_true, ifB_false, Nat.reduceAdd, Nat.reduceSub, Nat.reduceMul, Nat.reduceBEq, Bool.false_and, Bool.true_and, Bool.and_true, Bool.and_false, Nat.zero_add, Nat.add_zero, beq_self_eq_true, Bool.true_beq, Bool.false_beq, Bool.not_true, Bool.not_false, decide_true, decide_false, bindO, ptrOf_ptr, ptrOf_eptr, ptrOf_nilp, List.map_cons, List.map_nil, List.length_cons, List.length_nil, List.append_nil, List.nil_append, List.cons_append, List.isEmpty_nil, List.isEmpty_cons, Nat.reduceLeDiff, Int.reduceBEq, Int.reduceNeg, Nat.le_refl]
def NoStop (w : List UInt8) : Prop := ∀ b ∈ w, b ≠ 32 ∧ b ≠ 41
def Stop (r : List UInt8) : Prop := r = [] ∨ ∃ t, r = 32 :: t ∨ r = 41 :: t
theorem anyAt_app : ∀ (w r : List UInt8) (i : Nat), NoStop w → anyAt (w ++ r) [32, 41] i = anyAt r [32, 41] (i + w.length)
  | [], r, i, _ => by simp
  | b :: w, r, i, h => by
    obtain ⟨h1, h2⟩ := h b (List.mem_cons_self ..)
    have hm : mem8 [32, 41] b = false := by
      have e1 : ((32 : UInt8) == b) = false := by simpa using fun e => h1 (Eq.symm e)
      have e2 : ((41 : UInt8) == b) = false := by simpa using fun e => h2 (Eq.symm e)
      simp only [mem8, e1, e2, ifB_false]
    rw [List.cons_append, anyAt, hm, ifB_false, anyAt_app w r (i + 1) fun x hx => h x (List.mem_cons_of_mem _ hx)]
    congr 1
    simp only [List.length_cons]
    omega
theorem index_run : Evly fun n => ∀ l, ascii l = true → l.length < 1000000 → ∀ σ, TR n 64 [.str l, .str [32, 41]] σ = some (.ret ⟨false, match anyAt l [32, 41] 0 with | some i => .int .i64 i | none => .int .i64 (-1)⟩, σ) := (Evly.all (p := fun _ => True) fun _ => trivial).step 0 fun m _ _ l h1 h2 σ => by
  rw [TR_lib rfl]
  show bindO (xIndexAny [.str l, .str [32, 41]]) _ = _
  have h3 : decide (l.length < 4294967281) = true := decide_eq_true (by omega)
  have h4 : ascii [32, 41] = true := rfl
  have h5 : decide (([32, 41] : List UInt8).length < 4294967281) = true := rfl
  simp only [xIndexAny, h1, h3, h4, h5, Bool.and_self, ifB_true, bindO, caseO_some]
  rfl
theorem word_run : Evly fun n => ∀ w r, NoStop w → Stop r → ascii (w ++ r) = true → (w ++ r).length < 1000000 → ∀ ts d nx nx', Tops ts nx' → TR n 56 [.ptr 2 0] (SRd ts (w ++ r) d nx) = some (.ret ⟨false, .str w⟩, SRd ts r d nx) := by
  refine index_run.step 0 fun m _ hx w r hw hr ha hl ts d nx nx' ht => ?_
  have hx := hx (w ++ r) ha hl (SRd ts (w ++ r) d nx)
  rw [anyAt_app w r 0 hw] at hx
  have hs1 : sliceStr (w ++ r) 0 (some w.length) = some (.str w) := by
    rw [slice_str_to (by simp)]
    simp
  have hs2 : sliceStr (w ++ r) w.length none = some (.str r) := by
    rw [slice_str_from (by simp)]
    simp
  have g : ∀ l, aget (SRd ts l d nx).objs 2 = some [⟨false, .str l⟩, ⟨false, .int .i64 d⟩] := fun l => SRd_get ht
  have u : ∀ l l', ({ objs := aset (SRd ts l d nx).objs 2 [⟨false, .str l'⟩, ⟨false, .int .i64 d⟩], tys := (SRd ts l d nx).tys, iters := (SRd ts l d nx).iters, next := nx } : Store) = SRd ts l' d nx := fun l l' => SRd_set ht
  rw [TR_fun (af := a56) rfl rfl]
  rcases hr with rfl | ⟨t, hr⟩
  · have hm : ((-1 : Int) < 0) := by omega
    rw [List.append_nil] at *
    simp only [anyAt] at hx
    simp only [a56, exec_seq, exec_region, exec_cond, exec_block, exec_loop, exec_skip, exec_exit, exec_ret, thenX_normal, thenX_exit, thenX_ret, thenX_panic, blockX_normal, blockX_exit, blockX_ret, blockX_panic, opsX_normal, opsX_panic_none, opsX_panic_some, callX_ret, callX_panic, stepX_next, stepX_call, stepX_panic, runOps_nil, runOps_cons, clearEnv, adel, mem, initEnv, initSlots,
    stepOp, wantedA, evalOp, callOf, panicOf, evalV, addr, opd, opds, aget, aset, adel1, lkill, readCells, nth, Env.put, Env.putV, Env.box, Env.bare, dropOwn, dropOwnS, binD, binBD, binBool, binInt, binStr, unD, AOpd.drop, Cell.of, AOp.kind, sameKind, bool?_bool, bool?_undef, int?_int, str?_str, tup?_tup, fn?_fn, agg?_agg, row?_list, isNil?_iface, isNil?_nil, nat?_nat, nat?_zero, assertD, eqlB, isUndef, takeC, unownAt, fits, layCells, putCells, putD, cells_agg, cells_int, cells_bool, cells_str, cells_nils, cells_list, cells_nilp, cells_ptr, cells_iface, cells_fn, cells_nilfn, cells_niliface, cells_dlist, one_agg, one_int, one_bool, one_str, one_nils, one_list, one_nilp, one_ptr, one_iface, one_niliface, one_fn, one_nilfn, one_dlist, ok_agg, ok_int, ok_bool, ok_str, ok_nils, ok_list, ok_nilp, ok_ptr, ok_iface, ok_niliface, ok_fn, ok_nilfn, ok_dlist, fillD, partsOf, optLo, optHi, allSize, dlist_nil, lenOf_nils, lenOf_list, lenOf_dlist, asList_nils, asList_list, asList_dlist, Option.getD_some, Option.getD_none,
    finX_ret, finX_normal, finX_panic, runDefers_nil, runDefers, resX_none, resP_none, resP_some, readRes, readRes1, readRess,
    caseO_some, caseO_none, ifB_true, ifB_false, Nat.reduceAdd, Nat.reduceSub, Nat.reduceMul, Nat.reduceBEq, Bool.false_and, Bool.true_and, Bool.and_true, Bool.and_false, Nat.zero_add, Nat.add_zero, beq_self_eq_true, Bool.true_beq, Bool.false_beq, Bool.not_true, Bool.not_false, decide_true, decide_false, bindO, ptrOf_ptr, ptrOf_eptr, ptrOf_nilp, List.map_cons, List.map_nil, List.length_cons, List.length_nil, List.append_nil, List.nil_append, List.cons_append, List.isEmpty_nil, List.isEmpty_cons, Nat.reduceLeDiff, Int.reduceBEq, Int.reduceNeg, Nat.le_refl, hx, hm, g, u, SRd_next, hs1, hs2]
  · have hany : anyAt r [32, 41] (0 + w.length) = some w.length := by
      rcases hr with rfl | rfl <;> simp [anyAt, mem8, ifB_true, ifB_false]
    rw [hany] at hx
    have hm : ¬ ((w.length : Int) < 0) := by omega
    generalize w ++ r = l at *
    simp only [a56, exec_seq, exec_region, exec_cond, exec_block, exec_loop, exec_skip, exec_exit, exec_ret, thenX_normal, thenX_exit, thenX_ret, thenX_panic, blockX_normal, blockX_exit, blockX_ret, blockX_panic, opsX_normal, opsX_panic_none, opsX_panic_some, callX_ret, callX_panic, stepX_next, stepX_call, stepX_panic, runOps_nil, runOps_cons, clearEnv, adel, mem, initEnv, initSlots,
    stepOp, wantedA, evalOp, callOf, panicOf, evalV, addr, opd, opds, aget, aset, adel1, lkill, readCells, nth, Env.put, Env.putV, Env.box, Env.bare, dropOwn, dropOwnS, binD, binBD, binBool, binInt, binStr, unD, AOpd.drop, Cell.of, AOp.kind, sameKind, bool?_bool, bool?_undef, int?_int, str?_str, tup?_tup, fn?_fn, agg?_agg, row?_list, isNil?_iface, isNil?_nil, nat?_nat, nat?_zero, assertD, eqlB, isUndef, takeC, unownAt, fits, layCells, putCells, putD, cells_agg, cells_int, cells_bool, cells_str, cells_nils, cells_list, cells_nilp, cells_ptr, cells_iface, cells_fn, cells_nilfn, cells_niliface, cells_dlist, one_agg, one_int, one_bool, one_str, one_nils, one_list, one_nilp, one_ptr, one_iface, one_niliface, one_fn, one_nilfn, one_dlist, ok_agg, ok_int, ok_bool, ok_str, ok_nils, ok_list, ok_nilp, ok_ptr, ok_iface, ok_niliface, ok_fn, ok_nilfn, ok_dlist, fillD, partsOf, optLo, optHi, allSize, dlist_nil, lenOf_nils, lenOf_list, lenOf_dlist, asList_nils, asList_list, asList_dlist, Option.getD_some, Option.getD_none,
    finX_ret, finX_normal, finX_panic, runDefers_nil, runDefers, resX_none, resP_none, resP_some, readRes, readRes1, readRess,
    caseO_some, caseO_none, ifB_true, ifB_false, Nat.reduceAdd, Nat.reduceSub, Nat.reduceMul, Nat.reduceBEq, Bool.false_and, Bool.true_and, Bool.and_true, Bool.and_false, Nat.zero_add, Nat.add_zero, beq_self_eq_true, Bool.true_beq, Bool.false_beq, Bool.not_true, Bool.not_false, decide_true, decide_false, bindO, ptrOf_ptr, ptrOf_eptr, ptrOf_nilp, List.map_cons, List.map_nil, List.length_cons, List.length_nil, List.append_nil, List.nil_append, List.cons_append, List.isEmpty_nil, List.isEmpty_cons, Nat.reduceLeDiff, Int.reduceBEq, Int.reduceNeg, Nat.le_refl, hx, hm, g, u, SRd_next, hs1, hs2]
theorem rupperT_run : Evly fun n => ∀ s σ, TR n 24 [.str s] σ = some (.ret ⟨false, .bool (upperB s)⟩, σ) := (Evly.all (p := fun _ => True) fun _ => trivial).step 0 fun n _ _ s σ => by rw [TR_lib rfl]; rfl
theorem atoiT_run : Evly fun n => ∀ x, Small' x → ∀ σ, TR n 57 [.str (itoaN x)] σ = some (.ret ⟨false, .tup [.int .i64 x, .niliface]⟩, σ) := (Evly.all (p := fun _ => True) fun _ => trivial).step 0 fun n _ _ x hx σ => by
  rw [TR_lib rfl]
  show bindO (xAtoi [.str (itoaN x)]) _ = _
  have h1 : decide ((itoaN x).length ≤ 9223372036854775806) = true := decide_eq_true (by have := itoaN_len x; omega)
  simp only [xAtoi, h1, ifB_true, atoi_itoa x hx, bindO, caseO_some]
/-! heads -/
theorem byteB_get' {s : List UInt8} {i : Nat} (h : i < s.length) : byteB s i = (okB s[i].toNat && (i != 0 || firstB s[i].toNat)) := by simp [byteB, h]
theorem digF_bytes : ∀ (k n : Nat) (acc : List UInt8), (∀ b ∈ acc, 48 ≤ b.toNat ∧ b.toNat ≤ 57) → ∀ b ∈ digF k n acc, 48 ≤ b.toNat ∧ b.toNat ≤ 57
  | 0, _, acc, h => by simpa [digF] using h
  | k + 1, n, acc, h => by
    rw [digF]
    have one : ∀ j, j < 10 → 48 ≤ (UInt8.ofNat (48 + j)).toNat ∧ (UInt8.ofNat (48 + j)).toNat ≤ 57 := fun j hj => by
      have e : (UInt8.ofNat (48 + j)).toNat = 48 + j := by
        rw [UInt8.toNat_ofNat']
        exact Nat.mod_eq_of_lt (by omega)
      omega
    by_cases h10 : n < 10
    · rw [decide_eq_true h10, ifB_true]
      intro b hb
      rcases List.mem_cons.1 hb with e | hb
      · rw [e]; exact one n h10
      · exact h b hb
    · rw [decide_eq_false h10, ifB_false]
      refine digF_bytes k _ _ fun b hb => ?_
      rcases List.mem_cons.1 hb with e | hb
      · rw [e]; exact one _ (by omega)
      · exact h b hb
theorem itoaN_bytes (n : Int) : ∀ b ∈ itoaN n, b.toNat = 45 ∨ (48 ≤ b.toNat ∧ b.toNat ≤ 57) := by
  intro b hb
  cases n with
  | ofNat m => exact .inr (digF_bytes 20 m [] (fun _ h => by cases h) b hb)
  | negSucc m =>
    rcases List.mem_cons.1 hb with e | hb
    · rw [e]; exact .inl rfl
    · exact .inr (digF_bytes 20 (m + 1) [] (fun _ h => by cases h) b hb)
/-- A word that may stand at a value's head. -/
structure Word (w : List UInt8) : Prop where
  ne : w ≠ []
  stop : NoStop w
  open_ : ∀ r, cutB 40 (w ++ r) = (w ++ r, false)
  asc : ascii w = true
theorem ascii_all {l : List UInt8} (h : ∀ b ∈ l, b.toNat < 128) : ascii l = true := by
  induction l with
  | nil => rfl
  | cons b l ih =>
    rw [ascii, decide_eq_true (h b (List.mem_cons_self ..)), ifB_true]
    exact ih fun x hx => h x (List.mem_cons_of_mem _ hx)
theorem word_of {w : List UInt8} (hne : w ≠ []) (h : ∀ b ∈ w, b.toNat < 128 ∧ b.toNat ≠ 32 ∧ b.toNat ≠ 41 ∧ b.toNat ≠ 40) : Word w := by
  refine ⟨hne, fun b hb => ?_, fun r => ?_, ascii_all fun b hb => (h b hb).1⟩
  · obtain ⟨_, h1, h2, _⟩ := h b hb
    exact ⟨fun e => h1 (by rw [e]; rfl), fun e => h2 (by rw [e]; rfl)⟩
  · cases w with
    | nil => exact absurd rfl hne
    | cons c w =>
      have hc := (h c (List.mem_cons_self ..)).2.2.2
      have e : (c == 40) = false := by simpa using fun e => hc (by rw [e]; rfl)
      rw [List.cons_append, cutB_cons, e, ifB_false]
theorem upper_bytes {s : List UInt8} (h : upperB s = true) : ∀ b ∈ s, okB b.toNat = true := by
  intro b hb
  unfold upperB at h
  simp only [Bool.and_eq_true] at h
  obtain ⟨i, hi, rfl⟩ := List.getElem_of_mem hb
  have := List.all_eq_true.1 h.2 i (List.mem_range.2 hi)
  rw [byteB_get' hi] at this
  simp only [Bool.and_eq_true] at this
  exact this.1
theorem upper_first {c : UInt8} {s : List UInt8} (h : upperB (c :: s) = true) : 65 ≤ c.toNat ∧ c.toNat ≤ 90 := by
  unfold upperB at h
  simp only [Bool.and_eq_true] at h
  have := List.all_eq_true.1 h.2 0 (List.mem_range.2 (by simp))
  rw [byteB_get' (by simp)] at this
  simp only [Bool.and_eq_true] at this
  have h2 := this.2
  simpa [firstB] using h2
/-- A value's head. -/
inductive Head : Int → Int → List UInt8 → Prop
  | num (n : Int) (h : Small' n) : Head 2 n []
  | fn : Head 3 0 []
  | more : Head 4 0 []
  | con (s : List UInt8) (h : upperB s = true) : Head 1 0 s
theorem head_word {f n : Int} {s : List UInt8} (h : Head f n s) : Word (phead f n s) := by
  cases h with
  | num _ h =>
    refine word_of (itoaN_ne n) fun b hb => ?_
    rcases itoaN_bytes n b hb with e | e <;> omega
  | fn => exact word_of (by simp [phead, ifB]) (by decide)
  | more => exact word_of (by simp [phead, ifB]) (by decide)
  | con _ h =>
    have e : phead 1 0 s = s := rfl
    rw [e]
    refine word_of (upperB_ne h) fun b hb => ?_
    have := upper_bytes h b hb
    unfold okB plainB at this
    simp at this
    omega
theorem not_upper_num (n : Int) : upperB (itoaN n) = false := by
  cases hc : itoaN n with
  | nil => exact absurd hc (itoaN_ne n)
  | cons c r =>
    cases hu : upperB (c :: r) with
    | false => rfl
    | true =>
      have h1 := upper_first hu
      have h2 := itoaN_bytes n c (by rw [hc]; exact List.mem_cons_self ..)
      omega
theorem ne_of_head {c : UInt8} {r : List UInt8} {k : UInt8} {t : List UInt8} (h : c ≠ k) : ((c :: r) == (k :: t)) = false := by
  have : (c :: r) ≠ (k :: t) := fun e => h (by injection e)
  simpa using this
theorem num_ne (n : Int) (k : UInt8) (t : List UInt8) (hk : k.toNat ≠ 45) (hk2 : k.toNat < 48 ∨ 57 < k.toNat) : (itoaN n == (k :: t)) = false := by
  cases hc : itoaN n with
  | nil => exact absurd hc (itoaN_ne n)
  | cons c r =>
    have h2 := itoaN_bytes n c (by rw [hc]; exact List.mem_cons_self ..)
    exact ne_of_head fun e => by rw [e] at h2; omega
theorem upper_ne (s : List UInt8) (h : upperB s = true) (k : UInt8) (t : List UInt8) (hk : k.toNat < 65) : (s == (k :: t)) = false := by
  cases s with
  | nil => exact absurd rfl (upperB_ne h)
  | cons c r =>
    have h2 := upper_first h
    exact ne_of_head fun e => by rw [e] at h2; omega
theorem leaf_run : Evly fun m => ∀ f n s, Head f n s → ∀ r, Stop r → ascii (phead f n s ++ r) = true → (phead f n s ++ r).length < 1000000 → ∀ ts d nx nx', Tops ts nx' →
    TR m 47 [.ptr 2 0] (SRd ts (phead f n s ++ r) d nx) = some (.ret ⟨false, dV (.mk f n s [])⟩, SRd ts r d nx) := by
  refine ((cut_str_run.and word_run).and ((rupperT_run.and atoiT_run).and must_run)).step 0 fun m _ ⟨⟨hcut, hword⟩, ⟨⟨hup, hat⟩, hmust⟩⟩ f n s hh r hr ha hl ts d nx nx' ht => ?_
  have hw := head_word hh
  have hcut := hcut 40 (phead f n s ++ r) (SRd ts (phead f n s ++ r) d nx)
  rw [hw.open_ r] at hcut
  simp only at hcut
  have hword := hword (phead f n s) r hw.stop hr ha hl ts d nx nx' ht
  have g : ∀ l, aget (SRd ts l d nx).objs 2 = some [⟨false, .str l⟩, ⟨false, .int .i64 d⟩] := fun l => SRd_get ht
  have hup := fun s => hup s (SRd ts r d nx)
  have hmust := hmust (SRd ts r d nx)
  have hva : ∀ f n s ks, dV (.mk f n s ks) = .agg [.int .i64 f, .int .i64 n, .str s, dlist kV (ks.map dV)] := fun f n s ks => dV_eq _
  rw [TR_fun (af := a47) rfl rfl, hva]
  cases hh with
  | num _ h =>
    have e : phead 2 n [] = itoaN n := rfl
    rw [e] at hcut hword ⊢
    have hat := hat n h (SRd ts r d nx)
    have hup := hup (itoaN n)
    rw [not_upper_num n] at hup
    have e1 := num_ne n 60 [102, 117, 110, 62] (by decide) (by decide)
    have e2 := num_ne n 46 [46, 46] (by decide) (by decide)
    generalize itoaN n ++ r = l at hcut hword ⊢
    generalize itoaN n = w at hword hat hup e1 e2 ⊢
    simp only [a47, exec_seq, exec_region, exec_cond, exec_block, exec_loop, exec_skip, exec_exit, exec_ret, thenX_normal, thenX_exit, thenX_ret, thenX_panic, blockX_normal, blockX_exit, blockX_ret, blockX_panic, opsX_normal, opsX_panic_none, opsX_panic_some, callX_ret, callX_panic, stepX_next, stepX_call, stepX_panic, runOps_nil, runOps_cons, clearEnv, adel, mem, initEnv, initSlots,
    stepOp, wantedA, evalOp, callOf, panicOf, evalV, addr, opd, opds, aget, aset, adel1, lkill, readCells, nth, Env.put, Env.putV, Env.box, Env.bare, dropOwn, dropOwnS, binD, binBD, binBool, binInt, binStr, unD, AOpd.drop, Cell.of, AOp.kind, sameKind, bool?_bool, bool?_undef, int?_int, str?_str, tup?_tup, fn?_fn, agg?_agg, row?_list, isNil?_iface, isNil?_nil, nat?_nat, nat?_zero, assertD, eqlB, isUndef, takeC, unownAt, fits, layCells, putCells, putD, cells_agg, cells_int, cells_bool, cells_str, cells_nils, cells_list, cells_nilp, cells_ptr, cells_iface, cells_fn, cells_nilfn, cells_niliface, cells_dlist, one_agg, one_int, one_bool, one_str, one_nils, one_list, one_nilp, one_ptr, one_iface, one_niliface, one_fn, one_nilfn, one_dlist, ok_agg, ok_int, ok_bool, ok_str, ok_nils, ok_list, ok_nilp, ok_ptr, ok_iface, ok_niliface, ok_fn, ok_nilfn, ok_dlist, fillD, partsOf, optLo, optHi, allSize, dlist_nil, lenOf_nils, lenOf_list, lenOf_dlist, asList_nils, asList_list, asList_dlist, Option.getD_some, Option.getD_none,
    finX_ret, finX_normal, finX_panic, runDefers_nil, runDefers, resX_none, resP_none, resP_some, readRes, readRes1, readRess,
    caseO_some, caseO_none, ifB_true, ifB_false, Nat.reduceAdd, Nat.reduceSub, Nat.reduceMul, Nat.reduceBEq, Bool.false_and, Bool.true_and, Bool.and_true, Bool.and_false, Nat.zero_add, Nat.add_zero, beq_self_eq_true, Bool.true_beq, Bool.false_beq, Bool.not_true, Bool.not_false, decide_true, decide_false, bindO, ptrOf_ptr, ptrOf_eptr, ptrOf_nilp, List.map_cons, List.map_nil, List.length_cons, List.length_nil, List.append_nil, List.nil_append, List.cons_append, List.isEmpty_nil, List.isEmpty_cons, Nat.reduceLeDiff, Int.reduceBEq, Int.reduceNeg, Nat.le_refl, g, hcut, hword, e1, e2, hup, hat, hmust]
  | fn =>
    have e : phead 3 0 [] = [60, 102, 117, 110, 62] := rfl
    rw [e] at hcut hword ⊢
    generalize [60, 102, 117, 110, 62] ++ r = l at hcut hword ⊢
    simp only [a47, exec_seq, exec_region, exec_cond, exec_block, exec_loop, exec_skip, exec_exit, exec_ret, thenX_normal, thenX_exit, thenX_ret, thenX_panic, blockX_normal, blockX_exit, blockX_ret, blockX_panic, opsX_normal, opsX_panic_none, opsX_panic_some, callX_ret, callX_panic, stepX_next, stepX_call, stepX_panic, runOps_nil, runOps_cons, clearEnv, adel, mem, initEnv, initSlots,
    stepOp, wantedA, evalOp, callOf, panicOf, evalV, addr, opd, opds, aget, aset, adel1, lkill, readCells, nth, Env.put, Env.putV, Env.box, Env.bare, dropOwn, dropOwnS, binD, binBD, binBool, binInt, binStr, unD, AOpd.drop, Cell.of, AOp.kind, sameKind, bool?_bool, bool?_undef, int?_int, str?_str, tup?_tup, fn?_fn, agg?_agg, row?_list, isNil?_iface, isNil?_nil, nat?_nat, nat?_zero, assertD, eqlB, isUndef, takeC, unownAt, fits, layCells, putCells, putD, cells_agg, cells_int, cells_bool, cells_str, cells_nils, cells_list, cells_nilp, cells_ptr, cells_iface, cells_fn, cells_nilfn, cells_niliface, cells_dlist, one_agg, one_int, one_bool, one_str, one_nils, one_list, one_nilp, one_ptr, one_iface, one_niliface, one_fn, one_nilfn, one_dlist, ok_agg, ok_int, ok_bool, ok_str, ok_nils, ok_list, ok_nilp, ok_ptr, ok_iface, ok_niliface, ok_fn, ok_nilfn, ok_dlist, fillD, partsOf, optLo, optHi, allSize, dlist_nil, lenOf_nils, lenOf_list, lenOf_dlist, asList_nils, asList_list, asList_dlist, Option.getD_some, Option.getD_none,
    finX_ret, finX_normal, finX_panic, runDefers_nil, runDefers, resX_none, resP_none, resP_some, readRes, readRes1, readRess,
    caseO_some, caseO_none, ifB_true, ifB_false, Nat.reduceAdd, Nat.reduceSub, Nat.reduceMul, Nat.reduceBEq, Bool.false_and, Bool.true_and, Bool.and_true, Bool.and_false, Nat.zero_add, Nat.add_zero, beq_self_eq_true, Bool.true_beq, Bool.false_beq, Bool.not_true, Bool.not_false, decide_true, decide_false, bindO, ptrOf_ptr, ptrOf_eptr, ptrOf_nilp, List.map_cons, List.map_nil, List.length_cons, List.length_nil, List.append_nil, List.nil_append, List.cons_append, List.isEmpty_nil, List.isEmpty_cons, Nat.reduceLeDiff, Int.reduceBEq, Int.reduceNeg, Nat.le_refl, g, hcut, hword]
  | more =>
    have e : phead 4 0 [] = [46, 46, 46] := rfl
    rw [e] at hcut hword ⊢
    have e1 : (([46, 46, 46] : List UInt8) == [60, 102, 117, 110, 62]) = false := rfl
    generalize [46, 46, 46] ++ r = l at hcut hword ⊢
    simp only [a47, exec_seq, exec_region, exec_cond, exec_block, exec_loop, exec_skip, exec_exit, exec_ret, thenX_normal, thenX_exit, thenX_ret, thenX_panic, blockX_normal, blockX_exit, blockX_ret, blockX_panic, opsX_normal, opsX_panic_none, opsX_panic_some, callX_ret, callX_panic, stepX_next, stepX_call, stepX_panic, runOps_nil, runOps_cons, clearEnv, adel, mem, initEnv, initSlots,
    stepOp, wantedA, evalOp, callOf, panicOf, evalV, addr, opd, opds, aget, aset, adel1, lkill, readCells, nth, Env.put, Env.putV, Env.box, Env.bare, dropOwn, dropOwnS, binD, binBD, binBool, binInt, binStr, unD, AOpd.drop, Cell.of, AOp.kind, sameKind, bool?_bool, bool?_undef, int?_int, str?_str, tup?_tup, fn?_fn, agg?_agg, row?_list, isNil?_iface, isNil?_nil, nat?_nat, nat?_zero, assertD, eqlB, isUndef, takeC, unownAt, fits, layCells, putCells, putD, cells_agg, cells_int, cells_bool, cells_str, cells_nils, cells_list, cells_nilp, cells_ptr, cells_iface, cells_fn, cells_nilfn, cells_niliface, cells_dlist, one_agg, one_int, one_bool, one_str, one_nils, one_list, one_nilp, one_ptr, one_iface, one_niliface, one_fn, one_nilfn, one_dlist, ok_agg, ok_int, ok_bool, ok_str, ok_nils, ok_list, ok_nilp, ok_ptr, ok_iface, ok_niliface, ok_fn, ok_nilfn, ok_dlist, fillD, partsOf, optLo, optHi, allSize, dlist_nil, lenOf_nils, lenOf_list, lenOf_dlist, asList_nils, asList_list, asList_dlist, Option.getD_some, Option.getD_none,
    finX_ret, finX_normal, finX_panic, runDefers_nil, runDefers, resX_none, resP_none, resP_some, readRes, readRes1, readRess,
    caseO_some, caseO_none, ifB_true, ifB_false, Nat.reduceAdd, Nat.reduceSub, Nat.reduceMul, Nat.reduceBEq, Bool.false_and, Bool.true_and, Bool.and_true, Bool.and_false, Nat.zero_add, Nat.add_zero, beq_self_eq_true, Bool.true_beq, Bool.false_beq, Bool.not_true, Bool.not_false, decide_true, decide_false, bindO, ptrOf_ptr, ptrOf_eptr, ptrOf_nilp, List.map_cons, List.map_nil, List.length_cons, List.length_nil, List.append_nil, List.nil_append, List.cons_append, List.isEmpty_nil, List.isEmpty_cons, Nat.reduceLeDiff, Int.reduceBEq, Int.reduceNeg, Nat.le_refl, g, hcut, hword, e1]
  | con _ h =>
    have e : phead 1 0 s = s := rfl
    rw [e] at hcut hword ⊢
    have hup := hup s
    rw [h] at hup
    have e1 := upper_ne s h 60 [102, 117, 110, 62] (by decide)
    have e2 := upper_ne s h 46 [46, 46] (by decide)
    generalize s ++ r = l at hcut hword ⊢
    simp only [a47, exec_seq, exec_region, exec_cond, exec_block, exec_loop, exec_skip, exec_exit, exec_ret, thenX_normal, thenX_exit, thenX_ret, thenX_panic, blockX_normal, blockX_exit, blockX_ret, blockX_panic, opsX_normal, opsX_panic_none, opsX_panic_some, callX_ret, callX_panic, stepX_next, stepX_call, stepX_panic, runOps_nil, runOps_cons, clearEnv, adel, mem, initEnv, initSlots,
    stepOp, wantedA, evalOp, callOf, panicOf, evalV, addr, opd, opds, aget, aset, adel1, lkill, readCells, nth, Env.put, Env.putV, Env.box, Env.bare, dropOwn, dropOwnS, binD, binBD, binBool, binInt, binStr, unD, AOpd.drop, Cell.of, AOp.kind, sameKind, bool?_bool, bool?_undef, int?_int, str?_str, tup?_tup, fn?_fn, agg?_agg, row?_list, isNil?_iface, isNil?_nil, nat?_nat, nat?_zero, assertD, eqlB, isUndef, takeC, unownAt, fits, layCells, putCells, putD, cells_agg, cells_int, cells_bool, cells_str, cells_nils, cells_list, cells_nilp, cells_ptr, cells_iface, cells_fn, cells_nilfn, cells_niliface, cells_dlist, one_agg, one_int, one_bool, one_str, one_nils, one_list, one_nilp, one_ptr, one_iface, one_niliface, one_fn, one_nilfn, one_dlist, ok_agg, ok_int, ok_bool, ok_str, ok_nils, ok_list, ok_nilp, ok_ptr, ok_iface, ok_niliface, ok_fn, ok_nilfn, ok_dlist, fillD, partsOf, optLo, optHi, allSize, dlist_nil, lenOf_nils, lenOf_list, lenOf_dlist, asList_nils, asList_list, asList_dlist, Option.getD_some, Option.getD_none,
    finX_ret, finX_normal, finX_panic, runDefers_nil, runDefers, resX_none, resP_none, resP_some, readRes, readRes1, readRess,
    caseO_some, caseO_none, ifB_true, ifB_false, Nat.reduceAdd, Nat.reduceSub, Nat.reduceMul, Nat.reduceBEq, Bool.false_and, Bool.true_and, Bool.and_true, Bool.and_false, Nat.zero_add, Nat.add_zero, beq_self_eq_true, Bool.true_beq, Bool.false_beq, Bool.not_true, Bool.not_false, decide_true, decide_false, bindO, ptrOf_ptr, ptrOf_eptr, ptrOf_nilp, List.map_cons, List.map_nil, List.length_cons, List.length_nil, List.append_nil, List.nil_append, List.cons_append, List.isEmpty_nil, List.isEmpty_cons, Nat.reduceLeDiff, Int.reduceBEq, Int.reduceNeg, Nat.le_refl, g, hcut, hword, e1, e2, hup]
end Go.Proofs.YtdoppkjoemlhjaaDoor.Sh

/-
  The reader of prints: a value's print is read as it was.
-/
namespace Go.Proofs.YtdoppkjoemlhjaaDoor.Sh
open Go Go.Mx
theorem loopN_rel {body : Env → Store → XRes} (I : Nat → Env → Store → Prop) (Q : AExit × Env × Store → Prop) (k : Nat) (hstep : ∀ i, i < k → ∀ e σ, I i e σ → ∃ e' σ', body e σ = some (.normal, e', σ') ∧ I (i + 1) e' σ')
    (hend : ∀ e σ, I k e σ → ∃ r, body e σ = some r ∧ (∀ e σ, r ≠ (.normal, e, σ)) ∧ Q r) : ∀ (n j : Nat) (e : Env) (σ : Store), j ≤ k → k < n + j → I j e σ → ∃ r, loopN body n e σ = some r ∧ Q r
  | 0, j, e, σ, h1, h2, _ => by omega
  | n + 1, j, e, σ, h1, h2, hI => by
    by_cases hj : j = k
    · subst hj
      obtain ⟨r, hr, hn, hq⟩ := hend e σ hI
      refine ⟨r, ?_, hq⟩
      rw [loopN, hr]
      obtain ⟨x, e', σ'⟩ := r
      cases x with
      | normal => exact absurd rfl (hn e' σ')
      | _ => rfl
    · obtain ⟨e', σ', hb, hI'⟩ := hstep j (by omega) e σ hI
      rw [loopN, hb]
      exact loopN_rel I Q k hstep hend n (j + 1) e' σ' (by omega) (by omega) hI'
theorem ascii_app : ∀ a b : List UInt8, ascii (a ++ b) = (ascii a && ascii b)
  | [], b => rfl
  | x :: a, b => by
    rw [List.cons_append, ascii, ascii]
    cases decide (x.toNat < 128) with
    | true => rw [ifB_true, ifB_true, ascii_app a b]
    | false => rfl
def StopC (r : List UInt8) : Prop := r = [] ∨ ∃ t, r = 41 :: t
theorem StopC.stop {r : List UInt8} (h : StopC r) : Stop r := by
  rcases h with h | ⟨t, h⟩
  · exact .inl h
  · exact .inr ⟨t, .inr h⟩
theorem stop_kids (ks : List V) {r : List UInt8} (h : StopC r) : Stop (ptexts ks ++ r) := by
  cases ks with
  | nil => exact h.stop
  | cons k l => exact .inr ⟨ptext k true ++ ptexts l ++ r, .inl (by simp [ptexts])⟩
theorem cut32 {r : List UInt8} (h : StopC r) : cutB 32 r = (r, false) := by
  rcases h with rfl | ⟨t, rfl⟩ <;> rfl
theorem Rl_46 {ds : List D} {m : Option D} {σ : Store} : Rl 46 ds m σ = none := rfl
set_option maxRecDepth 10000
theorem back_run : Evly fun n => ∀ ts p l d nx nx', Tops (p :: ts) nx' → -1000 < d → d < 1000 → TRD n 46 [.ptr p 0] (SRd (p :: ts) l d nx) = some (.ret ⟨false, .tup []⟩, SRd (p :: ts) l (d + 1) nx) := (Evly.all (p := fun _ => True) fun _ => trivial).step 0 fun m _ _ ts p l d nx nx' ht h1 h2 => by
  have g : aget (SRd (p :: ts) l d nx).objs 2 = some [⟨false, .str l⟩, ⟨false, .int .i64 d⟩] := SRd_get ht
  have gt : aget (SRd (p :: ts) l d nx).objs p = some [⟨false, .ptr 2 0⟩] := SRd_top
  have u : ({ objs := aset (SRd (p :: ts) l d nx).objs 2 [⟨false, .str l⟩, ⟨false, .int .i64 (d + 1)⟩], tys := (SRd (p :: ts) l d nx).tys, iters := (SRd (p :: ts) l d nx).iters, next := nx } : Store) = SRd (p :: ts) l (d + 1) nx := SRd_set ht
  have hw : IntKind.i64.wrap (d + 1) = d + 1 := wrap64 (by omega) (by omega)
  have hx : exec (TR m) m a46.body (initEnv [.ptr p 0]) (SRd (p :: ts) l d nx) = some (.normal, { slots := [], locs := [], boxes := [], defers := [] }, SRd (p :: ts) l (d + 1) nx) := by
    simp only [a46, exec_seq, exec_region, exec_cond, exec_block, exec_loop, exec_skip, exec_exit, exec_ret, thenX_normal, thenX_exit, thenX_ret, thenX_panic, blockX_normal, blockX_exit, blockX_ret, blockX_panic, opsX_normal, opsX_panic_none, opsX_panic_some, callX_ret, callX_panic, stepX_next, stepX_call, stepX_panic, runOps_nil, runOps_cons, clearEnv, adel, mem, initEnv, initSlots,
    stepOp, wantedA, evalOp, callOf, panicOf, evalV, addr, opd, opds, aget, aset, adel1, lkill, readCells, nth, Env.put, Env.putV, Env.box, Env.bare, dropOwn, dropOwnS, binD, binBD, binBool, binInt, binStr, unD, AOpd.drop, Cell.of, AOp.kind, sameKind, bool?_bool, bool?_undef, int?_int, str?_str, tup?_tup, fn?_fn, agg?_agg, row?_list, isNil?_iface, isNil?_nil, nat?_nat, nat?_zero, assertD, eqlB, isUndef, takeC, unownAt, fits, layCells, putCells, putD, cells_agg, cells_int, cells_bool, cells_str, cells_nils, cells_list, cells_nilp, cells_ptr, cells_iface, cells_fn, cells_nilfn, cells_niliface, cells_dlist, one_agg, one_int, one_bool, one_str, one_nils, one_list, one_nilp, one_ptr, one_iface, one_niliface, one_fn, one_nilfn, one_dlist, ok_agg, ok_int, ok_bool, ok_str, ok_nils, ok_list, ok_nilp, ok_ptr, ok_iface, ok_niliface, ok_fn, ok_nilfn, ok_dlist, fillD, partsOf, optLo, optHi, allSize, dlist_nil, lenOf_nils, lenOf_list, lenOf_dlist, asList_nils, asList_list, asList_dlist, Option.getD_some, Option.getD_none,
    finX_ret, finX_normal, finX_panic, runDefers_nil, runDefers, resX_none, resP_none, resP_some, readRes, readRes1, readRess,
    caseO_some, caseO_none, ifB_true, ifB_false, Nat.reduceAdd, Nat.reduceSub, Nat.reduceMul, Nat.reduceBEq, Bool.false_and, Bool.true_and, Bool.and_true, Bool.and_false, Nat.zero_add, Nat.add_zero, beq_self_eq_true, Bool.true_beq, Bool.false_beq, Bool.not_true, Bool.not_false, decide_true, decide_false, bindO, ptrOf_ptr, ptrOf_eptr, ptrOf_nilp, List.map_cons, List.map_nil, List.length_cons, List.length_nil, List.append_nil, List.nil_append, List.cons_append, List.isEmpty_nil, List.isEmpty_cons, Nat.reduceLeDiff, Int.reduceBEq, Int.reduceNeg, Nat.le_refl, g, gt, u, hw, SRd_next]
  unfold TRD
  rw [runQ]
  have hΓ : Γr 46 = some a46 := rfl
  have hl : (([D.ptr p 0] : List D).length == a46.nargs) = true := rfl
  have hx' : exec (runQ Γr Rl XR m false) m a46.body (initEnv [.ptr p 0]) (SRd (p :: ts) l d nx) = some (.normal, { slots := [], locs := [], boxes := [], defers := [] }, SRd (p :: ts) l (d + 1) nx) := hx
  rw [hΓ]
  simp only [hl, ifB_true, hx', finish, List.isEmpty_nil, Bool.not_true, Bool.and_false, ifB_false, runDefers, bindO, caseO_some]
  rfl
section
variable {C : CallF} {n : Nat} {ks : List V} {i : Nat} {ts : List Nat} {p : Nat} {f x : Int} {s r : List UInt8} {d : Int} {nx nx2 : Nat}
def E35 (f x : Int) (s : List UInt8) (ks : List V) (p i : Nat) : Env := { slots := [(1, ⟨false, .ptr p 0⟩)], locs := [(2, 2, 0), (3, 3, 0)], boxes := [(2, zeroV), (3, [⟨false, .int .i64 f⟩, ⟨false, .int .i64 x⟩, ⟨false, .str s⟩, ⟨ow i, dlist kV ((ks.take i).map dV)⟩])], defers := [(46, [.ptr p 0])] }
theorem l35_step (t : List UInt8) (h : i < ks.length) (hl : ks.length < 1048576) (ht : Tops (p :: ts) nx2) (hcut : C 48 [.str (32 :: t), .str [32]] (SRd (p :: ts) (32 :: t) d nx) = some (.ret ⟨false, .tup [.str t, .bool true]⟩, SRd (p :: ts) (32 :: t) d nx))
    (hc : C 47 [.ptr 2 0] (SRd (p :: ts) t d nx) = some (.ret ⟨false, dV ks[i]⟩, SRd (p :: ts) r d nx2)) : exec C n a35_l0 (E35 f x s ks p i) (SRd (p :: ts) (32 :: t) d nx) = some (.normal, E35 f x s ks p (i + 1), SRd (p :: ts) r d nx2) := by
  have g : ∀ l nx, aget (SRd (p :: ts) l d nx).objs 2 = some [⟨false, .str l⟩, ⟨false, .int .i64 d⟩] := fun l nx => SRd_get ht
  have gt : ∀ l nx, aget (SRd (p :: ts) l d nx).objs p = some [⟨false, .ptr 2 0⟩] := fun l nx => SRd_top
  have u : ∀ l l', ({ objs := aset (SRd (p :: ts) l d nx).objs 2 [⟨false, .str l'⟩, ⟨false, .int .i64 d⟩], tys := (SRd (p :: ts) l d nx).tys, iters := (SRd (p :: ts) l d nx).iters, next := nx } : Store) = SRd (p :: ts) l' d nx := fun l l' => SRd_set ht
  have ha := app_take ks i h hl
  generalize 32 :: t = l at *
  simp only [a35_l0, E35, zeroV, exec_seq, exec_region, exec_cond, exec_block, exec_loop, exec_skip, exec_exit, exec_ret, thenX_normal, thenX_exit, thenX_ret, thenX_panic, blockX_normal, blockX_exit, blockX_ret, blockX_panic, opsX_normal, opsX_panic_none, opsX_panic_some, callX_ret, callX_panic, stepX_next, stepX_call, stepX_panic, runOps_nil, runOps_cons, clearEnv, adel, mem, initEnv, initSlots,
    stepOp, wantedA, evalOp, callOf, panicOf, evalV, addr, opd, opds, aget, aset, adel1, lkill, readCells, nth, Env.put, Env.putV, Env.box, Env.bare, dropOwn, dropOwnS, binD, binBD, binBool, binInt, binStr, unD, AOpd.drop, Cell.of, AOp.kind, sameKind, bool?_bool, bool?_undef, int?_int, str?_str, tup?_tup, fn?_fn, agg?_agg, row?_list, isNil?_iface, isNil?_nil, nat?_nat, nat?_zero, assertD, eqlB, isUndef, takeC, unownAt, fits, layCells, putCells, putD, cells_agg, cells_int, cells_bool, cells_str, cells_nils, cells_list, cells_nilp, cells_ptr, cells_iface, cells_fn, cells_nilfn, cells_niliface, cells_dlist, one_agg, one_int, one_bool, one_str, one_nils, one_list, one_nilp, one_ptr, one_iface, one_niliface, one_fn, one_nilfn, one_dlist, ok_agg, ok_int, ok_bool, ok_str, ok_nils, ok_list, ok_nilp, ok_ptr, ok_iface, ok_niliface, ok_fn, ok_nilfn, ok_dlist, fillD, partsOf, optLo, optHi, allSize, dlist_nil, lenOf_nils, lenOf_list, lenOf_dlist, asList_nils, asList_list, asList_dlist, Option.getD_some, Option.getD_none,
    finX_ret, finX_normal, finX_panic, runDefers_nil, runDefers, resX_none, resP_none, resP_some, readRes, readRes1, readRess,
    caseO_some, caseO_none, ifB_true, ifB_false, Nat.reduceAdd, Nat.reduceSub, Nat.reduceMul, Nat.reduceBEq, Bool.false_and, Bool.true_and, Bool.and_true, Bool.and_false, Nat.zero_add, Nat.add_zero, beq_self_eq_true, Bool.true_beq, Bool.false_beq, Bool.not_true, Bool.not_false, decide_true, decide_false, bindO, ptrOf_ptr, ptrOf_eptr, ptrOf_nilp, List.map_cons, List.map_nil, List.length_cons, List.length_nil, List.append_nil, List.nil_append, List.cons_append, List.isEmpty_nil, List.isEmpty_cons, Nat.reduceLeDiff, Int.reduceBEq, Int.reduceNeg, Nat.le_refl, g, gt, u, SRd_next, hcut, hc, ok_dV, cells_dV, ha]
theorem l35_end (hl : ks.length < 1048576) (ht : Tops (p :: ts) nx2) (hcut : C 48 [.str r, .str [32]] (SRd (p :: ts) r d nx) = some (.ret ⟨false, .tup [.str r, .bool false]⟩, SRd (p :: ts) r d nx)) :
    exec C n a35_l0 (E35 f x s ks p ks.length) (SRd (p :: ts) r d nx) = some (.ret, { slots := [], locs := [(2, 2, 0)], boxes := [(2, [⟨false, .int .i64 f⟩, ⟨false, .int .i64 x⟩, ⟨false, .str s⟩, ⟨false, dlist kV (ks.map dV)⟩])], defers := [(46, [.ptr p 0])] }, SRd (p :: ts) r d nx) := by
  have g : ∀ l nx, aget (SRd (p :: ts) l d nx).objs 2 = some [⟨false, .str l⟩, ⟨false, .int .i64 d⟩] := fun l nx => SRd_get ht
  have gt : ∀ l nx, aget (SRd (p :: ts) l d nx).objs p = some [⟨false, .ptr 2 0⟩] := fun l nx => SRd_top
  have htk : List.take ks.length ks = ks := List.take_length
  simp only [a35_l0, E35, zeroV, exec_seq, exec_region, exec_cond, exec_block, exec_loop, exec_skip, exec_exit, exec_ret, thenX_normal, thenX_exit, thenX_ret, thenX_panic, blockX_normal, blockX_exit, blockX_ret, blockX_panic, opsX_normal, opsX_panic_none, opsX_panic_some, callX_ret, callX_panic, stepX_next, stepX_call, stepX_panic, runOps_nil, runOps_cons, clearEnv, adel, mem, initEnv, initSlots,
    stepOp, wantedA, evalOp, callOf, panicOf, evalV, addr, opd, opds, aget, aset, adel1, lkill, readCells, nth, Env.put, Env.putV, Env.box, Env.bare, dropOwn, dropOwnS, binD, binBD, binBool, binInt, binStr, unD, AOpd.drop, Cell.of, AOp.kind, sameKind, bool?_bool, bool?_undef, int?_int, str?_str, tup?_tup, fn?_fn, agg?_agg, row?_list, isNil?_iface, isNil?_nil, nat?_nat, nat?_zero, assertD, eqlB, isUndef, takeC, unownAt, fits, layCells, putCells, putD, cells_agg, cells_int, cells_bool, cells_str, cells_nils, cells_list, cells_nilp, cells_ptr, cells_iface, cells_fn, cells_nilfn, cells_niliface, cells_dlist, one_agg, one_int, one_bool, one_str, one_nils, one_list, one_nilp, one_ptr, one_iface, one_niliface, one_fn, one_nilfn, one_dlist, ok_agg, ok_int, ok_bool, ok_str, ok_nils, ok_list, ok_nilp, ok_ptr, ok_iface, ok_niliface, ok_fn, ok_nilfn, ok_dlist, fillD, partsOf, optLo, optHi, allSize, dlist_nil, lenOf_nils, lenOf_list, lenOf_dlist, asList_nils, asList_list, asList_dlist, Option.getD_some, Option.getD_none,
    finX_ret, finX_normal, finX_panic, runDefers_nil, runDefers, resX_none, resP_none, resP_some, readRes, readRes1, readRess,
    caseO_some, caseO_none, ifB_true, ifB_false, Nat.reduceAdd, Nat.reduceSub, Nat.reduceMul, Nat.reduceBEq, Bool.false_and, Bool.true_and, Bool.and_true, Bool.and_false, Nat.zero_add, Nat.add_zero, beq_self_eq_true, Bool.true_beq, Bool.false_beq, Bool.not_true, Bool.not_false, decide_true, decide_false, bindO, ptrOf_ptr, ptrOf_eptr, ptrOf_nilp, List.map_cons, List.map_nil, List.length_cons, List.length_nil, List.append_nil, List.nil_append, List.cons_append, List.isEmpty_nil, List.isEmpty_cons, Nat.reduceLeDiff, Int.reduceBEq, Int.reduceNeg, Nat.le_refl, g, gt, hcut, htk]
end
/-- What a value must be to be read as it was. -/
theorem good_head {f n : Int} {s : List UInt8} {ks : List V} (h : good (.mk f n s ks) = true) (hn : Small' n) : Head f n s ∧ (ks ≠ [] → f = 1) ∧ goods ks = true := by
  rw [good] at h
  cases h2 : f == 2 with
  | true =>
    have e : f = 2 := by simpa using h2
    rw [h2] at h
    simp only [ifB_true, Bool.and_eq_true, beq_iff_eq] at h
    obtain ⟨h3, h4⟩ := h
    have hk : ks = [] := List.length_eq_zero_iff.1 h4
    subst e h3 hk
    exact ⟨.num n hn, fun h => absurd rfl h, rfl⟩
  | false =>
  cases h3 : f == 3 with
  | true =>
    have e : f = 3 := by simpa using h3
    rw [h2, h3] at h
    simp only [ifB_true, ifB_false, Bool.and_eq_true, beq_iff_eq] at h
    obtain ⟨⟨h5, h4⟩, h6⟩ := h
    have hk : ks = [] := List.length_eq_zero_iff.1 h4
    subst e h5 hk h6
    exact ⟨.fn, fun h => absurd rfl h, rfl⟩
  | false =>
  cases h4 : f == 4 with
  | true =>
    have e : f = 4 := by simpa using h4
    rw [h2, h3, h4] at h
    simp only [ifB_true, ifB_false, Bool.and_eq_true, beq_iff_eq] at h
    obtain ⟨⟨h5, h7⟩, h6⟩ := h
    have hk : ks = [] := List.length_eq_zero_iff.1 h7
    subst e h5 hk h6
    exact ⟨.more, fun h => absurd rfl h, rfl⟩
  | false =>
  cases h1 : f == 1 with
  | false => rw [h2, h3, h4, h1] at h; simp [ifB_false] at h
  | true =>
    have e : f = 1 := by simpa using h1
    rw [h2, h3, h4, h1] at h
    simp only [ifB_true, ifB_false, Bool.and_eq_true, beq_iff_eq] at h
    obtain ⟨⟨⟨h5, h6⟩, _⟩, h8⟩ := h
    subst e h5
    exact ⟨.con s h6, fun _ => rfl, h8⟩
theorem nested_kid {ks : List V} {k : V} (h : k ∈ ks) : nested k ≤ nesteds ks := by
  induction ks with
  | nil => cases h
  | cons a l ih =>
    rw [nesteds]
    rcases List.mem_cons.1 h with e | h
    · rw [e]; omega
    · have := ih h; omega
theorem ptexts_drop (ks : List V) (i : Nat) (h : i < ks.length) : ptexts (ks.drop i) = 32 :: (ptext ks[i] true ++ ptexts (ks.drop (i + 1))) := by
  rw [List.drop_eq_getElem_cons h, ptexts]
  simp
def ValueOK (v : V) (m : Nat) : Prop := ∀ r, StopC r → ascii (ptext v false ++ r) = true → (ptext v false ++ r).length < 1000000 → ∀ ts d nx, Tops ts nx → (nested v : Int) + 1 ≤ d → d < 1000 →
  ∃ nx', nx ≤ nx' ∧ TR m 35 [.ptr 2 0] (SRd ts (ptext v false ++ r) d nx) = some (.ret ⟨false, dV v⟩, SRd ts r d nx')
def AtomOK (v : V) (m : Nat) : Prop := ∀ r, Stop r → ascii (ptext v true ++ r) = true → (ptext v true ++ r).length < 1000000 → ∀ ts d nx, Tops ts nx → (nested v : Int) + 1 ≤ d → d < 1000 →
  ∃ nx', nx ≤ nx' ∧ TR m 47 [.ptr 2 0] (SRd ts (ptext v true ++ r) d nx) = some (.ret ⟨false, dV v⟩, SRd ts r d nx')
theorem atom_of_value (f n : Int) (s : List UInt8) (ks : List V) (hh : Head f n s) (hks : ks ≠ [] → f = 1) (hv : Evly (ValueOK (.mk f n s ks))) : Evly (AtomOK (.mk f n s ks)) := by
  by_cases hb : (decide (0 < ks.length) || decide (n < 0)) = true
  · refine (hv.and (cut_str_run.and must_run)).step 0 fun m _ ⟨hval, ⟨hcut, hmust⟩⟩ r hr ha hl ts d nx ht hd hd2 => ?_
    have ht1 : ptext (.mk f n s ks) true = [40] ++ ptext (.mk f n s ks) false ++ [41] := by
      rw [ptext, ptext, Bool.true_and, Bool.false_and, hb, ifB_true, ifB_false]
    rw [ht1] at ha hl ⊢
    have el : [40] ++ ptext (.mk f n s ks) false ++ [41] ++ r = 40 :: (ptext (.mk f n s ks) false ++ (41 :: r)) := by simp
    rw [el] at ha hl ⊢
    have ha2 : ascii (ptext (.mk f n s ks) false ++ (41 :: r)) = true := by
      have : ascii ([40] ++ (ptext (.mk f n s ks) false ++ (41 :: r))) = true := ha
      rw [ascii_app, Bool.and_eq_true] at this
      exact this.2
    obtain ⟨nx', hnx, hval⟩ := hval (41 :: r) (.inr ⟨r, rfl⟩) ha2 (by simp only [List.length_cons] at hl; omega) ts d nx ht hd hd2
    refine ⟨nx', hnx, ?_⟩
    have ht' := ht.mono hnx
    generalize ptext (.mk f n s ks) false ++ (41 :: r) = t at *
    have c1 := hcut 40 (40 :: t) (SRd ts (40 :: t) d nx)
    have c2 := hcut 41 (41 :: r) (SRd ts (41 :: r) d nx')
    have e1 : cutB 40 (40 :: t) = (t, true) := rfl
    have e2 : cutB 41 (41 :: r) = (r, true) := rfl
    rw [e1] at c1
    rw [e2] at c2
    simp only at c1 c2
    have hm := hmust (SRd ts (41 :: r) d nx')
    have g : ∀ l nx, aget (SRd ts l d nx).objs 2 = some [⟨false, .str l⟩, ⟨false, .int .i64 d⟩] := fun l nx => SRd_get ht'
    have u : ∀ l l' nx, ({ objs := aset (SRd ts l d nx).objs 2 [⟨false, .str l'⟩, ⟨false, .int .i64 d⟩], tys := (SRd ts l d nx).tys, iters := (SRd ts l d nx).iters, next := nx } : Store) = SRd ts l' d nx := fun l l' nx => SRd_set ht'
    rw [TR_fun (af := a47) rfl rfl]
    rw [dV_eq] at hval ⊢
    generalize 40 :: t = l1 at *
    generalize 41 :: r = l2 at *
    simp only [form_mk, n_mk, name_mk, kids_mk] at hval ⊢
    simp only [a47, exec_seq, exec_region, exec_cond, exec_block, exec_loop, exec_skip, exec_exit, exec_ret, thenX_normal, thenX_exit, thenX_ret, thenX_panic, blockX_normal, blockX_exit, blockX_ret, blockX_panic, opsX_normal, opsX_panic_none, opsX_panic_some, callX_ret, callX_panic, stepX_next, stepX_call, stepX_panic, runOps_nil, runOps_cons, clearEnv, adel, mem, initEnv, initSlots,
    stepOp, wantedA, evalOp, callOf, panicOf, evalV, addr, opd, opds, aget, aset, adel1, lkill, readCells, nth, Env.put, Env.putV, Env.box, Env.bare, dropOwn, dropOwnS, binD, binBD, binBool, binInt, binStr, unD, AOpd.drop, Cell.of, AOp.kind, sameKind, bool?_bool, bool?_undef, int?_int, str?_str, tup?_tup, fn?_fn, agg?_agg, row?_list, isNil?_iface, isNil?_nil, nat?_nat, nat?_zero, assertD, eqlB, isUndef, takeC, unownAt, fits, layCells, putCells, putD, cells_agg, cells_int, cells_bool, cells_str, cells_nils, cells_list, cells_nilp, cells_ptr, cells_iface, cells_fn, cells_nilfn, cells_niliface, cells_dlist, one_agg, one_int, one_bool, one_str, one_nils, one_list, one_nilp, one_ptr, one_iface, one_niliface, one_fn, one_nilfn, one_dlist, ok_agg, ok_int, ok_bool, ok_str, ok_nils, ok_list, ok_nilp, ok_ptr, ok_iface, ok_niliface, ok_fn, ok_nilfn, ok_dlist, fillD, partsOf, optLo, optHi, allSize, dlist_nil, lenOf_nils, lenOf_list, lenOf_dlist, asList_nils, asList_list, asList_dlist, Option.getD_some, Option.getD_none,
    finX_ret, finX_normal, finX_panic, runDefers_nil, runDefers, resX_none, resP_none, resP_some, readRes, readRes1, readRess,
    caseO_some, caseO_none, ifB_true, ifB_false, Nat.reduceAdd, Nat.reduceSub, Nat.reduceMul, Nat.reduceBEq, Bool.false_and, Bool.true_and, Bool.and_true, Bool.and_false, Nat.zero_add, Nat.add_zero, beq_self_eq_true, Bool.true_beq, Bool.false_beq, Bool.not_true, Bool.not_false, decide_true, decide_false, bindO, ptrOf_ptr, ptrOf_eptr, ptrOf_nilp, List.map_cons, List.map_nil, List.length_cons, List.length_nil, List.append_nil, List.nil_append, List.cons_append, List.isEmpty_nil, List.isEmpty_cons, Nat.reduceLeDiff, Int.reduceBEq, Int.reduceNeg, Nat.le_refl, g, u, SRd_next, c1, c2, hm, hval]
  · have hb : (decide (0 < ks.length) || decide (n < 0)) = false := by simpa using hb
    have hk : ks = [] := by
      rw [Bool.or_eq_false_iff] at hb
      have := of_decide_eq_false hb.1
      exact List.length_eq_zero_iff.1 (by omega)
    subst hk
    have ht1 : ptext (.mk f n s []) true = phead f n s := by
      rw [ptext, Bool.true_and, hb, ifB_false, ptexts, List.append_nil]
    refine leaf_run.mono fun m hleaf r hr ha hl ts d nx ht hd hd2 => ?_
    rw [ht1] at ha hl ⊢
    exact ⟨nx, Nat.le_refl _, hleaf f n s hh r hr ha hl ts d nx nx ht⟩
theorem value_of_atoms (f n : Int) (s : List UInt8) (ks : List V) (hh : Head f n s) (hks : ks ≠ [] → f = 1) (hlen : ks.length < 1048576) (hk : ∀ k ∈ ks, Evly (AtomOK k)) : Evly (ValueOK (.mk f n s ks)) := by
  have hkids : Evly fun m => ∀ k ∈ ks, AtomOK k m := Evly.list ks hk
  refine (((hkids.and leaf_run).and (cut_str_run.and must_run)).and back_run).step (ks.length + 1) fun m hm ⟨⟨⟨hat, hleaf⟩, ⟨hcut, hmust⟩⟩, hback⟩ r hr ha hl ts d nx ht hd hd2 => ?_
  have ht1 : ptext (.mk f n s ks) false = phead f n s ++ ptexts ks := by rw [ptext, Bool.false_and, ifB_false]
  rw [ht1] at ha hl ⊢
  rw [List.append_assoc] at ha hl ⊢
  have hp := ht.push
  have hleaf := hleaf f n s hh (ptexts ks ++ r) (stop_kids ks hr) ha hl (nx :: ts) (d - 1) (nx + 1) (nx + 1) hp
  have hkd : ∀ k ∈ ks, (nested k : Int) + 1 ≤ d - 1 := fun k hk => by
    have hf := hks (List.ne_nil_of_mem hk)
    have h1 := nested_kid hk
    have h2 : nested (.mk f n s ks) = nesteds ks + 1 := by rw [nested, hf]; rfl
    omega
  have hasc : ascii (ptexts ks ++ r) = true := by
    rw [ascii_app, Bool.and_eq_true] at ha
    exact ha.2
  have hlen2 : (ptexts ks ++ r).length < 1000000 := by simp only [List.length_append] at hl ⊢; omega
  obtain ⟨res, hloop, nx', hnx', hres⟩ := loopN_rel (body := exec (TR m) m a35_l0)
    (fun i e σ => ∃ nx2, nx + 1 ≤ nx2 ∧ e = E35 f n s ks nx i ∧ σ = SRd (nx :: ts) (ptexts (ks.drop i) ++ r) (d - 1) nx2)
    (fun res => ∃ nx2, nx + 1 ≤ nx2 ∧ res = (.ret, { slots := [], locs := [(2, 2, 0)], boxes := [(2, [⟨false, .int .i64 f⟩, ⟨false, .int .i64 n⟩, ⟨false, .str s⟩, ⟨false, dlist kV (ks.map dV)⟩])], defers := [(46, [.ptr nx 0])] }, SRd (nx :: ts) r (d - 1) nx2)) ks.length
    (fun i hi e σ hI => by
      obtain ⟨nx2, h1, rfl, rfl⟩ := hI
      have hmem := List.getElem_mem hi
      have hdr := ptexts_drop ks i hi
      have hpre : ptexts ks = ptexts (ks.take i) ++ ptexts (ks.drop i) := by
        have : ∀ a b : List V, ptexts (a ++ b) = ptexts a ++ ptexts b := fun a b => by
          induction a with
          | nil => rfl
          | cons x a ih => simp only [List.cons_append, ptexts, ih, List.append_assoc]
        rw [← this, List.take_append_drop]
      rw [hpre, List.append_assoc] at hasc hlen2
      have ha2 : ascii (ptexts (ks.drop i) ++ r) = true := by
        rw [ascii_app, Bool.and_eq_true] at hasc
        exact hasc.2
      have hl2 : (ptexts (ks.drop i) ++ r).length < 1000000 := by simp only [List.length_append] at hlen2 ⊢; omega
      rw [hdr] at ha2 hl2 ⊢
      have el : 32 :: (ptext ks[i] true ++ ptexts (ks.drop (i + 1))) ++ r = 32 :: (ptext ks[i] true ++ (ptexts (ks.drop (i + 1)) ++ r)) := by simp
      rw [el] at ha2 hl2 ⊢
      have ha3 : ascii (ptext ks[i] true ++ (ptexts (ks.drop (i + 1)) ++ r)) = true := by
        have : ascii ([32] ++ (ptext ks[i] true ++ (ptexts (ks.drop (i + 1)) ++ r))) = true := ha2
        rw [ascii_app, Bool.and_eq_true] at this
        exact this.2
      have hp2 := hp.mono h1
      obtain ⟨nx3, h3, hatom⟩ := hat ks[i] hmem (ptexts (ks.drop (i + 1)) ++ r) (stop_kids _ hr) ha3 (by simp only [List.length_cons] at hl2; omega) (nx :: ts) (d - 1) nx2 hp2 (hkd _ hmem) (by omega)
      have hc := hcut 32 (32 :: (ptext ks[i] true ++ (ptexts (ks.drop (i + 1)) ++ r))) (SRd (nx :: ts) (32 :: (ptext ks[i] true ++ (ptexts (ks.drop (i + 1)) ++ r))) (d - 1) nx2)
      exact ⟨_, _, l35_step _ hi hlen (hp2.mono h3) hc hatom, nx3, by omega, rfl, rfl⟩)
    (fun e σ hI => by
      obtain ⟨nx2, h1, rfl, rfl⟩ := hI
      have hc := hcut 32 r (SRd (nx :: ts) r (d - 1) nx2)
      rw [cut32 hr] at hc
      have hdn : ptexts (ks.drop ks.length) ++ r = r := by rw [List.drop_length]; rfl
      rw [hdn]
      exact ⟨_, l35_end hlen (hp.mono h1) hc, (fun _ _ h => by cases h), nx2, h1, rfl⟩) m 0 _ _ (by omega) (by omega) ⟨nx + 1, Nat.le_refl _, rfl, rfl⟩
  subst hres
  refine ⟨nx', by omega, ?_⟩
  have hb := hback ts nx r (d - 1) nx' nx' (hp.mono hnx') (by omega) (by omega)
  have ed : d - 1 + 1 = d := by omega
  rw [ed] at hb
  have hm := hmust (SRd (nx :: ts) (phead f n s ++ (ptexts ks ++ r)) d (nx + 1))
  have g : ∀ l d nx', aget (SRd (nx :: ts) l d nx').objs 2 = some [⟨false, .str l⟩, ⟨false, .int .i64 d⟩] := fun l d nx' => SRd_get hp
  have gt : ∀ l d nx', aget (SRd (nx :: ts) l d nx').objs nx = some [⟨false, .ptr 2 0⟩] := fun l d nx' => SRd_top
  have u : ∀ l d d' nx', ({ objs := aset (SRd (nx :: ts) l d nx').objs 2 [⟨false, .str l⟩, ⟨false, .int .i64 d'⟩], tys := (SRd (nx :: ts) l d nx').tys, iters := (SRd (nx :: ts) l d nx').iters, next := nx' } : Store) = SRd (nx :: ts) l d' nx' := fun l d d' nx' => SRd_set hp
  have hw : IntKind.i64.wrap (d - 1) = d - 1 := wrap64 (by omega) (by omega)
  have hd0 : d > 0 := by omega
  have hpush : ∀ l d, ({ objs := (nx, [⟨false, .ptr 2 0⟩]) :: (SRd ts l d nx).objs, tys := (nx, 59) :: (SRd ts l d nx).tys, iters := (SRd ts l d nx).iters, next := nx + 1 } : Store) = SRd (nx :: ts) l d (nx + 1) := fun l d => SRd_push
  have htr := SRd_trunc (l := r) (d := d) (nx' := nx') ht
  rw [TR_fun (af := a35) rfl rfl]
  simp only [E35, ow, List.take_zero, List.map_nil, dlist_nil, List.drop_zero, zeroV] at hloop
  rw [dV_eq] at hleaf
  simp only [form_mk, n_mk, name_mk, kids_mk, List.map_nil, dlist_nil] at hleaf
  rw [dV_eq]
  simp only [form_mk, n_mk, name_mk, kids_mk]
  generalize phead f n s ++ (ptexts ks ++ r) = l at *
  simp only [a35, exec_seq, exec_region, exec_cond, exec_block, exec_loop, exec_skip, exec_exit, exec_ret, thenX_normal, thenX_exit, thenX_ret, thenX_panic, blockX_normal, blockX_exit, blockX_ret, blockX_panic, opsX_normal, opsX_panic_none, opsX_panic_some, callX_ret, callX_panic, stepX_next, stepX_call, stepX_panic, runOps_nil, runOps_cons, clearEnv, adel, mem, initEnv, initSlots,
    stepOp, wantedA, evalOp, callOf, panicOf, evalV, addr, opd, opds, aget, aset, adel1, lkill, readCells, nth, Env.put, Env.putV, Env.box, Env.bare, dropOwn, dropOwnS, binD, binBD, binBool, binInt, binStr, unD, AOpd.drop, Cell.of, AOp.kind, sameKind, bool?_bool, bool?_undef, int?_int, str?_str, tup?_tup, fn?_fn, agg?_agg, row?_list, isNil?_iface, isNil?_nil, nat?_nat, nat?_zero, assertD, eqlB, isUndef, takeC, unownAt, fits, layCells, putCells, putD, cells_agg, cells_int, cells_bool, cells_str, cells_nils, cells_list, cells_nilp, cells_ptr, cells_iface, cells_fn, cells_nilfn, cells_niliface, cells_dlist, one_agg, one_int, one_bool, one_str, one_nils, one_list, one_nilp, one_ptr, one_iface, one_niliface, one_fn, one_nilfn, one_dlist, ok_agg, ok_int, ok_bool, ok_str, ok_nils, ok_list, ok_nilp, ok_ptr, ok_iface, ok_niliface, ok_fn, ok_nilfn, ok_dlist, fillD, partsOf, optLo, optHi, allSize, dlist_nil, lenOf_nils, lenOf_list, lenOf_dlist, asList_nils, asList_list, asList_dlist, Option.getD_some, Option.getD_none,
    finX_ret, finX_normal, finX_panic, runDefers_nil, runDefers, resX_none, resP_none, resP_some, readRes, readRes1, readRess,
    caseO_some, caseO_none, ifB_true, ifB_false, Nat.reduceAdd, Nat.reduceSub, Nat.reduceMul, Nat.reduceBEq, Bool.false_and, Bool.true_and, Bool.and_true, Bool.and_false, Nat.zero_add, Nat.add_zero, beq_self_eq_true, Bool.true_beq, Bool.false_beq, Bool.not_true, Bool.not_false, decide_true, decide_false, bindO, ptrOf_ptr, ptrOf_eptr, ptrOf_nilp, List.map_cons, List.map_nil, List.length_cons, List.length_nil, List.append_nil, List.nil_append, List.cons_append, List.isEmpty_nil, List.isEmpty_cons, Nat.reduceLeDiff, Int.reduceBEq, Int.reduceNeg, Nat.le_refl, Rl_46, g, gt, u, hw, hd0, hpush, SRd_next, hm, hleaf, hloop, hb, htr]
theorem both_run (v : V) (hf : FitN v) : good v = true → Evly (ValueOK v) ∧ Evly (AtomOK v) := by
  induction hf with
  | mk f n s ks hks hn hk ih =>
    intro hg
    obtain ⟨hh, hf1, hgs⟩ := good_head hg hn
    have hat : ∀ k ∈ ks, Evly (AtomOK k) := fun k hk' => by
      rw [goods_eq, List.all_eq_true] at hgs
      exact (ih k hk' (hgs k hk')).2
    have hv := value_of_atoms f n s ks hh hf1 hks hat
    exact ⟨hv, atom_of_value f n s ks hh hf1 hv⟩
end Go.Proofs.YtdoppkjoemlhjaaDoor.Sh

