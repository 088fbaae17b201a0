/-
  What is printed is read: the program's function, at every store.
-/
import Derived.Test.YtdoppkjoemlhjaaDoorShRdV
set_option linter.unusedSimpArgs false
set_option linter.unusedVariables false
namespace Go.Proofs.YtdoppkjoemlhjaaDoor.Sh
open Go Go.Mx
set_option maxRecDepth 10000
theorem Rl_34_none {σ : Store} : Rl 34 [.ptr 0 0, .ptr 1 0] none σ = some (none, σ) := by
  show recRun (fun _ _ _ => none) 3 r34 2 3 2 [.ptr 0 0, .ptr 1 0] none σ = _
  have hx : exec (fun _ _ _ => none) 3 r34 (recEnv [.ptr 0 0, .ptr 1 0] 3 2 none) σ = some (.normal, { slots := [(0, ⟨false, .ptr 0 0⟩), (1, ⟨false, .ptr 1 0⟩), (3, ⟨false, .niliface⟩), (2, ⟨false, .niliface⟩), (4, ⟨false, .niliface⟩), (6, ⟨false, .bool true⟩)], locs := [], boxes := [], defers := [] }, σ) := by
    simp only [r34, recEnv, exec_seq, exec_region, exec_cond, exec_block, exec_loop, exec_skip, exec_exit, exec_ret, thenX_normal, thenX_exit, thenX_ret, thenX_panic, blockX_normal, blockX_exit, blockX_ret, blockX_panic, opsX_normal, opsX_panic_none, opsX_panic_some, callX_ret, callX_panic, stepX_next, stepX_call, stepX_panic, runOps_nil, runOps_cons, clearEnv, adel, mem, initEnv, initSlots,
    stepOp, wantedA, evalOp, callOf, panicOf, evalV, addr, opd, opds, aget, aset, adel1, lkill, readCells, nth, Env.put, Env.putV, Env.box, Env.bare, dropOwn, dropOwnS, binD, binBD, binBool, binInt, binStr, unD, AOpd.drop, Cell.of, AOp.kind, sameKind, bool?_bool, bool?_undef, int?_int, str?_str, tup?_tup, fn?_fn, agg?_agg, row?_list, isNil?_iface, isNil?_nil, nat?_nat, nat?_zero, assertD, eqlB, isUndef, takeC, unownAt, fits, layCells, putCells, putD, cells_agg, cells_int, cells_bool, cells_str, cells_nils, cells_list, cells_nilp, cells_ptr, cells_iface, cells_fn, cells_nilfn, cells_niliface, cells_dlist, one_agg, one_int, one_bool, one_str, one_nils, one_list, one_nilp, one_ptr, one_iface, one_niliface, one_fn, one_nilfn, one_dlist, ok_agg, ok_int, ok_bool, ok_str, ok_nils, ok_list, ok_nilp, ok_ptr, ok_iface, ok_niliface, ok_fn, ok_nilfn, ok_dlist, fillD, partsOf, optLo, optHi, allSize, dlist_nil, lenOf_nils, lenOf_list, lenOf_dlist, asList_nils, asList_list, asList_dlist, Option.getD_some, Option.getD_none,
    finX_ret, finX_normal, finX_panic, runDefers_nil, runDefers, resX_none, resP_none, resP_some, readRes, readRes1, readRess,
    caseO_some, caseO_none, ifB_true, ifB_false, Nat.reduceAdd, Nat.reduceSub, Nat.reduceMul, Nat.reduceBEq, Bool.false_and, Bool.true_and, Bool.and_true, Bool.and_false, Nat.zero_add, Nat.add_zero, beq_self_eq_true, Bool.true_beq, Bool.false_beq, Bool.not_true, Bool.not_false, decide_true, decide_false, bindO, ptrOf_ptr, ptrOf_eptr, ptrOf_nilp, List.map_cons, List.map_nil, List.length_cons, List.length_nil, List.append_nil, List.nil_append, List.cons_append, List.isEmpty_nil, List.isEmpty_cons, Nat.reduceLeDiff, Int.reduceBEq, Int.reduceNeg, Nat.le_refl]
  have hl : (([D.ptr 0 0, D.ptr 1 0] : List D).length == 2) = true := rfl
  unfold recRun
  simp only [hl, ifB_true, hx, List.isEmpty_nil]
theorem printR_run : Evly fun n => ∀ v, Printable v → ∀ σ, TR n 12 [dV v] σ = some (.ret ⟨false, .str (pprint v)⟩, σ) := (Evly.all (p := fun _ => True) fun _ => trivial).step 0 fun n _ _ v hv σ => by
  rw [TR_lib rfl]
  show bindO (xPrint [dV v]) _ = _
  rw [xPrint_dV hv]
  rfl
theorem told_good {v : V} {d : Nat} (h : told v d = true) : good v = true ∧ nested v ≤ d := by
  rw [told_may] at h
  simpa using h
theorem ascii_phead {f n : Int} {s : List UInt8} (h : Head f n s) : ascii (phead f n s) = true := (head_word h).asc
theorem ascii_print (v : V) (hf : FitN v) : good v = true → ∀ w, ascii (ptext v w) = true := by
  induction hf with
  | mk f n s ks hks hn hk ih =>
    intro hg w
    obtain ⟨hh, hf1, hgs⟩ := good_head hg hn
    clear hf1
    have hkids : ascii (ptexts ks) = true := by
      rw [goods_eq, List.all_eq_true] at hgs
      clear hks hg
      induction ks with
      | nil => rfl
      | cons k r ihr =>
        rw [ptexts, ascii_app, ascii_app, ih k (List.mem_cons_self ..) (hgs k (List.mem_cons_self ..)) true, ihr (fun x hx => hk x (List.mem_cons_of_mem _ hx)) (fun x hx => ih x (List.mem_cons_of_mem _ hx)) (fun x hx => hgs x (List.mem_cons_of_mem _ hx))]
        rfl
    have hb : ascii (phead f n s ++ ptexts ks) = true := by rw [ascii_app, ascii_phead hh, hkids]; rfl
    rw [ptext]
    cases (w && (decide (0 < ks.length) || decide (n < 0))) with
    | true => rw [ifB_true, ascii_app, ascii_app, hb]; rfl
    | false => rw [ifB_false]; exact hb
theorem read_run (v : V) (hn : Nums v) (hw : wt v < 1000000) (ht : told v 40 = true) : Evly fun m => ∃ nx, TR m 15 [.str (pprint v)] σ0 = some (.ret ⟨false, .tup [dV v, .int .i64 0]⟩, { objs := [], tys := [], iters := [], next := nx }) := by
  obtain ⟨hg, hnest⟩ := told_good ht
  have hfit := fitN_of hn hw
  have hpt : pprint v = ptext v false := by unfold pprint; rw [ht, ifB_true]
  have hlen := ptext_len v false
  have hne := ptext_ne v false 40 ht
  have hasc := ascii_print v hfit hg false
  refine ((both_run v hfit hg).1.and (printR_run.and must_run)).step 0 fun m _ ⟨hval, ⟨hpr, hmust⟩⟩ => ?_
  obtain ⟨nx', hnx, hval⟩ := hval [] (.inl rfl) (by rw [List.append_nil]; exact hasc) (by rw [List.append_nil]; omega) [] 42 3 ⟨fun i hi => (by cases hi), Nat.le_refl _⟩ (by omega) (by omega)
  rw [List.append_nil] at hval
  have hpr := fun σ => hpr v (printable_of hn hw) σ
  rw [hpt] at hpr ⊢
  have h0 : (ptext v false != []) = true := by simpa using hne
  have h0' : (!(ptext v false == [])) = true := by simpa using hne
  have hS : SRd [] (ptext v false) 42 3 = { objs := [(2, [⟨false, .str (ptext v false)⟩, ⟨false, .int .i64 42⟩]), (1, [⟨false, .int .i64 0⟩]), (0, [⟨false, .int .i64 0⟩, ⟨false, .int .i64 0⟩, ⟨false, .str []⟩, ⟨false, .nils⟩])], tys := [(2, 61), (1, 31), (0, 25)], iters := [], next := 3 } := rfl
  have hS2 : SRd [] [] 42 nx' = { objs := [(2, [⟨false, .str []⟩, ⟨false, .int .i64 42⟩]), (1, [⟨false, .int .i64 0⟩]), (0, [⟨false, .int .i64 0⟩, ⟨false, .int .i64 0⟩, ⟨false, .str []⟩, ⟨false, .nils⟩])], tys := [(2, 61), (1, 31), (0, 25)], iters := [], next := nx' } := rfl
  rw [hS, hS2] at hval
  refine ⟨nx', ?_⟩
  rw [TR_fun (af := a15) rfl rfl]
  have hva : dV v = .agg [.int .i64 v.form, .int .i64 v.n, .str v.name, dlist kV (v.kids.map dV)] := dV_eq v
  rw [hva] at hval hpr ⊢
  generalize ptext v false = s at *
  simp only [a15, σ0, exec_seq, exec_region, exec_cond, exec_block, exec_loop, exec_skip, exec_exit, exec_ret, thenX_normal, thenX_exit, thenX_ret, thenX_panic, blockX_normal, blockX_exit, blockX_ret, blockX_panic, opsX_normal, opsX_panic_none, opsX_panic_some, callX_ret, callX_panic, stepX_next, stepX_call, stepX_panic, runOps_nil, runOps_cons, clearEnv, adel, mem, initEnv, initSlots,
    stepOp, wantedA, evalOp, callOf, panicOf, evalV, addr, opd, opds, aget, aset, adel1, lkill, readCells, nth, Env.put, Env.putV, Env.box, Env.bare, dropOwn, dropOwnS, binD, binBD, binBool, binInt, binStr, unD, AOpd.drop, Cell.of, AOp.kind, sameKind, bool?_bool, bool?_undef, int?_int, str?_str, tup?_tup, fn?_fn, agg?_agg, row?_list, isNil?_iface, isNil?_nil, nat?_nat, nat?_zero, assertD, eqlB, isUndef, takeC, unownAt, fits, layCells, putCells, putD, cells_agg, cells_int, cells_bool, cells_str, cells_nils, cells_list, cells_nilp, cells_ptr, cells_iface, cells_fn, cells_nilfn, cells_niliface, cells_dlist, one_agg, one_int, one_bool, one_str, one_nils, one_list, one_nilp, one_ptr, one_iface, one_niliface, one_fn, one_nilfn, one_dlist, ok_agg, ok_int, ok_bool, ok_str, ok_nils, ok_list, ok_nilp, ok_ptr, ok_iface, ok_niliface, ok_fn, ok_nilfn, ok_dlist, fillD, partsOf, optLo, optHi, allSize, dlist_nil, lenOf_nils, lenOf_list, lenOf_dlist, asList_nils, asList_list, asList_dlist, Option.getD_some, Option.getD_none,
    finX_ret, finX_normal, finX_panic, runDefers_nil, runDefers, resX_none, resP_none, resP_some, readRes, readRes1, readRess,
    caseO_some, caseO_none, ifB_true, ifB_false, Nat.reduceAdd, Nat.reduceSub, Nat.reduceMul, Nat.reduceBEq, Bool.false_and, Bool.true_and, Bool.and_true, Bool.and_false, Nat.zero_add, Nat.add_zero, beq_self_eq_true, Bool.true_beq, Bool.false_beq, Bool.not_true, Bool.not_false, decide_true, decide_false, bindO, ptrOf_ptr, ptrOf_eptr, ptrOf_nilp, List.map_cons, List.map_nil, List.length_cons, List.length_nil, List.append_nil, List.nil_append, List.cons_append, List.isEmpty_nil, List.isEmpty_cons, Nat.reduceLeDiff, Int.reduceBEq, Int.reduceNeg, Nat.le_refl, hval, hpr, hmust, h0', Rl_34_none]
  rfl
/-- A value that is told, and is read again. -/
def Readable (v : V) : Prop := Nums v ∧ wt v < 1000000 ∧ told v 40 = true
theorem read_ok (v : V) (h : Readable v) (σ : Store) : CallOK Tryd.prog κ 15 [.str (pprint v)] σ (.ret ⟨false, .tup [dV v, .int .i64 0]⟩) σ := by
  obtain ⟨n, hn⟩ := read_run v h.1 h.2.1 h.2.2
  obtain ⟨nx, hn⟩ := hn n (Nat.le_refl _)
  exact frame_rule (TR_sound n 15 _ σ0 _ _ hn) rfl (by simp only [Out.clean, noPtr, noPtrL, noPtr_dV v (fit_wt v h.2.1), Bool.and_self]) σ
/-- Two that are told are one, if their prints are. -/
theorem print_inj (v w : V) (hv : Readable v) (hw : Readable w) (h : pprint v = pprint w) : v = w := by
  obtain ⟨a, ha⟩ := read_run v hv.1 hv.2.1 hv.2.2
  obtain ⟨b, hb⟩ := read_run w hw.1 hw.2.1 hw.2.2
  obtain ⟨x, hx⟩ := ha (max a b) (by omega)
  obtain ⟨y, hy⟩ := hb (max a b) (by omega)
  rw [h, hy] at hx
  simp only [Option.some.injEq, Prod.mk.injEq, Out.ret.injEq, Cell.mk.injEq, D.tup.injEq, List.cons.injEq, true_and, and_true] at hx
  exact (dV_inj w (fit_wt w hw.2.1) v hx.1).symm
end Go.Proofs.YtdoppkjoemlhjaaDoor.Sh

