/-
  ShowReads: for every text the law answers true, and leaves its argument as it was. Conditions: none beyond the row's own.
-/
import Derived.Test.YtdoppkjoemlhjaaDoorShGu
import Derived.Test.YtdoppkjoemlhjaaDoorShRefUp
set_option linter.unusedSimpArgs false
set_option linter.unusedVariables false
namespace Go.Proofs.YtdoppkjoemlhjaaDoor.Sh
open Go Go.Mx
set_option maxRecDepth 10000
theorem told_of_print {v : V} {s : List UInt8} (h : pprint v = s) (hs : s ≠ []) : told v 40 = true := by
  cases ht : told v 40 with
  | true => rfl
  | false => rw [print_untold ht] at h; exact absurd h.symm hs
theorem gs_reads {v : V} {s : List UInt8} (h : ReadsV s v) : gs 42 s = some v := by
  obtain ⟨⟨h1, h2, h3⟩, h4⟩ := h
  obtain ⟨hg, hn⟩ := told_good h3
  unfold pprint at h4
  rw [h3, ifB_true] at h4
  rw [← h4]
  exact gs_print h1 hg 42 (by omega)
theorem wt_v0 : wt v0 < 1000000 := by unfold v0; rw [wt, wts]; simp
theorem nums_v0 : Nums v0 := .mk _ _ _ _ ⟨by decide, by decide⟩ fun k h => by cases h
/-- The document's Read. -/
theorem rread_run (s : List UInt8) (hs : s.length ≤ 400) : Evly fun n => ∀ σ,
    (∃ v, ReadsV s v ∧ T n 16 [.str s] σ = some (.ret ⟨false, .tup [dV v, .int .i64 0]⟩, σ)) ∨ ((¬ ∃ v, ReadsV s v) ∧ T n 16 [.str s] σ = some (.ret ⟨false, .tup [dV v0, .int .i64 12]⟩, σ)) := by
  have hz : D.int IntKind.i64 42 = .int .i64 ((42 : Nat) : Int) := rfl
  cases hg : gs 42 s with
  | none =>
    refine (guess_run 42 (by omega)).step 0 fun m _ hgr σ => .inr ⟨fun ⟨v, hv⟩ => (by rw [gs_reads hv] at hg; cases hg), ?_⟩
    have hgr := hgr s hs σ
    rw [hg] at hgr
    rw [T_fun (af := a16) rfl rfl]
    simp only [gsD, dV_v0] at hgr
    have hgr : T m 37 [.str s, .int .i64 42] σ = _ := hgr
    rw [dV_v0]
    simp only [a16, sy0, sy1, sy2, sy3, sy4, sy5, clearEnv, adel, mem, initEnv, initSlots, stepOp, wantedA, evalOp, callOf, panicOf, evalV, addr, opd, opds, aget, aset, adel1, lkill, readCells, nth, Env.put, Env.putV, Env.box, Env.bare, dropOwn, dropOwnS, binD, binBD, binBool, binInt, binStr, unD, AOpd.drop, Cell.of, AOp.kind, sameKind, assertD, eqlB, isUndef, takeC, unownAt, fits, layCells, putCells, putD, fillD, partsOf, optLo, optHi, allSize, Option.getD_some, Option.getD_none, runDefers, readRes, readRes1, readRess, Nat.reduceAdd, Nat.reduceSub, Nat.reduceMul, Nat.reduceBEq, Bool.false_and, Bool.true_and, Bool.and_true, Bool.and_false, Nat.zero_add, Nat.add_zero, beq_self_eq_true, Bool.true_beq, Bool.false_beq, Bool.not_true, Bool.not_false, decide_true, decide_false, bindO, List.map_cons, List.map_nil, List.length_cons, List.length_nil, List.append_nil, List.nil_append, List.cons_append, List.isEmpty_nil, List.isEmpty_cons, Nat.reduceLeDiff, Int.reduceBEq, Int.reduceNeg, Nat.le_refl, hgr]
  | some v =>
    obtain ⟨hn, hw⟩ := gs_ok 42 s v hg
    refine ((guess_run 42 (by omega)).and (rprint_run v hn (by omega))).step 0 fun m _ ⟨hgr, hpr⟩ σ => ?_
    have hgr := hgr s hs σ
    have hpr := hpr σ
    rw [hg] at hgr
    simp only [gsD] at hgr
    have hgr : T m 37 [.str s, .int .i64 42] σ = _ := hgr
    rw [T_fun (af := a16) rfl rfl]
    rw [← print_same v] at hpr
    cases h0 : s == [] with
    | true =>
      have es : s = [] := by simpa using h0
      refine .inr ⟨fun ⟨u, hu⟩ => print_told hu.1.2.2 (hu.2.trans es), ?_⟩
      rw [dV_eq v] at hgr
      rw [dV_v0]
      simp only [a16, sy0, sy1, sy2, sy3, sy4, sy5, clearEnv, adel, mem, initEnv, initSlots, stepOp, wantedA, evalOp, callOf, panicOf, evalV, addr, opd, opds, aget, aset, adel1, lkill, readCells, nth, Env.put, Env.putV, Env.box, Env.bare, dropOwn, dropOwnS, binD, binBD, binBool, binInt, binStr, unD, AOpd.drop, Cell.of, AOp.kind, sameKind, assertD, eqlB, isUndef, takeC, unownAt, fits, layCells, putCells, putD, fillD, partsOf, optLo, optHi, allSize, Option.getD_some, Option.getD_none, runDefers, readRes, readRes1, readRess, Nat.reduceAdd, Nat.reduceSub, Nat.reduceMul, Nat.reduceBEq, Bool.false_and, Bool.true_and, Bool.and_true, Bool.and_false, Nat.zero_add, Nat.add_zero, beq_self_eq_true, Bool.true_beq, Bool.false_beq, Bool.not_true, Bool.not_false, decide_true, decide_false, bindO, List.map_cons, List.map_nil, List.length_cons, List.length_nil, List.append_nil, List.nil_append, List.cons_append, List.isEmpty_nil, List.isEmpty_cons, Nat.reduceLeDiff, Int.reduceBEq, Int.reduceNeg, Nat.le_refl, hgr, h0]
    | false =>
      have hne : s ≠ [] := by simpa using h0
      by_cases hp : pprint v = s
      · have ht := told_of_print hp hne
        refine .inl ⟨v, ⟨⟨hn, by omega, ht⟩, hp⟩, ?_⟩
        have e : (s != s) = false := by simp
        have e' : (!(s == s)) = false := by simp
        rw [hp] at hpr
        rw [dV_eq v] at hgr hpr ⊢
        simp only [a16, sy0, sy1, sy2, sy3, sy4, sy5, clearEnv, adel, mem, initEnv, initSlots, stepOp, wantedA, evalOp, callOf, panicOf, evalV, addr, opd, opds, aget, aset, adel1, lkill, readCells, nth, Env.put, Env.putV, Env.box, Env.bare, dropOwn, dropOwnS, binD, binBD, binBool, binInt, binStr, unD, AOpd.drop, Cell.of, AOp.kind, sameKind, assertD, eqlB, isUndef, takeC, unownAt, fits, layCells, putCells, putD, fillD, partsOf, optLo, optHi, allSize, Option.getD_some, Option.getD_none, runDefers, readRes, readRes1, readRess, Nat.reduceAdd, Nat.reduceSub, Nat.reduceMul, Nat.reduceBEq, Bool.false_and, Bool.true_and, Bool.and_true, Bool.and_false, Nat.zero_add, Nat.add_zero, beq_self_eq_true, Bool.true_beq, Bool.false_beq, Bool.not_true, Bool.not_false, decide_true, decide_false, bindO, List.map_cons, List.map_nil, List.length_cons, List.length_nil, List.append_nil, List.nil_append, List.cons_append, List.isEmpty_nil, List.isEmpty_cons, Nat.reduceLeDiff, Int.reduceBEq, Int.reduceNeg, Nat.le_refl, hgr, hpr, h0, e, e']
      · have e : (!(pprint v == s)) = true := by simpa using hp
        refine .inr ⟨fun ⟨u, hu⟩ => ?_, ?_⟩
        · have := gs_reads hu
          rw [hg] at this
          cases this
          exact hp hu.2
        · rw [dV_eq v] at hgr hpr
          rw [dV_v0]
          generalize pprint v = p at *
          simp only [a16, sy0, sy1, sy2, sy3, sy4, sy5, clearEnv, adel, mem, initEnv, initSlots, stepOp, wantedA, evalOp, callOf, panicOf, evalV, addr, opd, opds, aget, aset, adel1, lkill, readCells, nth, Env.put, Env.putV, Env.box, Env.bare, dropOwn, dropOwnS, binD, binBD, binBool, binInt, binStr, unD, AOpd.drop, Cell.of, AOp.kind, sameKind, assertD, eqlB, isUndef, takeC, unownAt, fits, layCells, putCells, putD, fillD, partsOf, optLo, optHi, allSize, Option.getD_some, Option.getD_none, runDefers, readRes, readRes1, readRess, Nat.reduceAdd, Nat.reduceSub, Nat.reduceMul, Nat.reduceBEq, Bool.false_and, Bool.true_and, Bool.and_true, Bool.and_false, Nat.zero_add, Nat.add_zero, beq_self_eq_true, Bool.true_beq, Bool.false_beq, Bool.not_true, Bool.not_false, decide_true, decide_false, bindO, List.map_cons, List.map_nil, List.length_cons, List.length_nil, List.append_nil, List.nil_append, List.cons_append, List.isEmpty_nil, List.isEmpty_cons, Nat.reduceLeDiff, Int.reduceBEq, Int.reduceNeg, Nat.le_refl, hgr, hpr, h0, e]
theorem law_reads (s : List UInt8) : Evly fun m => ∀ σ, T m 4 [.str s] σ = some (.ret ⟨false, .bool true⟩, σ) := by
  by_cases hs : s.length ≤ 400
  · have h400 : ¬ (((s.length : Nat) : Int) > 400) := by omega
    by_cases hr : ∃ v, ReadsV s v
    · obtain ⟨v, hv⟩ := hr
      have r1 := same_run v (fit_wt v hv.1.2.1) v
      rw [pairB_refl] at r1
      refine (((rread_run s hs).and pread_run).and (r1.and lives_run)).step 0 fun m _ ⟨⟨r2, r3⟩, ⟨r1, r4⟩⟩ σ => ?_
      have r1 := r1 σ
      have r3 := r3 v hv.1 σ
      have r4 := r4 σ
      rw [hv.2] at r3
      rcases r2 σ with ⟨u, hu, r2⟩ | ⟨hn, _⟩
      · have : v = u := print_inj v u hv.1 hu.1 (hv.2.trans hu.2.symm)
        subst this
        rw [dV_eq v] at r1 r2 r3
        rw [T_fun (af := a4) rfl rfl]
        simp only [a4, sy0, sy1, sy2, sy3, sy4, sy5, clearEnv, adel, mem, initEnv, initSlots, stepOp, wantedA, evalOp, callOf, panicOf, evalV, addr, opd, opds, aget, aset, adel1, lkill, readCells, nth, Env.put, Env.putV, Env.box, Env.bare, dropOwn, dropOwnS, binD, binBD, binBool, binInt, binStr, unD, AOpd.drop, Cell.of, AOp.kind, sameKind, assertD, eqlB, isUndef, takeC, unownAt, fits, layCells, putCells, putD, fillD, partsOf, optLo, optHi, allSize, Option.getD_some, Option.getD_none, runDefers, readRes, readRes1, readRess, Nat.reduceAdd, Nat.reduceSub, Nat.reduceMul, Nat.reduceBEq, Bool.false_and, Bool.true_and, Bool.and_true, Bool.and_false, Nat.zero_add, Nat.add_zero, beq_self_eq_true, Bool.true_beq, Bool.false_beq, Bool.not_true, Bool.not_false, decide_true, decide_false, bindO, List.map_cons, List.map_nil, List.length_cons, List.length_nil, List.append_nil, List.nil_append, List.cons_append, List.isEmpty_nil, List.isEmpty_cons, Nat.reduceLeDiff, Int.reduceBEq, Int.reduceNeg, Nat.le_refl, h400, r1, r2, r3, r4]
      · exact absurd ⟨v, hv⟩ hn
    · have r1 := same_run v0 (fit_wt v0 wt_v0) v0
      rw [pairB_refl] at r1
      refine (((rread_run s hs).and preadN_run).and (r1.and lives_run)).step 0 fun m _ ⟨⟨r2, r3⟩, ⟨r1, r4⟩⟩ σ => ?_
      have r1 := r1 σ
      have r3 := r3 s (by omega) hr σ
      have r4 := r4 σ
      rcases r2 σ with ⟨u, hu, _⟩ | ⟨_, r2⟩
      · exact absurd ⟨u, hu⟩ hr
      · rw [dV_v0] at r1 r2 r3
        rw [T_fun (af := a4) rfl rfl]
        simp only [a4, sy0, sy1, sy2, sy3, sy4, sy5, clearEnv, adel, mem, initEnv, initSlots, stepOp, wantedA, evalOp, callOf, panicOf, evalV, addr, opd, opds, aget, aset, adel1, lkill, readCells, nth, Env.put, Env.putV, Env.box, Env.bare, dropOwn, dropOwnS, binD, binBD, binBool, binInt, binStr, unD, AOpd.drop, Cell.of, AOp.kind, sameKind, assertD, eqlB, isUndef, takeC, unownAt, fits, layCells, putCells, putD, fillD, partsOf, optLo, optHi, allSize, Option.getD_some, Option.getD_none, runDefers, readRes, readRes1, readRess, Nat.reduceAdd, Nat.reduceSub, Nat.reduceMul, Nat.reduceBEq, Bool.false_and, Bool.true_and, Bool.and_true, Bool.and_false, Nat.zero_add, Nat.add_zero, beq_self_eq_true, Bool.true_beq, Bool.false_beq, Bool.not_true, Bool.not_false, decide_true, decide_false, bindO, List.map_cons, List.map_nil, List.length_cons, List.length_nil, List.append_nil, List.nil_append, List.cons_append, List.isEmpty_nil, List.isEmpty_cons, Nat.reduceLeDiff, Int.reduceBEq, Int.reduceNeg, Nat.le_refl, h400, r1, r2, r3, r4]
  · refine lives_run.step 0 fun m _ r8 σ => ?_
    have r8 := r8 σ
    have h400 : (((s.length : Nat) : Int) > 400) := by omega
    rw [T_fun (af := a4) rfl rfl]
    simp only [a4, sy0, sy1, sy2, sy3, sy4, sy5, clearEnv, adel, mem, initEnv, initSlots, stepOp, wantedA, evalOp, callOf, panicOf, evalV, addr, opd, opds, aget, aset, adel1, lkill, readCells, nth, Env.put, Env.putV, Env.box, Env.bare, dropOwn, dropOwnS, binD, binBD, binBool, binInt, binStr, unD, AOpd.drop, Cell.of, AOp.kind, sameKind, assertD, eqlB, isUndef, takeC, unownAt, fits, layCells, putCells, putD, fillD, partsOf, optLo, optHi, allSize, Option.getD_some, Option.getD_none, runDefers, readRes, readRes1, readRess, Nat.reduceAdd, Nat.reduceSub, Nat.reduceMul, Nat.reduceBEq, Bool.false_and, Bool.true_and, Bool.and_true, Bool.and_false, Nat.zero_add, Nat.add_zero, beq_self_eq_true, Bool.true_beq, Bool.false_beq, Bool.not_true, Bool.not_false, decide_true, decide_false, bindO, List.map_cons, List.map_nil, List.length_cons, List.length_nil, List.append_nil, List.nil_append, List.cons_append, List.isEmpty_nil, List.isEmpty_cons, Nat.reduceLeDiff, Int.reduceBEq, Int.reduceNeg, Nat.le_refl, h400, r8]
end Go.Proofs.YtdoppkjoemlhjaaDoor.Sh

/-
  ShowReads: for every text the law answers true, and leaves its argument as it was. Conditions: none beyond the row's own.
-/
namespace Go.Proofs.YtdoppkjoemlhjaaDoor.Sh
open Go Go.Mx Go.ChangeShapes Go.WideShapes Go.ChangeAt Go.RowKit
namespace texts
set_option maxRecDepth 100000 in
theorem contract (H : Type) (enc : TypeId × Value → H) (W : World) (base : Nat) (args : Array Value) (ds gs : List (DataW H)) (before : List MemPlace)
    (hval : ∀ (j : Nat) t v, Tryd.f4.params[j]? = some t → args[j]? = some v → Value.okWide Tryd.prog W .any base t v)
    (hW : DataW.Whole enc Tryd.prog Tryd.f4.params.toList Rows.showReadsSpec.vars false W args.toList ds gs before) (hL : laidMetH Tryd.prog laidList W) :
    Calls Tryd.prog 4 args W fun e W' => ∃ v, e = .returned v ∧ Rows.showReadsSpec.post enc Tryd.prog Tryd.f4 false true false false W args v W' := by
  have hW' := hW
  obtain ⟨p, q, hA0, hV, rfl, hfz, hnd⟩ := hW
  obtain ⟨rfl, rfl⟩ := trodVars_none hV
  have hA : DataW.TrodAll enc Tryd.prog W 0 (fun _ => true) true Tryd.f4.params.toList args.toList ds p := hA0
  simp only [List.append_nil] at hW'
  have hA1 := hA
  rw [Tryd.params4] at hA1 hval
  obtain ⟨v0, vs0, d0, ds0, p0, q0, hargs, rfl, rfl, h0, r0⟩ := trodAll_cons hA1
  obtain ⟨rfl, rfl, rfl⟩ := trodAll_nil r0
  obtain rfl : args = #[v0] := by cases args; simp_all
  obtain ⟨t0, rep0⟩ := rep_str Tryd.underlying9 (hval 0 9 v0 rfl rfl)
  obtain ⟨N, hN⟩ := law_reads t0
  have hC := T_sound N 4 _ _ _ _ (hN N (Nat.le_refl _) σ0)
  refine (law_call (κ_n hL) (κ_K hL) hC (args := [v0]) ?_).mono fun e W' ⟨he, hb⟩ => ?_
  · simp only [RepL]
    exact ⟨_, _, rfl, rep0, rfl⟩
  · exact ⟨_, he, post_true laidOut hb rfl (readable (by kernel_rfl)) hW' hA (tb := 4) (by kernel_rfl) Tryd.underlying4 rfl rfl rfl⟩
theorem reads (os : Os) {H : Type} (enc : TypeId × Value → H) : ∃ places, DataW.whole enc Tryd.prog ((laidWorld os).forCall (fun _ _ => 0) ⟨#[], #[.string ⟨#[]⟩], []⟩).memory Tryd.f4.params.toList Rows.showReadsSpec.vars false #[Value.string ⟨#[]⟩].toList 8 = some ([.lit (.string [])], [], places) :=
  ⟨[], by kernel_rfl⟩
set_option maxRecDepth 100000 in
theorem lifted (os : Os) (started : os.Started) (H : Type) (enc : TypeId × Value → H) (F : Stop.Interp) :
    ReturnsInHanded {} Tryd.checked os 4 .any ((OpenSpec.ofChange Rows.showReadsSpec).preRow enc Tryd.prog Tryd.f4 Rows.showReadsRow.domain false Rows.showReadsRow.laid) (((OpenSpec.ofChange Rows.showReadsSpec).at F).post enc Tryd.prog Tryd.f4 false true false false) := by
  obtain ⟨places, hx⟩ := reads os enc
  refine returnsInHanded_of_row (C := Tryd.checked) (s := OpenSpec.ofChange Rows.showReadsSpec) own started (by kernel_rfl) Tryd.func4
    (witness_row_at (enc := enc) (C := Tryd.checked) false (laidWorld os) #[.string ⟨#[]⟩] rfl (by kernel_rfl) (by kernel_rfl) (by kernel_rfl)
      (OpenSpec.preRow_of_cond 8 hx (by kernel_rfl) (fun k hk => by cases hk) (by kernel_rfl) (laid_met os _))) ?_
  intro W base args ds gs before hval hW _ _ _ hL _ _
  exact contract H enc W base args ds gs before hval hW hL
theorem said : Rows.ShowReadsSaid :=
  OpenClaim.holds_of_cond 4 Tryd.f4 rfl rfl rfl rfl rfl rfl rfl ⟨rfl, rfl, rfl, rfl, rfl⟩ rfl rfl rfl rfl rfl (by kernel_rfl) Tryd.func4 (by kernel_rfl)
    (of_decide_eq_true (by kernel_rfl)) (by unfold Func.isWrapper; first | (rw [if_pos (by decide +kernel)]; kernel_rfl) | (rw [if_neg (by decide +kernel)]; exact ⟨rfl, rfl⟩))
    (fun os started H enc _ F => by rw [OpenClaim.pre_eq_preRow]; exact lifted os started H enc F)
theorem plain (f : FuncId) (fn : Func) (hf : Tryd.pinned.checked.prog.funcNamed "fugue/fuguelaw29.ShowReads" = some f) (hfn : Tryd.pinned.checked.prog.funcs[f]? = some fn) :
    true = Tryd.pinned.checked.prog.looks [] ∧ ∀ (j : Nat) t, fn.params[j]? = some t → Tryd.pinned.checked.prog.wantsStandIn t = false := by
  obtain rfl : f = 4 := Option.some.inj ((show Tryd.prog.funcNamed "fugue/fuguelaw29.ShowReads" = some 4 by kernel_rfl).symm.trans hf) |>.symm
  obtain rfl : fn = Tryd.f4 := (Option.some.inj (Tryd.func4.symm.trans hfn)).symm
  refine ⟨by kernel_rfl, fun j t ht => ?_⟩
  have hall : (Tryd.f4.params.toList.all fun t => Tryd.prog.wantsStandIn t == false) = true := by kernel_rfl
  have hm := Array.mem_of_getElem? ht
  have := List.all_eq_true.1 hall t (by simpa using hm)
  exact (by simpa using this : Tryd.prog.wantsStandIn t = false)
theorem card : Rows.ShowReadsCardSaid :=
  Claim7.holds_tied_plain_at .later [] _ _ _ _ said (fun _ h => by cases h) (by kernel_rfl) (fun _ h => by cases h) showReads_row_tie rfl ⟨rfl, rfl⟩ (by kernel_rfl) rfl plain (by kernel_rfl)
end texts
end Go.Proofs.YtdoppkjoemlhjaaDoor.Sh

