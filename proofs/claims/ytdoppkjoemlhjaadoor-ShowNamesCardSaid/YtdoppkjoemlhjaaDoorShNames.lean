/-
  ShowNames: for every text and every list of numbers the law answers true, and leaves its arguments as they were. Conditions: none beyond the row's own.
-/
import Derived.Test.YtdoppkjoemlhjaaDoorShRefGood
import Derived.Test.YtdoppkjoemlhjaaDoorShMade
import Derived.Test.YtdoppkjoemlhjaaDoorShRound0
import Derived.Test.YtdoppkjoemlhjaaDoorShRefUp
set_option linter.unusedSimpArgs false
set_option linter.unusedVariables false
namespace Go.Proofs.YtdoppkjoemlhjaaDoor.Sh
open Go Go.Mx
set_option maxRecDepth 10000
theorem upper_short {s : List UInt8} (h : upperB s = true) : s.length ≤ 32 := by
  unfold upperB at h
  simp only [Bool.and_eq_true, decide_eq_true_eq] at h
  exact h.1.2
def leaf (s : List UInt8) : V := .mk 1 0 s []
theorem told_leaf {s : List UInt8} (h : upperB s = true) (d : Nat) : told (leaf s) (d + 1) = true := by
  unfold leaf
  rw [told]
  simp [h, tolds, ifB]
theorem leaf_reads {s : List UInt8} (h : upperB s = true) : ReadsV s (leaf s) := by
  have h1 := upper_short h
  refine ⟨⟨.mk _ _ _ _ ⟨by decide, by decide⟩ (fun k hk => by cases hk), ?_, told_leaf h 39⟩, ?_⟩
  · unfold leaf
    rw [wt, wts]
    omega
  · unfold pprint
    rw [told_leaf h 39, ifB_true]
    unfold leaf
    rw [ptext]
    simp [phead, ptexts, ifB]
theorem con_upper {s : List UInt8} {u : V} (h : ReadsV s u) (hf : (u.form == 1) = true) (hk : (((u.kids.length : Nat) : Int) == 0) = true) : upperB s = true := by
  obtain ⟨⟨h1, h2, h3⟩, h4⟩ := h
  unfold pprint at h4
  rw [h3, ifB_true] at h4
  cases u with
  | mk f n t ks =>
    obtain rfl : f = 1 := by simpa [V.form] using hf
    obtain rfl : ks = [] := by simpa [V.kids] using hk
    rw [ptext] at h4
    have hp : phead 1 n t = t := by simp [phead, ifB]
    simp only [hp, List.length_nil, ptexts, List.append_nil] at h4
    have hs : t = s := by simpa [ifB] using h4
    subst hs
    rw [told] at h3
    simp [ifB] at h3
    exact h3.1.2
def conB (u : V) : Bool := u.form == 1 && ((u.kids.length : Nat) : Int) == 0
theorem con_eq {s : List UInt8} {u : V} (h : ReadsV s u) : conB u = upperB s := by
  cases hu : upperB s with
  | true =>
    have := print_inj u _ h.1 (leaf_reads hu).1 (h.2.trans (leaf_reads hu).2.symm)
    rw [this]
    rfl
  | false =>
    unfold conB
    cases hf : u.form == 1 with
    | false => rfl
    | true =>
      cases hk : ((u.kids.length : Nat) : Int) == 0 with
      | false => rfl
      | true =>
        have := con_upper h hf hk
        rw [hu] at this
        cases this
theorem told_one (s : List UInt8) (v : V) : told (.mk 1 0 s [v]) 40 = (upperB s && (may v && decide (nested v < 40))) := by
  rw [told_may]
  have e : good (.mk 1 0 s [v]) = (upperB s && good v) := by
    rw [good]
    simp [ifB, goods]
  have e2 : nested (.mk 1 0 s [v]) = nested v + 1 := by
    rw [nested]
    simp [ifB, nesteds]
  rw [e, e2]
  unfold may
  by_cases h : nested v < 40
  · have h1 : decide (nested v + 1 ≤ 40) = true := decide_eq_true (by omega)
    have h2 : decide (nested v ≤ 40) = true := decide_eq_true (by omega)
    rw [h1, h2, decide_eq_true h]
    simp
  · have h1 : decide (nested v + 1 ≤ 40) = false := decide_eq_false (by omega)
    rw [h1, decide_eq_false h]
    simp
set_option maxHeartbeats 1000000 in
theorem law_names (d : D) (l : List Int) (s : List UInt8) (hd : ListD d l) (hl : ∀ x ∈ l, Small x) : Evly fun m => ∀ σ, T m 9 [.str s, d] σ = some (.ret ⟨false, .bool true⟩, σ) := by
  by_cases hs : s.length ≤ 100
  · obtain ⟨v, hv⟩ : ∃ v, v = made l := ⟨_, rfl⟩
    have nv : Nums v := hv ▸ nums_made l hl
    have wv : wt v ≤ 2430 := hv ▸ wt_made l
    have hw : Nums (.mk 1 0 s [v]) := .mk _ _ _ _ ⟨by decide, by decide⟩ fun k hk => by rw [List.mem_singleton.1 hk]; exact nv
    have ww : wt (.mk 1 0 s [v]) < 1000000 := by rw [wt, wts, wts]; omega
    have r1 := made_run d l hd hl
    rw [← hv] at r1
    have r2 := may_run v (by omega)
    have r3 := nested_run v (fit_wt v (by omega)) (by omega)
    refine ((((r1.and r2).and (r3.and pprint_run)).and (pread_run.and preadN_run)).and (pupper_run.and lives_run)).step 0 fun m _ hh σ => ?_
    obtain ⟨⟨⟨⟨r1, r2⟩, ⟨r3, r4⟩⟩, ⟨r5, r6⟩⟩, ⟨r7, r8⟩⟩ := hh
    have r1 := r1 σ
    have r2 := r2 σ
    have r3 := r3 σ
    have r4 := r4 _ (printable_of hw ww) σ
    have r7 := r7 s σ
    have r8 := r8 σ
    have h100 : ¬ (((s.length : Nat) : Int) > 100) := by omega
    have e40 : decide (((nested v : Nat) : Int) < 40) = decide (nested v < 40) := by apply decide_eq_decide.2; omega
    have ht := told_one s v
    have hp : (pprint (.mk 1 0 s [v]) != []) = told (.mk 1 0 s [v]) 40 := by
      cases h : told (.mk 1 0 s [v]) 40 with
      | true => simpa using print_told h
      | false => rw [print_untold h]; rfl
    rw [ht] at hp
    have hdw : dV (.mk 1 0 s [v]) = .agg [.int .i64 1, .int .i64 0, .str s, .list kV [.agg [.int .i64 v.form, .int .i64 v.n, .str v.name, dlist kV (v.kids.map dV)]]] := by
      rw [dV_eq]
      simp only [form_mk, n_mk, name_mk, kids_mk, List.map_cons, List.map_nil, dV_eq v]
      rfl
    rw [hdw] at r4
    rw [dV_eq v] at r1 r2 r3
    generalize pprint (.mk 1 0 s [v]) = p at *
    have hp' : (!(p == [])) = (upperB s && (may v && decide (nested v < 40))) := hp
    rw [T_fun (af := a9) rfl rfl]
    by_cases hr : ∃ u, ReadsV s u
    · obtain ⟨u, hu⟩ := hr
      have r5 := r5 u hu.1 σ
      rw [hu.2, dV_eq u] at r5
      have hc := con_eq hu
      unfold conB at hc
      cases hn : upperB s with
      | true =>
        rw [hn] at hc r7 hp hp'
        simp only [Bool.and_eq_true] at hc
        obtain ⟨hc1, hc2⟩ := hc
        cases hm : may v with
        | true =>
          rw [hm] at r2 hp hp'
          simp only [Bool.true_and] at hp hp'
          simp only [a9, sy0, sy1, sy2, sy3, sy4, sy5, clearEnv, adel, mem, initEnv, initSlots, stepOp, wantedA, evalOp, callOf, panicOf, evalV, addr, opd, opds, aget, aset, adel1, lkill, readCells, nth, Env.put, Env.putV, Env.box, Env.bare, dropOwn, dropOwnS, binD, binBD, binBool, binInt, binStr, unD, AOpd.drop, Cell.of, AOp.kind, sameKind, assertD, eqlB, isUndef, takeC, unownAt, fits, layCells, putCells, putD, fillD, partsOf, optLo, optHi, allSize, Option.getD_some, Option.getD_none, runDefers, readRes, readRes1, readRess, Nat.reduceAdd, Nat.reduceSub, Nat.reduceMul, Nat.reduceBEq, Bool.false_and, Bool.true_and, Bool.and_true, Bool.and_false, Nat.zero_add, Nat.add_zero, beq_self_eq_true, Bool.true_beq, Bool.false_beq, Bool.not_true, Bool.not_false, decide_true, decide_false, bindO, List.map_cons, List.map_nil, List.length_cons, List.length_nil, List.append_nil, List.nil_append, List.cons_append, List.isEmpty_nil, List.isEmpty_cons, Nat.reduceLeDiff, Int.reduceBEq, Int.reduceNeg, Nat.le_refl, h100, r1, r2, r3, r4, r5, r7, r8, e40, hc1, hc2, hp, hp', List.length_map]
        | false =>
          rw [hm] at r2 hp hp'
          simp only [Bool.true_and, Bool.false_and] at hp hp'
          simp only [a9, sy0, sy1, sy2, sy3, sy4, sy5, clearEnv, adel, mem, initEnv, initSlots, stepOp, wantedA, evalOp, callOf, panicOf, evalV, addr, opd, opds, aget, aset, adel1, lkill, readCells, nth, Env.put, Env.putV, Env.box, Env.bare, dropOwn, dropOwnS, binD, binBD, binBool, binInt, binStr, unD, AOpd.drop, Cell.of, AOp.kind, sameKind, assertD, eqlB, isUndef, takeC, unownAt, fits, layCells, putCells, putD, fillD, partsOf, optLo, optHi, allSize, Option.getD_some, Option.getD_none, runDefers, readRes, readRes1, readRess, Nat.reduceAdd, Nat.reduceSub, Nat.reduceMul, Nat.reduceBEq, Bool.false_and, Bool.true_and, Bool.and_true, Bool.and_false, Nat.zero_add, Nat.add_zero, beq_self_eq_true, Bool.true_beq, Bool.false_beq, Bool.not_true, Bool.not_false, decide_true, decide_false, bindO, List.map_cons, List.map_nil, List.length_cons, List.length_nil, List.append_nil, List.nil_append, List.cons_append, List.isEmpty_nil, List.isEmpty_cons, Nat.reduceLeDiff, Int.reduceBEq, Int.reduceNeg, Nat.le_refl, h100, r1, r2, r3, r4, r5, r7, r8, e40, hc1, hc2, hp, hp', List.length_map]
      | false =>
        rw [hn] at hc r7 hp hp'
        simp only [Bool.false_and] at hp hp'
        cases hm : may v <;> rw [hm] at r2 <;> cases hc1 : u.form == 1 <;> rw [hc1] at hc <;> (try simp only [Bool.true_and] at hc) <;> simp only [a9, sy0, sy1, sy2, sy3, sy4, sy5, clearEnv, adel, mem, initEnv, initSlots, stepOp, wantedA, evalOp, callOf, panicOf, evalV, addr, opd, opds, aget, aset, adel1, lkill, readCells, nth, Env.put, Env.putV, Env.box, Env.bare, dropOwn, dropOwnS, binD, binBD, binBool, binInt, binStr, unD, AOpd.drop, Cell.of, AOp.kind, sameKind, assertD, eqlB, isUndef, takeC, unownAt, fits, layCells, putCells, putD, fillD, partsOf, optLo, optHi, allSize, Option.getD_some, Option.getD_none, runDefers, readRes, readRes1, readRess, Nat.reduceAdd, Nat.reduceSub, Nat.reduceMul, Nat.reduceBEq, Bool.false_and, Bool.true_and, Bool.and_true, Bool.and_false, Nat.zero_add, Nat.add_zero, beq_self_eq_true, Bool.true_beq, Bool.false_beq, Bool.not_true, Bool.not_false, decide_true, decide_false, bindO, List.map_cons, List.map_nil, List.length_cons, List.length_nil, List.append_nil, List.nil_append, List.cons_append, List.isEmpty_nil, List.isEmpty_cons, Nat.reduceLeDiff, Int.reduceBEq, Int.reduceNeg, Nat.le_refl, h100, r1, r2, r3, r4, r5, r7, r8, e40, hc, hc1, hp, hp', List.length_map]
    · have hn : upperB s = false := by
        cases h : upperB s with
        | false => rfl
        | true => exact absurd ⟨_, leaf_reads h⟩ hr
      have r6 := r6 s (by omega) hr σ
      rw [dV_v0] at r6
      rw [hn] at r7 hp hp'
      simp only [Bool.false_and] at hp hp'
      cases hm : may v <;> rw [hm] at r2 <;> simp only [a9, sy0, sy1, sy2, sy3, sy4, sy5, clearEnv, adel, mem, initEnv, initSlots, stepOp, wantedA, evalOp, callOf, panicOf, evalV, addr, opd, opds, aget, aset, adel1, lkill, readCells, nth, Env.put, Env.putV, Env.box, Env.bare, dropOwn, dropOwnS, binD, binBD, binBool, binInt, binStr, unD, AOpd.drop, Cell.of, AOp.kind, sameKind, assertD, eqlB, isUndef, takeC, unownAt, fits, layCells, putCells, putD, fillD, partsOf, optLo, optHi, allSize, Option.getD_some, Option.getD_none, runDefers, readRes, readRes1, readRess, Nat.reduceAdd, Nat.reduceSub, Nat.reduceMul, Nat.reduceBEq, Bool.false_and, Bool.true_and, Bool.and_true, Bool.and_false, Nat.zero_add, Nat.add_zero, beq_self_eq_true, Bool.true_beq, Bool.false_beq, Bool.not_true, Bool.not_false, decide_true, decide_false, bindO, List.map_cons, List.map_nil, List.length_cons, List.length_nil, List.append_nil, List.nil_append, List.cons_append, List.isEmpty_nil, List.isEmpty_cons, Nat.reduceLeDiff, Int.reduceBEq, Int.reduceNeg, Nat.le_refl, h100, r1, r2, r3, r4, r6, r7, r8, e40, hp, hp']
  · refine lives_run.step 0 fun m _ r8 σ => ?_
    have r8 := r8 σ
    have h100 : (((s.length : Nat) : Int) > 100) := by omega
    rw [T_fun (af := a9) rfl rfl]
    simp only [a9, sy0, sy1, sy2, sy3, sy4, sy5, clearEnv, adel, mem, initEnv, initSlots, stepOp, wantedA, evalOp, callOf, panicOf, evalV, addr, opd, opds, aget, aset, adel1, lkill, readCells, nth, Env.put, Env.putV, Env.box, Env.bare, dropOwn, dropOwnS, binD, binBD, binBool, binInt, binStr, unD, AOpd.drop, Cell.of, AOp.kind, sameKind, assertD, eqlB, isUndef, takeC, unownAt, fits, layCells, putCells, putD, fillD, partsOf, optLo, optHi, allSize, Option.getD_some, Option.getD_none, runDefers, readRes, readRes1, readRess, Nat.reduceAdd, Nat.reduceSub, Nat.reduceMul, Nat.reduceBEq, Bool.false_and, Bool.true_and, Bool.and_true, Bool.and_false, Nat.zero_add, Nat.add_zero, beq_self_eq_true, Bool.true_beq, Bool.false_beq, Bool.not_true, Bool.not_false, decide_true, decide_false, bindO, List.map_cons, List.map_nil, List.length_cons, List.length_nil, List.append_nil, List.nil_append, List.cons_append, List.isEmpty_nil, List.isEmpty_cons, Nat.reduceLeDiff, Int.reduceBEq, Int.reduceNeg, Nat.le_refl, h100, r8]
end Go.Proofs.YtdoppkjoemlhjaaDoor.Sh

/-
  ShowNames: for every text and every list of numbers the law answers true, and leaves its arguments as they were. Conditions: none beyond the row's own.
-/
namespace Go.Proofs.YtdoppkjoemlhjaaDoor.Sh
open Go Go.Mx Go.ChangeShapes Go.WideShapes Go.ChangeAt Go.RowKit
namespace names
set_option maxRecDepth 100000 in
theorem contract (H : Type) (enc : TypeId × Value → H) (W : World) (base : Nat) (args : Array Value) (ds gs : List (DataW H)) (before : List MemPlace)
    (hval : ∀ (j : Nat) t v, Tryd.f9.params[j]? = some t → args[j]? = some v → Value.okWide Tryd.prog W .any base t v)
    (hW : DataW.Whole enc Tryd.prog Tryd.f9.params.toList Rows.showNamesSpec.vars false W args.toList ds gs before) (hL : laidMetH Tryd.prog laidList W) :
    Calls Tryd.prog 9 args W fun e W' => ∃ v, e = .returned v ∧ Rows.showNamesSpec.post enc Tryd.prog Tryd.f9 false true false false W args v W' := by
  have hW' := hW
  obtain ⟨p, q, hA0, hV, rfl, hfz, hnd⟩ := hW
  obtain ⟨rfl, rfl⟩ := trodVars_none hV
  have hA : DataW.TrodAll enc Tryd.prog W 0 (fun _ => true) true Tryd.f9.params.toList args.toList ds p := hA0
  simp only [List.append_nil] at hW'
  have hA1 := hA
  rw [Tryd.params9] at hA1 hval
  obtain ⟨v0, vs0, d0, ds0, p0, q0, hargs, rfl, rfl, h0, r0⟩ := trodAll_cons hA1
  obtain ⟨v1, vs1, d1, ds1, p1, q1, rfl, rfl, rfl, h1, r1⟩ := trodAll_cons r0
  obtain ⟨rfl, rfl, rfl⟩ := trodAll_nil r1
  obtain rfl : args = #[v0, v1] := by cases args; simp_all
  obtain ⟨t0, rep0⟩ := rep_str Tryd.underlying9 (hval 0 9 v0 rfl rfl)
  obtain ⟨D1, xs1, i1, s1, rep1⟩ := rep_ints Tryd.underlying22 Tryd.underlying3 cells3 (hval 1 22 v1 rfl rfl) h1 kI rfl
  obtain ⟨N, hN⟩ := law_names D1 xs1 t0 i1 s1
  have hC := T_sound N 9 _ _ _ _ (hN N (Nat.le_refl _) σ0)
  refine (law_call (κ_n hL) (κ_K hL) hC (args := [v0, v1]) ?_).mono fun e W' ⟨he, hb⟩ => ?_
  · simp only [RepL]
    exact ⟨_, _, rfl, rep0, _, _, rfl, rep1, rfl⟩
  · exact ⟨_, he, post_true laidOut hb rfl (readable (by kernel_rfl)) hW' hA (tb := 4) (by kernel_rfl) Tryd.underlying4 rfl rfl rfl⟩
theorem reads (os : Os) {H : Type} (enc : TypeId × Value → H) : ∃ places, DataW.whole enc Tryd.prog ((laidWorld os).forCall (fun _ _ => 0) ⟨#[], #[.string ⟨#[]⟩, .slice none 0 0], []⟩).memory Tryd.f9.params.toList Rows.showNamesSpec.vars false #[Value.string ⟨#[]⟩, Value.slice none 0 0].toList 8 = some ([.lit (.string []), .nil], [], places) :=
  ⟨[], by kernel_rfl⟩
set_option maxRecDepth 100000 in
theorem lifted (os : Os) (started : os.Started) (H : Type) (enc : TypeId × Value → H) (F : Stop.Interp) :
    ReturnsInHanded {} Tryd.checked os 9 .any ((OpenSpec.ofChange Rows.showNamesSpec).preRow enc Tryd.prog Tryd.f9 Rows.showNamesRow.domain false Rows.showNamesRow.laid) (((OpenSpec.ofChange Rows.showNamesSpec).at F).post enc Tryd.prog Tryd.f9 false true false false) := by
  obtain ⟨places, hx⟩ := reads os enc
  refine returnsInHanded_of_row (C := Tryd.checked) (s := OpenSpec.ofChange Rows.showNamesSpec) own started (by kernel_rfl) Tryd.func9
    (witness_row_at (enc := enc) (C := Tryd.checked) false (laidWorld os) #[.string ⟨#[]⟩, .slice none 0 0] rfl (by kernel_rfl) (by kernel_rfl) (by kernel_rfl)
      (OpenSpec.preRow_of_cond 8 hx (by kernel_rfl) (fun k hk => by cases hk) (by kernel_rfl) (laid_met os _))) ?_
  intro W base args ds gs before hval hW _ _ _ hL _ _
  exact contract H enc W base args ds gs before hval hW hL
theorem said : Rows.ShowNamesSaid :=
  OpenClaim.holds_of_cond 9 Tryd.f9 rfl rfl rfl rfl rfl rfl rfl ⟨rfl, rfl, rfl, rfl, rfl⟩ rfl rfl rfl rfl rfl (by kernel_rfl) Tryd.func9 (by kernel_rfl)
    (of_decide_eq_true (by kernel_rfl)) (by unfold Func.isWrapper; first | (rw [if_pos (by decide +kernel)]; kernel_rfl) | (rw [if_neg (by decide +kernel)]; exact ⟨rfl, rfl⟩))
    (fun os started H enc _ F => by rw [OpenClaim.pre_eq_preRow]; exact lifted os started H enc F)
theorem plain (f : FuncId) (fn : Func) (hf : Tryd.pinned.checked.prog.funcNamed "fugue/fuguelaw29.ShowNames" = some f) (hfn : Tryd.pinned.checked.prog.funcs[f]? = some fn) :
    true = Tryd.pinned.checked.prog.looks [] ∧ ∀ (j : Nat) t, fn.params[j]? = some t → Tryd.pinned.checked.prog.wantsStandIn t = false := by
  obtain rfl : f = 9 := Option.some.inj ((show Tryd.prog.funcNamed "fugue/fuguelaw29.ShowNames" = some 9 by kernel_rfl).symm.trans hf) |>.symm
  obtain rfl : fn = Tryd.f9 := (Option.some.inj (Tryd.func9.symm.trans hfn)).symm
  refine ⟨by kernel_rfl, fun j t ht => ?_⟩
  have hall : (Tryd.f9.params.toList.all fun t => Tryd.prog.wantsStandIn t == false) = true := by kernel_rfl
  have hm := Array.mem_of_getElem? ht
  have := List.all_eq_true.1 hall t (by simpa using hm)
  exact (by simpa using this : Tryd.prog.wantsStandIn t = false)
theorem card : Rows.ShowNamesCardSaid :=
  Claim7.holds_tied_plain_at .later [] _ _ _ _ said (fun _ h => by cases h) (by kernel_rfl) (fun _ h => by cases h) showNames_row_tie rfl ⟨rfl, rfl⟩ (by kernel_rfl) rfl plain (by kernel_rfl)
end names
end Go.Proofs.YtdoppkjoemlhjaaDoor.Sh

