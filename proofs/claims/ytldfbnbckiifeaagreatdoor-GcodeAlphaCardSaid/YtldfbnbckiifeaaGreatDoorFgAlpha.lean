/-
  GcodeAlpha: for every list of numbers the law answers true, and leaves its argument as it was. Conditions: none beyond the row's own.
-/
import Derived.Test.YtldfbnbckiifeaaGreatDoorFgRowK
import Derived.Test.YtldfbnbckiifeaaGreatDoorFgGf
set_option maxHeartbeats 4000000
set_option linter.unusedSimpArgs false
set_option linter.unusedVariables false
set_option linter.unusedSectionVars false
namespace Go.Proofs.YtldfbnbckiifeaaGreatDoor.Sh
open Go Go.Mx Go.Fu Go.ChangeShapes Go.WideShapes Go.ChangeAt Go.RowKit Go.Proofs
namespace alpha
set_option maxRecDepth 100000 in
theorem contract (H : Type) (enc : TypeId × Value → H) (W : World) (base : Nat) (args : Array Value) (ds gs : List (DataW H)) (before : List MemPlace)
    (hval : ∀ (j : Nat) t v, Go.Proofs.Tryz.f7.params[j]? = some t → args[j]? = some v → Value.okWide Go.Proofs.Tryz.prog W .any base t v)
    (hW : DataW.Whole enc Go.Proofs.Tryz.prog Go.Proofs.Tryz.f7.params.toList Rows.gcodeAlphaSpec.vars false W args.toList ds gs before) (hL : laidMetH Go.Proofs.Tryz.prog wP W) :
    Calls Go.Proofs.Tryz.prog 7 args W fun e W' => ∃ v, e = .returned v ∧ Rows.gcodeAlphaSpec.post enc Go.Proofs.Tryz.prog Go.Proofs.Tryz.f7 false true false false W args v W' := by
  have hW' := hW
  obtain ⟨p, q, hA0, hV, rfl, hfz, hnd⟩ := hW
  obtain ⟨rfl, rfl⟩ := trodVars_none hV
  have hA : DataW.TrodAll enc Go.Proofs.Tryz.prog W 0 (fun _ => true) true Go.Proofs.Tryz.f7.params.toList args.toList ds p := hA0
  simp only [List.append_nil] at hW'
  have hA1 := hA
  rw [Go.Proofs.Tryz.params7] at hA1 hval
  obtain ⟨v0, vs0, d0, ds0, p0, q0, hargs, rfl, rfl, h0, r0⟩ := trodAll_cons hA1
  obtain ⟨rfl, rfl, rfl⟩ := trodAll_nil r0
  obtain rfl : args = #[v0] := by cases args; simp_all
  obtain ⟨D0, xs0, i0, s0, rep0⟩ := zyq Go.Proofs.Tryz.underlying22 Go.Proofs.Tryz.underlying3 zewb (hval 0 22 v0 rfl rfl) h0 pH rfl
  obtain ⟨S, σ1, hN1⟩ := zux D0 xs0 i0 s0
  have hC := iT S 9001 _ _ _ _ _ hN1
  refine (zxu rfl (κ_n hL) (κ_K hL) hC (args := [v0]) ?_).mono fun e W' ⟨he, hb⟩ => ?_
  · simp only [dM]
    exact ⟨_, _, rfl, rep0, rfl⟩
  · exact ⟨_, he, zvm zcvb hb rfl (zyp (by kernel_rfl)) hW' hA (tb := 4) (by kernel_rfl) Go.Proofs.Tryz.underlying4 rfl rfl rfl⟩
theorem reads (os : Os) {H : Type} (enc : TypeId × Value → H) : ∃ places, DataW.whole enc Go.Proofs.Tryz.prog ((Go.Fu.laidWorld os).forCall (fun _ _ => 0) ⟨#[], #[.slice none 0 0], []⟩).memory Go.Proofs.Tryz.f7.params.toList Rows.gcodeAlphaSpec.vars false #[Value.slice none 0 0].toList 8 = some ([.nil], [], places) :=
  ⟨[], by kernel_rfl⟩
set_option maxRecDepth 100000 in
theorem kZ (os : Os) (started : os.Started) (H : Type) (enc : TypeId × Value → H) (F : Stop.Interp) :
    ReturnsInHanded {} Go.Proofs.Tryz.checked os 7 .any ((OpenSpec.ofChange Rows.gcodeAlphaSpec).preRow enc Go.Proofs.Tryz.prog Go.Proofs.Tryz.f7 Rows.gcodeAlphaRow.domain false Rows.gcodeAlphaRow.laid) (((OpenSpec.ofChange Rows.gcodeAlphaSpec).at F).post enc Go.Proofs.Tryz.prog Go.Proofs.Tryz.f7 false true false false) := by
  obtain ⟨places, hx⟩ := reads os enc
  refine returnsInHanded_of_row (C := Go.Proofs.Tryz.checked) (s := OpenSpec.ofChange Rows.gcodeAlphaSpec) Go.Fu.own started (by kernel_rfl) Go.Proofs.Tryz.func7
    (witness_row_at (enc := enc) (C := Go.Proofs.Tryz.checked) false (Go.Fu.laidWorld os) #[.slice none 0 0] rfl (by kernel_rfl) (by kernel_rfl) (by kernel_rfl)
      (OpenSpec.preRow_of_cond 8 hx (by kernel_rfl) (fun k hk => by cases hk) (by kernel_rfl) (Go.Fu.laid_met os _))) ?_
  intro W base args ds gs before hval hW _ _ _ hL _ _
  exact contract H enc W base args ds gs before hval hW hL
theorem said : Rows.GcodeAlphaSaid :=
  OpenClaim.holds_of_cond 7 Go.Proofs.Tryz.f7 rfl rfl rfl rfl rfl rfl rfl ⟨rfl, rfl, rfl, rfl, rfl⟩ rfl rfl rfl rfl rfl (by kernel_rfl) Go.Proofs.Tryz.func7 (by kernel_rfl)
    (of_decide_eq_true (by kernel_rfl)) (by unfold Func.isWrapper; first | (rw [if_pos (by decide +kernel)]; kernel_rfl) | (rw [if_neg (by decide +kernel)]; exact ⟨rfl, rfl⟩))
    (fun os started H enc _ F => by rw [OpenClaim.pre_eq_preRow]; exact kZ os started H enc F)
theorem plain (f : FuncId) (fn : Func) (hf : Tryz.pinned.checked.prog.funcNamed "fugue/fuguelaw26.GcodeAlpha" = some f) (hfn : Tryz.pinned.checked.prog.funcs[f]? = some fn) :
    true = Tryz.pinned.checked.prog.looks [] ∧ ∀ (j : Nat) t, fn.params[j]? = some t → Tryz.pinned.checked.prog.wantsStandIn t = false := by
  obtain rfl : f = 7 := Option.some.inj ((show Go.Proofs.Tryz.prog.funcNamed "fugue/fuguelaw26.GcodeAlpha" = some 7 by kernel_rfl).symm.trans hf) |>.symm
  obtain rfl : fn = Go.Proofs.Tryz.f7 := (Option.some.inj (Go.Proofs.Tryz.func7.symm.trans hfn)).symm
  refine ⟨by kernel_rfl, fun j t ht => ?_⟩
  have hall : (Go.Proofs.Tryz.f7.params.toList.all fun t => Go.Proofs.Tryz.prog.wantsStandIn t == false) = true := by kernel_rfl
  have hm := Array.mem_of_getElem? ht
  have := List.all_eq_true.1 hall t (by simpa using hm)
  exact (by simpa using this : Go.Proofs.Tryz.prog.wantsStandIn t = false)
theorem card : Rows.GcodeAlphaCardSaid :=
  Claim7.holds_tied_plain_at .later [] _ _ _ _ said (fun _ h => by cases h) (by kernel_rfl) (fun _ h => by cases h) gcodeAlpha_row_tie rfl ⟨rfl, rfl⟩ (by kernel_rfl) rfl plain (by kernel_rfl)
end alpha
end Go.Proofs.YtldfbnbckiifeaaGreatDoor.Sh
