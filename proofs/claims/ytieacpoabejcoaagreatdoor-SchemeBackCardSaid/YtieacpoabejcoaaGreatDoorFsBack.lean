/-
  What is made a scheme, and given new types, is a scheme again, the same.
-/
import Derived.Test.YtieacpoabejcoaaGreatDoorFsRowK
import Derived.Test.YtieacpoabejcoaaGreatDoorFsBd
set_option maxHeartbeats 4000000
set_option linter.unusedSimpArgs false
set_option linter.unusedVariables false
set_option linter.unusedSectionVars false
namespace Go.Proofs.YtieacpoabejcoaaGreatDoor.Sh
open Go Go.Mx Go.Fu Go.ChangeShapes Go.WideShapes Go.ChangeAt Go.RowKit Go.Proofs
namespace back
set_option maxRecDepth 100000 in
theorem contract (H : Type) (enc : TypeId × Value → H) (W : World) (base : Nat) (args : Array Value) (ds gs : List (DataW H)) (before : List MemPlace)
    (hval : ∀ (j : Nat) t v, Go.Proofs.Tryz.f3.params[j]? = some t → args[j]? = some v → Value.okWide Go.Proofs.Tryz.prog W .any base t v)
    (hW : DataW.Whole enc Go.Proofs.Tryz.prog Go.Proofs.Tryz.f3.params.toList Rows.schemeBackSpec.vars false W args.toList ds gs before) (hL : laidMetH Go.Proofs.Tryz.prog zg6 W) :
    Calls Go.Proofs.Tryz.prog 3 args W fun e W' => ∃ v, e = .returned v ∧ Rows.schemeBackSpec.post enc Go.Proofs.Tryz.prog Go.Proofs.Tryz.f3 false true false false W args v W' := by
  have hW' := hW
  obtain ⟨p, q, hA0, hV, rfl, hfz, hnd⟩ := hW
  obtain ⟨rfl, rfl⟩ := trodVars_none hV
  have hA : DataW.TrodAll enc Go.Proofs.Tryz.prog W 0 (fun _ => true) true Go.Proofs.Tryz.f3.params.toList args.toList ds p := hA0
  simp only [List.append_nil] at hW'
  have hA1 := hA
  rw [Go.Proofs.Tryz.params3] at hA1 hval
  obtain ⟨v0, vs0, d0, ds0, p0, q0, hargs, rfl, rfl, h0, r0⟩ := trodAll_cons hA1
  obtain ⟨v1, vs1, d1, ds1, p1, q1, rfl, rfl, rfl, h1, r1⟩ := trodAll_cons r0
  obtain ⟨rfl, rfl, rfl⟩ := trodAll_nil r1
  obtain rfl : args = #[v0, v1] := by cases args; simp_all
  obtain ⟨D0, xs0, i0, s0, rep0⟩ := zxq Go.Proofs.Tryz.underlying22 Go.Proofs.Tryz.underlying3 zfgb (hval 0 22 v0 rfl rfl) h0 k_int rfl
  obtain ⟨D1, xs1, i1, s1, rep1⟩ := zxq Go.Proofs.Tryz.underlying22 Go.Proofs.Tryz.underlying3 zfgb (hval 1 22 v1 rfl rfl) h1 k_int rfl
  obtain ⟨C, hCS, σ1, hN1⟩ := lawB D0 D1 xs0 xs1 i0 i1 s0 s1
  have hC := hCS 3 _ _ _ _ hN1
  refine (zj9b rfl (κ_n hL) (κ_K hL) hC (args := [v0, v1]) ?_).mono fun e W' ⟨he, hb⟩ => ?_
  · simp only [RepL]
    exact ⟨_, _, rfl, rep0, _, _, rfl, rep1, rfl⟩
  · exact ⟨_, he, zhkb zneb hb rfl (zleb (by kernel_rfl)) hW' hA (tb := 4) (by kernel_rfl) Go.Proofs.Tryz.underlying4 rfl rfl rfl⟩
theorem reads (os : Os) {H : Type} (enc : TypeId × Value → H) : ∃ places, DataW.whole enc Go.Proofs.Tryz.prog ((Go.Fu.laidWorld os).forCall (fun _ _ => 0) ⟨#[], #[.slice none 0 0, .slice none 0 0], []⟩).memory Go.Proofs.Tryz.f3.params.toList Rows.schemeBackSpec.vars false #[Value.slice none 0 0, Value.slice none 0 0].toList 8 = some ([.nil, .nil], [], places) :=
  ⟨[], by kernel_rfl⟩
set_option maxRecDepth 100000 in
theorem lifted (os : Os) (started : os.Started) (H : Type) (enc : TypeId × Value → H) (F : Stop.Interp) :
    ReturnsInHanded {} Go.Proofs.Tryz.checked os 3 .any ((OpenSpec.ofChange Rows.schemeBackSpec).preRow enc Go.Proofs.Tryz.prog Go.Proofs.Tryz.f3 Rows.schemeBackRow.domain false Rows.schemeBackRow.laid) (((OpenSpec.ofChange Rows.schemeBackSpec).at F).post enc Go.Proofs.Tryz.prog Go.Proofs.Tryz.f3 false true false false) := by
  obtain ⟨places, hx⟩ := reads os enc
  refine returnsInHanded_of_row (C := Go.Proofs.Tryz.checked) (s := OpenSpec.ofChange Rows.schemeBackSpec) Go.Fu.own started (by kernel_rfl) Go.Proofs.Tryz.func3
    (witness_row_at (enc := enc) (C := Go.Proofs.Tryz.checked) false (Go.Fu.laidWorld os) #[.slice none 0 0, .slice none 0 0] rfl (by kernel_rfl) (by kernel_rfl) (by kernel_rfl)
      (OpenSpec.preRow_of_cond 8 hx (by kernel_rfl) (fun k hk => by cases hk) (by kernel_rfl) (Go.Fu.laid_met os _))) ?_
  intro W base args ds gs before hval hW _ _ _ hL _ _
  exact contract H enc W base args ds gs before hval hW hL
theorem said : Rows.SchemeBackSaid :=
  OpenClaim.holds_of_cond 3 Go.Proofs.Tryz.f3 rfl rfl rfl rfl rfl rfl rfl ⟨rfl, rfl, rfl, rfl, rfl⟩ rfl rfl rfl rfl rfl (by kernel_rfl) Go.Proofs.Tryz.func3 (by kernel_rfl)
    (of_decide_eq_true (by kernel_rfl)) (by unfold Func.isWrapper; first | (rw [if_pos (by decide +kernel)]; kernel_rfl) | (rw [if_neg (by decide +kernel)]; exact ⟨rfl, rfl⟩))
    (fun os started H enc _ F => by rw [OpenClaim.pre_eq_preRow]; exact lifted os started H enc F)
theorem plain (f : FuncId) (fn : Func) (hf : Tryz.pinned.checked.prog.funcNamed "fugue/fuguelaw13.SchemeBack" = some f) (hfn : Tryz.pinned.checked.prog.funcs[f]? = some fn) :
    true = Tryz.pinned.checked.prog.looks [] ∧ ∀ (j : Nat) t, fn.params[j]? = some t → Tryz.pinned.checked.prog.wantsStandIn t = false := by
  obtain rfl : f = 3 := Option.some.inj ((show Go.Proofs.Tryz.prog.funcNamed "fugue/fuguelaw13.SchemeBack" = some 3 by kernel_rfl).symm.trans hf) |>.symm
  obtain rfl : fn = Go.Proofs.Tryz.f3 := (Option.some.inj (Go.Proofs.Tryz.func3.symm.trans hfn)).symm
  refine ⟨by kernel_rfl, fun j t ht => ?_⟩
  have hall : (Go.Proofs.Tryz.f3.params.toList.all fun t => Go.Proofs.Tryz.prog.wantsStandIn t == false) = true := by kernel_rfl
  have hm := Array.mem_of_getElem? ht
  have := List.all_eq_true.1 hall t (by simpa using hm)
  exact (by simpa using this : Go.Proofs.Tryz.prog.wantsStandIn t = false)
theorem card : Rows.SchemeBackCardSaid :=
  Claim7.holds_tied_plain_at .later [] _ _ _ _ said (fun _ h => by cases h) (by kernel_rfl) (fun _ h => by cases h) schemeBack_row_tie rfl ⟨rfl, rfl⟩ (by kernel_rfl) rfl plain (by kernel_rfl)
end back
end Go.Proofs.YtieacpoabejcoaaGreatDoor.Sh
