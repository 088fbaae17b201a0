/-
  The program's functions run by the machine: what the machine answers is what they answer.
-/
import Derived.Test.YtdoppkjoemlhjaaDoorShOk
import Derived.Test.YtdoppkjoemlhjaaDoorShLib
import Derived.Test.YtdoppkjoemlhjaaDoorMxSym
set_option linter.unusedSimpArgs false
set_option linter.unusedVariables false
namespace Go.Proofs.YtdoppkjoemlhjaaDoor.Sh
open Go Go.Mx
theorem Γl_holds : Holds Tryd.prog Γl := by
  intro f af h
  unfold Γl at h
  split at h
  · cases h; exact ⟨_, Tryd.func3, ok3⟩
  · cases h; exact ⟨_, Tryd.func4, ok4⟩
  · cases h; exact ⟨_, Tryd.func5, ok5⟩
  · cases h; exact ⟨_, Tryd.func6, ok6⟩
  · cases h; exact ⟨_, Tryd.func7, ok7⟩
  · cases h; exact ⟨_, Tryd.func8, ok8⟩
  · cases h; exact ⟨_, Tryd.func9, ok9⟩
  · cases h; exact ⟨_, Tryd.func10, ok10⟩
  · cases h; exact ⟨_, Tryd.func11, ok11⟩
  · cases h; exact ⟨_, Tryd.func12, ok12⟩
  · cases h; exact ⟨_, Tryd.func13, ok13⟩
  · cases h; exact ⟨_, Tryd.func14, ok14⟩
  · cases h; exact ⟨_, Tryd.func15, ok15⟩
  · cases h; exact ⟨_, Tryd.func16, ok16⟩
  · cases h; exact ⟨_, Tryd.func17, ok17⟩
  · cases h; exact ⟨_, Tryd.func18, ok18⟩
  · cases h; exact ⟨_, Tryd.func19, ok19⟩
  · cases h; exact ⟨_, Tryd.func20, ok20⟩
  · cases h; exact ⟨_, Tryd.func21, ok21⟩
  · cases h; exact ⟨_, Tryd.func22, ok22⟩
  · cases h; exact ⟨_, Tryd.func23, ok23⟩
  · cases h; exact ⟨_, Tryd.func24, ok24⟩
  · cases h; exact ⟨_, Tryd.func25, ok25⟩
  · cases h; exact ⟨_, Tryd.func26, ok26⟩
  · cases h; exact ⟨_, Tryd.func27, ok27⟩
  · cases h; exact ⟨_, Tryd.func28, ok28⟩
  · cases h; exact ⟨_, Tryd.func29, ok29⟩
  · cases h; exact ⟨_, Tryd.func30, ok30⟩
  · cases h; exact ⟨_, Tryd.func33, ok33⟩
  · cases h; exact ⟨_, Tryd.func35, ok35⟩
  · cases h; exact ⟨_, Tryd.func36, ok36⟩
  · cases h; exact ⟨_, Tryd.func37, ok37⟩
  · cases h; exact ⟨_, Tryd.func38, ok38⟩
  · cases h; exact ⟨_, Tryd.func39, ok39⟩
  · cases h; exact ⟨_, Tryd.func40, ok40⟩
  · cases h; exact ⟨_, Tryd.func41, ok41⟩
  · cases h; exact ⟨_, Tryd.func42, ok42⟩
  · cases h; exact ⟨_, Tryd.func45, ok45⟩
  · cases h; exact ⟨_, Tryd.func46, ok46⟩
  · cases h; exact ⟨_, Tryd.func47, ok47⟩
  · cases h; exact ⟨_, Tryd.func48, ok48⟩
  · cases h; exact ⟨_, Tryd.func49, ok49⟩
  · cases h; exact ⟨_, Tryd.func50, ok50⟩
  · cases h; exact ⟨_, Tryd.func51, ok51⟩
  · cases h; exact ⟨_, Tryd.func52, ok52⟩
  · cases h; exact ⟨_, Tryd.func53, ok53⟩
  · cases h; exact ⟨_, Tryd.func56, ok56⟩
  · cases h; exact ⟨_, Tryd.func57, ok57⟩
  · cases h; exact ⟨_, Tryd.func58, ok58⟩
  · cases h; exact ⟨_, Tryd.func59, ok59⟩
  · cases h; exact ⟨_, Tryd.func65, ok65⟩
  · cases h; exact ⟨_, Tryd.func67, ok67⟩
  · cases h; exact ⟨_, Tryd.func68, ok68⟩
  · cases h; exact ⟨_, Tryd.func69, ok69⟩
  · cases h; exact ⟨_, Tryd.func79, ok79⟩
  · cases h; exact ⟨_, Tryd.func90, ok90⟩
  · cases h; exact ⟨_, Tryd.func94, ok94⟩
  · cases h; exact ⟨_, Tryd.func95, ok95⟩
  · cases h
theorem none_sound {κ' : Ctx} : CSound Tryd.prog κ' (fun _ _ _ => none) := fun _ _ _ _ _ h => by cases h
theorem r34_ok : ∃ rest, Tryd.f34.body = some (.seq (.region 0 #[⟨some 3, .call { callee := .builtin .recover, args := #[], argTypes := #[] }, 20, "show.go:140", #[], none⟩, ⟨some 2, .assign (.tmp 3), 20, "show.go:140", #[⟨0, .data⟩, ⟨0, .chain⟩, ⟨0, .phase⟩], none⟩] false) rest) ∧ okCode Tryd.prog Tryd.f34.ntmps rest r34 = true := ⟨_, rfl, by kernel_rfl⟩
theorem Rl_sound : RSound Tryd.prog κ Rl := by
  intro f ds m σ m' σ' h
  unfold Rl at h
  split at h
  · obtain ⟨rest, h1, h2⟩ := r34_ok
    exact rec_sound none_sound Tryd.func34 rfl h1 rfl rfl rfl rfl rfl rfl (by decide) (by decide) rfl (by decide) h2 h
  · cases h
theorem T0_sound (n : Nat) : CSound Tryd.prog κ (runQ Γl Rl Xl n false) := (run_sound Γl_holds Rl_sound Xl_sound n).1
theorem lives_ok (σ : Store) : CallOK Tryd.prog κ 14 [] σ (.ret ⟨false, .bool true⟩) σ := by
  have h := lives_runs
  unfold okLives lives0 at h
  cases hx : runQ Γl Rl Xl 200 false 14 [] { objs := [], tys := [], iters := [], next := 0 } with
  | none => rw [hx] at h; cases h
  | some r =>
    obtain ⟨o, s⟩ := r
    cases o with
    | panic d => rw [hx] at h; cases h
    | ret c =>
      rw [hx] at h
      obtain ⟨own, d⟩ := c
      cases own with
      | true => simp at h
      | false =>
        cases d with
        | bool b =>
          simp at h
          subst h
          exact frame_rule (T0_sound 200 14 [] σ0 _ _ hx) rfl rfl σ
        | _ => simp at h
end Go.Proofs.YtdoppkjoemlhjaaDoor.Sh
