/-
  The program in which star and the document's example are served.
-/
import Derived.Test.YtjldgfgjbdogoaaGreatDoorFkCodeA
set_option linter.unusedSimpArgs false
set_option linter.unusedVariables false
set_option linter.unusedSectionVars false
namespace Go.Fu
open Go Go.Mx
set_option maxRecDepth 1000000
noncomputable def za2b : Option (Out × Store) := TF 200 n_30 [] σe
def isT : Option (Out × Store) → Bool
  | some (.ret ⟨false, .bool true⟩, _) => true
  | _ => false
theorem zcab : isT za2b = true := by kernel_rfl
theorem zawb {r : Option (Out × Store)} (h : isT r = true) : ∃ σ, r = some (.ret ⟨false, .bool true⟩, σ) := by
  unfold isT at h
  split at h
  · exact ⟨_, rfl⟩
  · cases h
theorem za3b (σ : Store) : ze1 Go.Proofs.Tryz.prog κ n_30 [] σ (.ret ⟨false, .bool true⟩) σ := by
  obtain ⟨σ1, h⟩ := zawb zcab
  have h2 : T0 200 n_30 [] σe = some (.ret ⟨false, .bool true⟩, σ1) := by rw [T0_eq]; exact h
  exact zoa rfl (zr3 200 _ [] σ0 _ _ h2) rfl rfl σ
theorem zng : ∀ t : Tp, noPtr (dT t) = true
  | .con s => rfl
  | .app f a => by
    have h1 := zng f
    have h2 := zng a
    simp [dT, noPtr, zek, h1, h2]
theorem zcvb (bs : List Bool) (h : bs.length ≤ 8) (σ : Store) : ze1 Go.Proofs.Tryz.prog κ n_33 [.agg [.nils, .nils, .nils, .nils], .nils, .nils, dT (tyB bs)] σ (.ret ⟨false, .bool true⟩) σ := by
  obtain ⟨σ1, h2⟩ := zbob bs h
  refine zoa rfl (zr3 60 _ _ σ0 _ _ h2) ?_ rfl σ
  simp [zek, noPtr, zng]
def zss (ds : List D) : Prop := ∃ bs : List Bool, bs.length ≤ 8 ∧ ds = [.agg [.nils, .nils, .nils, .nils], .nils, .nils, dT (tyB bs)]
open Classical in
noncomputable def Xs : CallF := fun f ds σ => ifB (f == n_30) (ifB ds.isEmpty (some (.ret ⟨false, .bool true⟩, σ)) none) (ifB (f == n_33) (if zss ds then some (.ret ⟨false, .bool true⟩, σ) else none) none)
def Γs : FuncId → Option AFun := fun f => ifB (f == n_30) none (ifB (f == n_33) none (ifB (f == n_32) (some zhz) (Γa f)))
theorem Γs_holds : Holds Go.Proofs.Tryz.prog Γs := by
  intro f af h
  unfold Γs at h
  cases h1 : f == n_30 with
  | true => rw [h1] at h; cases h
  | false =>
    rw [h1, zaw] at h
    cases h2 : f == n_33 with
    | true => rw [h2] at h; cases h
    | false =>
      rw [h2, zaw] at h
      cases h3 : f == n_32 with
      | true =>
        rw [h3, zay] at h
        cases h
        have : f = n_32 := by simpa using h3
        subst this
        exact ⟨rfl, _, Go.Proofs.Tryz.func4, zlt⟩
      | false =>
        rw [h3, zaw] at h
        exact Γa_holds f af h
theorem zakb : zef Go.Proofs.Tryz.prog κ Xs := by
  intro f ds σ out σ' h
  unfold Xs at h
  cases h1 : f == n_30 with
  | true =>
    rw [h1, zay] at h
    obtain ⟨h2, h3⟩ := zas h
    cases h3
    have : f = n_30 := by simpa using h1
    subst this
    cases ds with
    | nil => exact za3b σ
    | cons d l => cases h2
  | false =>
    rw [h1, zaw] at h
    cases h2 : f == n_33 with
    | true =>
      rw [h2, zay] at h
      have : f = n_33 := by simpa using h2
      subst this
      split at h
      · rename_i hs
        cases h
        obtain ⟨bs, hl, rfl⟩ := hs
        exact zcvb bs hl σ
      · cases h
    | false => rw [h2] at h; cases h
noncomputable def T (n : Nat) : CallF := runQ Γs Ra Xs n false
noncomputable def TD (n : Nat) : CallF := runQ Γs Ra Xs n true
theorem zb0b (n : Nat) : zef Go.Proofs.Tryz.prog κ (T n) := (zly Γs_holds zr2 zakb n).1
theorem T_fun {n : Nat} {f : FuncId} {af : AFun} {ds : List D} {σ : Store} (h : Γs f = some af) (hl : ds.length = af.nargs) : T (n + 1) f ds σ = finX Ra (TD n) af σ.next (exec (T n) n none af.body (zb1 ds) σ) := ztv h hl
theorem T_lib {n : Nat} {f : FuncId} {ds : List D} {σ : Store} (h : Γs f = none) (hy : isY f = false) : T (n + 1) f ds σ = Xs f ds σ := zbjb h hy
theorem zbzb (n : Nat) (σ : Store) : T (n + 1) n_30 [] σ = some (.ret ⟨false, .bool true⟩, σ) := by rw [T_lib rfl rfl]; rfl
open Classical in
theorem zr4 (n : Nat) (bs : List Bool) (h : bs.length ≤ 8) (σ : Store) : T (n + 1) n_33 [.agg [.nils, .nils, .nils, .nils], .nils, .nils, dT (tyB bs)] σ = some (.ret ⟨false, .bool true⟩, σ) := by
  rw [T_lib rfl rfl]
  have : zss [.agg [.nils, .nils, .nils, .nils], .nils, .nils, dT (tyB bs)] := ⟨bs, h, rfl⟩
  show (if zss _ then _ else none) = _
  rw [if_pos this]
end Go.Fu
