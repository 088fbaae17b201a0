/-
  The program run by the machine, where the document's example, upper names, prints, and what is read of a print are served from without.
-/
import Derived.Test.YtdoppkjoemlhjaaDoorShRead
set_option linter.unusedSimpArgs false
set_option linter.unusedVariables false
namespace Go.Proofs.YtdoppkjoemlhjaaDoor.Sh
open Go Go.Mx
open Classical in
noncomputable def xRead (ds : List D) : Option D := if h : ∃ v, Readable v ∧ ds = [.str (pprint v)] then some (dV (Classical.choose h)) else none
theorem xRead_print {v : V} (h : Readable v) : xRead [.str (pprint v)] = some (dV v) := by
  have hx : ∃ w, Readable w ∧ ([.str (pprint v)] : List D) = [.str (pprint w)] := ⟨v, h, rfl⟩
  unfold xRead
  rw [dif_pos hx]
  have hs := Classical.choose_spec hx
  have : v = Classical.choose hx := print_inj v _ h hs.1 (by simpa using hs.2)
  rw [← this]
def Γt : FuncId → Option AFun := fun f => ifB (f == 14 || f == 24 || f == 12 || f == 15) none (Γl f)
noncomputable def Xt : CallF := fun f ds σ => match f with
  | 14 => ifB ds.isEmpty (some (.ret ⟨false, .bool true⟩, σ)) none
  | 15 => bindO (xRead ds) fun d => some (.ret ⟨false, .tup [d, .int .i64 0]⟩, σ)
  | f => Xq f ds σ
theorem Γt_holds : Holds Tryd.prog Γt := by
  intro f af h
  unfold Γt at h
  cases hf : (f == 14 || f == 24 || f == 12 || f == 15) with
  | true => rw [hf] at h; cases h
  | false => rw [hf] at h; exact Γl_holds f af h
theorem Xt_sound : CSound Tryd.prog κ Xt := by
  intro f ds σ out σ' h
  unfold Xt at h
  split at h
  · obtain ⟨h1, h2⟩ := ifB_some h
    cases h2
    cases ds with
    | nil => exact lives_ok σ
    | cons d l => cases h1
  · obtain ⟨d, h1, h2⟩ := bindO_some h
    cases h2
    unfold xRead at h1
    split at h1
    · rename_i hx
      cases h1
      obtain ⟨k1, k2⟩ := Classical.choose_spec hx
      generalize Classical.choose hx = v at k1 k2
      rw [k2]
      exact read_ok v k1 σ
    · cases h1
  · exact Xq_sound _ _ _ _ _ h
/-- The program, with so much fuel. -/
noncomputable def T (n : Nat) : CallF := runQ Γt Rl Xt n false
noncomputable def TD (n : Nat) : CallF := runQ Γt Rl Xt n true
theorem T_sound (n : Nat) : CSound Tryd.prog κ (T n) := (run_sound Γt_holds Rl_sound Xt_sound n).1
theorem T_fun {n : Nat} {f : FuncId} {af : AFun} {ds : List D} {σ : Store} (h : Γt f = some af) (hl : ds.length = af.nargs) : T (n + 1) f ds σ = finX Rl (TD n) af σ.next (exec (T n) n af.body (initEnv ds) σ) := runQ_fun h hl
theorem T_lib {n : Nat} {f : FuncId} {ds : List D} {σ : Store} (h : Γt f = none) : T (n + 1) f ds σ = Xt f ds σ := runQ_lib h
theorem lives_run : Evly fun n => ∀ σ, T n 14 [] σ = some (.ret ⟨false, .bool true⟩, σ) := (Evly.all (p := fun _ => True) fun _ => trivial).step 0 fun n _ _ σ => by rw [T_lib rfl]; rfl
theorem pupper_run : Evly fun n => ∀ s σ, T n 24 [.str s] σ = some (.ret ⟨false, .bool (upperB s)⟩, σ) := (Evly.all (p := fun _ => True) fun _ => trivial).step 0 fun n _ _ s σ => by rw [T_lib rfl]; rfl
theorem pprint_run : Evly fun n => ∀ v, Printable v → ∀ σ, T n 12 [dV v] σ = some (.ret ⟨false, .str (pprint v)⟩, σ) := (Evly.all (p := fun _ => True) fun _ => trivial).step 0 fun n _ _ v hv σ => by
  rw [T_lib rfl]
  show bindO (xPrint [dV v]) _ = _
  rw [xPrint_dV hv]
  rfl
theorem pread_run : Evly fun n => ∀ v, Readable v → ∀ σ, T n 15 [.str (pprint v)] σ = some (.ret ⟨false, .tup [dV v, .int .i64 0]⟩, σ) := (Evly.all (p := fun _ => True) fun _ => trivial).step 0 fun n _ _ v hv σ => by
  rw [T_lib rfl]
  show bindO (xRead [.str (pprint v)]) _ = _
  rw [xRead_print hv]
  rfl
end Go.Proofs.YtdoppkjoemlhjaaDoor.Sh

