/-
  The program run by the machine, where the document's example, upper names and prints are served from without.
-/
import Derived.Test.YtdoppkjoemlhjaaDoorShPrint
set_option linter.unusedSimpArgs false
set_option linter.unusedVariables false
namespace Go.Proofs.YtdoppkjoemlhjaaDoor.Sh
open Go Go.Mx
theorem map_inj {l l' : List V} (h : ∀ v ∈ l, ∀ w, dV v = dV w → v = w) (e : l.map dV = l'.map dV) : l = l' := by
  induction l generalizing l' with
  | nil =>
    cases l' with
    | nil => rfl
    | cons b r => simp at e
  | cons a l ih =>
    cases l' with
    | nil => simp at e
    | cons b r =>
      simp only [List.map_cons, List.cons.injEq] at e
      rw [h a (List.mem_cons_self ..) b e.1, ih (fun v hv => h v (List.mem_cons_of_mem _ hv)) e.2]
theorem dlist_inj {k : RowK} {a b : List D} (h : dlist k a = dlist k b) : a = b := by
  cases a <;> cases b <;> simp_all [dlist]
theorem dV_inj (v : V) (hf : Fit v) : ∀ w, dV v = dV w → v = w := by
  induction hf with
  | mk f n s ks h hk ih =>
    intro w e
    cases w with
    | mk f' n' s' ks' =>
      rw [dV_eq, dV_eq] at e
      simp only [V.form, V.n, V.name, V.kids, D.agg.injEq, List.cons.injEq, D.int.injEq, D.str.injEq, true_and, and_true] at e
      obtain ⟨e1, e2, e3, e4⟩ := e
      rw [e1, e2, e3, map_inj ih (dlist_inj e4)]
/-- A value whose print is not too long. -/
def Printable (v : V) : Prop := FitN v ∧ (told v 40 = true → (ptext v false).length < 1000000000)
open Classical in
noncomputable def xPrint (ds : List D) : Option (List UInt8) := if h : ∃ v, Printable v ∧ ds = [dV v] then some (pprint (Classical.choose h)) else none
theorem xPrint_dV {v : V} (h : Printable v) : xPrint [dV v] = some (pprint v) := by
  have hx : ∃ w, Printable w ∧ [dV v] = [dV w] := ⟨v, h, rfl⟩
  unfold xPrint
  rw [dif_pos hx]
  have hs := Classical.choose_spec hx
  have : v = Classical.choose hx := dV_inj v h.1.fit _ (by simpa using hs.2)
  rw [← this]
def Γt : FuncId → Option AFun := fun f => ifB (f == 14 || f == 24 || f == 12) none (Γl f)
noncomputable def Xt : CallF := fun f ds σ => match f with
  | 14 => ifB ds.isEmpty (some (.ret ⟨false, .bool true⟩, σ)) none
  | 12 => bindO (xPrint ds) fun s => some (.ret ⟨false, .str s⟩, σ)
  | f => Xu Xl f ds σ
theorem Γt_holds : Holds Tryd.prog Γt := by
  intro f af h
  unfold Γt at h
  cases hf : (f == 14 || f == 24 || f == 12) with
  | true => rw [hf] at h; cases h
  | false => rw [hf] at h; exact Γl_holds f af h
theorem Xt_sound : CSound Tryd.prog κ Xt := by
  intro f ds σ out σ' h
  unfold Xt at h
  split at h
  · obtain ⟨h1, h2⟩ := ifB_some h
    cases h2
    cases ds with
    | nil => exact lives_ok σ
    | cons d l => cases h1
  · obtain ⟨s, h1, h2⟩ := bindO_some h
    cases h2
    unfold xPrint at h1
    split at h1
    · rename_i hx
      cases h1
      obtain ⟨k1, k2⟩ := Classical.choose_spec hx
      generalize Classical.choose hx = v at k1 k2
      rw [k2]
      exact print_ok v k1.1 k1.2 σ
    · cases h1
  · exact Xu_sound Xl_sound _ _ _ _ _ h
/-- The program, with so much fuel. -/
noncomputable def T (n : Nat) : CallF := runQ Γt Rl Xt n false
noncomputable def TD (n : Nat) : CallF := runQ Γt Rl Xt n true
theorem T_sound (n : Nat) : CSound Tryd.prog κ (T n) := (run_sound Γt_holds Rl_sound Xt_sound n).1
theorem T_fun {n : Nat} {f : FuncId} {af : AFun} {ds : List D} {σ : Store} (h : Γt f = some af) (hl : ds.length = af.nargs) : T (n + 1) f ds σ = finX Rl (TD n) af σ.next (exec (T n) n af.body (initEnv ds) σ) := runQ_fun h hl
theorem T_lib {n : Nat} {f : FuncId} {ds : List D} {σ : Store} (h : Γt f = none) : T (n + 1) f ds σ = Xt f ds σ := runQ_lib h
theorem lives_run : Evly fun n => ∀ σ, T n 14 [] σ = some (.ret ⟨false, .bool true⟩, σ) := (Evly.all (p := fun _ => True) fun _ => trivial).step 0 fun n _ _ σ => by rw [T_lib rfl]; rfl
theorem pupper_run : Evly fun n => ∀ s σ, T n 24 [.str s] σ = some (.ret ⟨false, .bool (upperB s)⟩, σ) := (Evly.all (p := fun _ => True) fun _ => trivial).step 0 fun n _ _ s σ => by rw [T_lib rfl]; rfl
theorem pprint_run : Evly fun n => ∀ v, Printable v → ∀ σ, T n 12 [dV v] σ = some (.ret ⟨false, .str (pprint v)⟩, σ) := (Evly.all (p := fun _ => True) fun _ => trivial).step 0 fun n _ _ v hv σ => by
  rw [T_lib rfl]
  show bindO (xPrint [dV v]) _ = _
  rw [xPrint_dV hv]
  rfl
end Go.Proofs.YtdoppkjoemlhjaaDoor.Sh
