/-
  The program with some functions told by what is known of them; the document's example runs.
-/
import Derived.Test.YtmhedpkbfaginaaGreatDoorFlRun
import Derived.Test.YtmhedpkbfaginaaGreatDoorFlC
import Derived.Test.YtmhedpkbfaginaaGreatDoorMyFrame
set_option maxHeartbeats 4000000
set_option linter.unusedSimpArgs false
set_option linter.unusedVariables false
set_option linter.unusedSectionVars false
namespace Go.Fu
open Go Go.Mx
set_option maxRecDepth 1000000
def κ : Ctx where
  n := 0
  K := fun _ => True
  stable := fun _ _ _ _ => trivial
abbrev OkP (f : FuncId) (ds : List D) (c : Cell) : Prop := Pure Go.Proofs.Tryz.prog κ f ds c
noncomputable def T (S : Specs) (n : Nat) : CallF := runS Go.Proofs.Tryz.prog κ Γa Ra Xa S n
noncomputable def TD (S : Specs) (n : Nat) : CallF := runSD Go.Proofs.Tryz.prog κ Γa Ra Xa S n
theorem T_sound (S : Specs) (n : Nat) : CSound Go.Proofs.Tryz.prog κ (T S n) := (runS_sound Γa_holds Ra_sound Xa_sound n).1
theorem T_fun {S : Specs} {n : Nat} {f : FuncId} {af : AFun} {ds : List D} {σ : Store} (hs : has S f = false) (h : Γa f = some af) (hl : ds.length = af.nargs) : T S (n + 1) f ds σ = finX Ra (TD S n) af σ.next (exec (T S n) n none af.body (initEnv ds) σ) := runS_fun hs h hl
theorem T_orc {S : Specs} {f : FuncId} {s : List D → Cell → Prop} {ds : List D} {c : Cell} (hf : aget S f = some s) (hY : isY f = false) (hs : s ds c) (hp : OkP f ds c) : ∃ c', s ds c' ∧ ∀ n σ, T S (n + 1) f ds σ = some (.ret c', σ) := runS_orc hf hY hs hp
theorem pure_fun {C : CallF} {n : Nat} {f : FuncId} {af : AFun} {ds : List D} {c : Cell} {σ' : Store} (hC : CSound Go.Proofs.Tryz.prog κ C) (h : Γa f = some af) (hl : ds.length = af.nargs) (hd : noPtrL ds = true) (hc : noPtr c.d = true)
    (hr : finX Ra (fun _ _ _ => none) af 0 (exec C n none af.body (initEnv ds) σ0) = some (.ret c, σ')) : OkP f ds c := by
  obtain ⟨hY, fn, hfn, hok⟩ := Γa_holds f af h
  refine pure_of_run hC Ra_sound hY hfn hok hl hd hc (n := n) (σ' := σ') ?_
  unfold finX at hr
  exact hr
theorem OkP.weak {f : FuncId} {ds : List D} {o : Bool} {d : D} (hY : isY f = false) (h : OkP f ds ⟨o, d⟩) : OkP f ds ⟨false, d⟩ := Pure.weak hY h
theorem wrap64 {n : Int} (h1 : -9223372036854775808 ≤ n) (h2 : n ≤ 9223372036854775807) : IntKind.i64.wrap n = n := by
  simp [IntKind.wrap, IntKind.bits, IntKind.signed]
  omega
theorem wrap64_succ {i : Nat} (h : i < 1099511627776) : IntKind.i64.wrap ((i : Int) + 1) = ((i + 1 : Nat) : Int) := by
  rw [wrap64 (by omega) (by omega)]
  rfl
def Small (x : Int) : Prop := -9223372036854775808 ≤ x ∧ x ≤ 9223372036854775807
theorem nat1 {k : IntKind} : D.nat? (.int k 1) = some 1 := rfl
theorem nat2 {k : IntKind} : D.nat? (.int k 2) = some 2 := rfl
theorem nat3 {k : IntKind} : D.nat? (.int k 3) = some 3 := rfl
theorem nat4 {k : IntKind} : D.nat? (.int k 4) = some 4 := rfl
theorem nat5 {k : IntKind} : D.nat? (.int k 5) = some 5 := rfl
theorem nat0 {k : IntKind} : D.nat? (.int k 0) = some 0 := rfl
theorem natI (n : Nat) {k : IntKind} : D.nat? (.int k (n : Int)) = some n := by
  simp only [D.nat?]
  have : (0 : Int) ≤ (n : Int) := by omega
  rw [decide_eq_true this]
  rfl
theorem idxL {sz n : Nat} {k : RowK} {es : List D} : indexD sz (.list k es) n = ifB (k.sz == sz) (bindO (nth es n) fun d => some (.eptr d)) none := rfl
theorem zeroI : ((0 : Nat) : Int) = 0 := rfl
theorem oneI : ((1 : Nat) : Int) = 1 := rfl
theorem take_snoc {α : Type} (l : List α) (i : Nat) (h : i < l.length) : l.take i ++ [l[i]] = l.take (i + 1) := by
  rw [List.take_add_one, List.getElem?_eq_getElem h]
  simp
def ow : Nat → Bool
  | 0 => false
  | _ + 1 => true
theorem ow_ne {α : Type} {l : List α} {i : Nat} : l.take i ≠ [] → ow i = true := by
  cases i with
  | zero => intro h; simp at h
  | succ i => intro _; rfl
theorem ow_succ {i : Nat} : ow (i + 1) = true := rfl
theorem ow_zero : ow 0 = false := rfl
theorem idx_map {α : Type} {k : RowK} {sz : Nat} (hs : k.sz = sz) (f : α → D) (l : List α) (i : Nat) (h : i < l.length) : indexD sz (dlist k (l.map f)) i = some (.eptr (f l[i])) := by
  have hn : nth (l.map f) i = some (f l[i]) := by rw [nth_map, nth_get _ _ h]; rfl
  cases l with
  | nil => simp at h
  | cons x r =>
    simp only [List.map_cons, dlist, indexD, hs, beq_self_eq_true, ifB_true] at hn ⊢
    rw [hn]
    rfl
theorem len_map {α : Type} {k : RowK} (f : α → D) (l : List α) : lenOf (dlist k (l.map f)) = some l.length := by
  cases l with
  | nil => rfl
  | cons x r => simp [dlist, lenOf]
theorem append_map {α : Type} {k : RowK} {by_ : Nat} {f : α → D} (hok : ∀ a, (f a).ok = true) (hsz : ∀ a, (f a).cells.length = k.sz) (hb : by_ ≤ 1024) (l : List α) (v : α) (o : Bool) (ho : l ≠ [] → o = true) (hl : l.length < 1000000000) : appendD k by_ ⟨o, dlist k (l.map f)⟩ [f v] = some ⟨true, dlist k ((l ++ [v]).map f)⟩ := by
  have h1 : (l.length + 1) * by_ ≤ 1000000000 * 1024 := Nat.mul_le_mul (by omega) hb
  rw [append_one (fun h => ho (by simpa using h)) (hok _) (hsz _) (by simp [bound]; omega) (by simp [bound]; omega)]
  simp
theorem loopN_succ {body : Env → Store → XRes} {n : Nat} {e : Env} {σ : Store} {e' : Env} {σ' : Store} (h : body e σ = some (.normal, e', σ')) : loopN body (n + 1) e σ = loopN body n e' σ' := by rw [loopN, h]
theorem loopN_stop {body : Env → Store → XRes} {n : Nat} {e : Env} {σ : Store} {e' : Env} {σ' : Store} {i : Nat} (h : body e σ = some (.exit i, e', σ')) : loopN body (n + 1) e σ = some (.exit i, e', σ') := by rw [loopN, h]
theorem loopN_ret {body : Env → Store → XRes} {n : Nat} {e : Env} {σ : Store} {e' : Env} {σ' : Store} (h : body e σ = some (.ret, e', σ')) : loopN body (n + 1) e σ = some (.ret, e', σ') := by rw [loopN, h]
end Go.Fu
