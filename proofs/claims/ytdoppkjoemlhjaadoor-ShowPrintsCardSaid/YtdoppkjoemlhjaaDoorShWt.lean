/-
  How much a value weighs: a bound on its lists, its nesting, its print.
-/
import Derived.Test.YtdoppkjoemlhjaaDoorShRun
set_option linter.unusedSimpArgs false
set_option linter.unusedVariables false
namespace Go.Proofs.YtdoppkjoemlhjaaDoor.Sh
open Go Go.Mx
mutual
def wt : V → Nat
  | .mk _ _ s ks => 30 + s.length + wts ks
def wts : List V → Nat
  | [] => 0
  | k :: r => wt k + wts r
end
theorem wt_mem : ∀ {l : List V} {k : V}, k ∈ l → wt k ≤ wts l
  | a :: l, k, h => by
    rw [wts]
    rcases List.mem_cons.1 h with e | h
    · rw [e]; omega
    · have := wt_mem h; omega
theorem wts_len : ∀ l : List V, l.length ≤ wts l
  | [] => Nat.le_refl _
  | a :: l => by
    cases a with
    | mk f n s ks =>
      rw [wts, wt]
      have := wts_len l
      simp only [List.length_cons]
      omega
theorem wts_append : ∀ l m : List V, wts (l ++ m) = wts l + wts m
  | [], m => by simp [wts]
  | a :: l, m => by simp only [List.cons_append, wts, wts_append l m]; omega
theorem wts_take_drop (l : List V) (i : Nat) : wts (l.take i) + wts (l.drop i) = wts l := by
  rw [← wts_append, List.take_append_drop]
mutual
theorem fit_wt : ∀ v : V, wt v < 1000000 → Fit v
  | .mk f n s ks, h => by
    rw [wt] at h
    have := wts_len ks
    exact .mk f n s ks (by omega) (fits_wt ks (by omega))
theorem fits_wt : ∀ l : List V, wts l < 1000000 → ∀ k ∈ l, Fit k
  | [], _, k, hk => by cases hk
  | a :: l, h, k, hk => by
    rw [wts] at h
    rcases List.mem_cons.1 hk with e | hk
    · rw [e]; exact fit_wt a (by omega)
    · exact fits_wt l (by omega) k hk
end
/-- All numbers are a machine's. -/
inductive Nums : V → Prop
  | mk (f n : Int) (s : List UInt8) (ks : List V) (hn : Small' n) (hk : ∀ k ∈ ks, Nums k) : Nums (.mk f n s ks)
theorem fitN_of {v : V} (h : Nums v) (hw : wt v < 1000000) : FitN v := by
  induction h with
  | mk f n s ks hn hk ih =>
    rw [wt] at hw
    have := wts_len ks
    exact .mk f n s ks (by omega) hn fun k hk' => ih k hk' (by have := wt_mem hk'; omega)
theorem digF_len : ∀ (k n : Nat) (acc : List UInt8), (digF k n acc).length ≤ k + acc.length
  | 0, _, acc => by simp [digF]
  | k + 1, n, acc => by
    rw [digF]
    cases decide (n < 10) with
    | true => simp only [ifB_true, List.length_cons]; omega
    | false =>
      have := digF_len k (n / 10) (UInt8.ofNat (48 + n % 10) :: acc)
      simp only [ifB_false, List.length_cons] at this ⊢
      omega
theorem itoaN_len (n : Int) : (itoaN n).length ≤ 21 := by
  cases n with
  | ofNat m => have := digF_len 20 m []; simp only [itoaN, digN, List.length_nil] at this ⊢; omega
  | negSucc m => have := digF_len 20 (m + 1) []; simp only [itoaN, digN, List.length_cons, List.length_nil] at this ⊢; omega
theorem phead_len (f n : Int) (s : List UInt8) : (phead f n s).length ≤ 21 + s.length := by
  unfold phead
  have := itoaN_len n
  cases f == 2 <;> cases f == 3 <;> cases f == 4 <;> simp only [ifB_true, ifB_false, List.length_cons, List.length_nil] <;> omega
mutual
theorem ptext_len : ∀ (v : V) (w : Bool), (ptext v w).length + 1 ≤ wt v
  | .mk f n s ks, w => by
    rw [ptext, wt]
    have h1 := phead_len f n s
    have h2 := ptexts_len ks
    cases (w && (decide (0 < ks.length) || decide (n < 0))) <;> simp only [ifB_true, ifB_false, List.length_append, List.length_cons, List.length_nil] <;> omega
theorem ptexts_len : ∀ l : List V, (ptexts l).length ≤ wts l
  | [] => Nat.le_refl _
  | k :: r => by
    rw [ptexts, wts]
    have h1 := ptext_len k true
    have h2 := ptexts_len r
    simp only [List.length_append, List.length_cons, List.length_nil]
    omega
end
theorem printable_of {v : V} (h : Nums v) (hw : wt v < 1000000) : Printable v :=
  ⟨fitN_of h hw, fun _ => by have := ptext_len v false; omega⟩
end Go.Proofs.YtdoppkjoemlhjaaDoor.Sh
