/-
  How much a value weighs: a bound on its lists, its nesting, its print.
-/
import Derived.Test.YtdoppkjoemlhjaaDoorShPrint
set_option linter.unusedSimpArgs false
set_option linter.unusedVariables false
namespace Go.Proofs.YtdoppkjoemlhjaaDoor.Sh
open Go Go.Mx
mutual
def wt : V → Nat
  | .mk _ _ s ks => 30 + s.length + wts ks
def wts : List V → Nat
  | [] => 0
  | k :: r => wt k + wts r
end
theorem wt_mem : ∀ {l : List V} {k : V}, k ∈ l → wt k ≤ wts l
  | a :: l, k, h => by
    rw [wts]
    rcases List.mem_cons.1 h with e | h
    · rw [e]; omega
    · have := wt_mem h; omega
theorem wts_len : ∀ l : List V, l.length ≤ wts l
  | [] => Nat.le_refl _
  | a :: l => by
    cases a with
    | mk f n s ks =>
      rw [wts, wt]
      have := wts_len l
      simp only [List.length_cons]
      omega
theorem wts_append : ∀ l m : List V, wts (l ++ m) = wts l + wts m
  | [], m => by simp [wts]
  | a :: l, m => by simp only [List.cons_append, wts, wts_append l m]; omega
theorem wts_take_drop (l : List V) (i : Nat) : wts (l.take i) + wts (l.drop i) = wts l := by
  rw [← wts_append, List.take_append_drop]
mutual
theorem fit_wt : ∀ v : V, wt v < 1000000 → Fit v
  | .mk f n s ks, h => by
    rw [wt] at h
    have := wts_len ks
    exact .mk f n s ks (by omega) (fits_wt ks (by omega))
theorem fits_wt : ∀ l : List V, wts l < 1000000 → ∀ k ∈ l, Fit k
  | [], _, k, hk => by cases hk
  | a :: l, h, k, hk => by
    rw [wts] at h
    rcases List.mem_cons.1 hk with e | hk
    · rw [e]; exact fit_wt a (by omega)
    · exact fits_wt l (by omega) k hk
end
/-- All numbers are a machine's. -/
inductive Nums : V → Prop
  | mk (f n : Int) (s : List UInt8) (ks : List V) (hn : Small' n) (hk : ∀ k ∈ ks, Nums k) : Nums (.mk f n s ks)
theorem fitN_of {v : V} (h : Nums v) (hw : wt v < 1000000) : FitN v := by
  induction h with
  | mk f n s ks hn hk ih =>
    rw [wt] at hw
    have := wts_len ks
    exact .mk f n s ks (by omega) hn fun k hk' => ih k hk' (by have := wt_mem hk'; omega)
theorem digF_len : ∀ (k n : Nat) (acc : List UInt8), (digF k n acc).length ≤ k + acc.length
  | 0, _, acc => by simp [digF]
  | k + 1, n, acc => by
    rw [digF]
    cases decide (n < 10) with
    | true => simp only [ifB_true, List.length_cons]; omega
    | false =>
      have := digF_len k (n / 10) (UInt8.ofNat (48 + n % 10) :: acc)
      simp only [ifB_false, List.length_cons] at this ⊢
      omega
theorem itoaN_len (n : Int) : (itoaN n).length ≤ 21 := by
  cases n with
  | ofNat m => have := digF_len 20 m []; simp only [itoaN, digN, List.length_nil] at this ⊢; omega
  | negSucc m => have := digF_len 20 (m + 1) []; simp only [itoaN, digN, List.length_cons, List.length_nil] at this ⊢; omega
theorem phead_len (f n : Int) (s : List UInt8) : (phead f n s).length ≤ 21 + s.length := by
  unfold phead
  have := itoaN_len n
  cases f == 2 <;> cases f == 3 <;> cases f == 4 <;> simp only [ifB_true, ifB_false, List.length_cons, List.length_nil] <;> omega
mutual
theorem ptext_len : ∀ (v : V) (w : Bool), (ptext v w).length + 1 ≤ wt v
  | .mk f n s ks, w => by
    rw [ptext, wt]
    have h1 := phead_len f n s
    have h2 := ptexts_len ks
    cases (w && (decide (0 < ks.length) || decide (n < 0))) <;> simp only [ifB_true, ifB_false, List.length_append, List.length_cons, List.length_nil] <;> omega
theorem ptexts_len : ∀ l : List V, (ptexts l).length ≤ wts l
  | [] => Nat.le_refl _
  | k :: r => by
    rw [ptexts, wts]
    have h1 := ptext_len k true
    have h2 := ptexts_len r
    simp only [List.length_append, List.length_cons, List.length_nil]
    omega
end
end Go.Proofs.YtdoppkjoemlhjaaDoor.Sh

/-
  May a value be told, by the document: as functions on values.
-/
namespace Go.Proofs.YtdoppkjoemlhjaaDoor.Sh
open Go Go.Mx
mutual
def good : V → Bool
  | .mk f n s ks => ifB (f == 2) (s == [] && ks.length == 0) (ifB (f == 3) (s == [] && ks.length == 0 && n == 0) (ifB (f == 4) (s == [] && ks.length == 0 && n == 0) (ifB (f == 1) (n == 0 && upperB s && decide (ks.length ≤ 8) && goods ks) false)))
def goods : List V → Bool
  | [] => true
  | k :: r => good k && goods r
end
mutual
def nested : V → Nat
  | .mk f _ _ ks => ifB (f == 1) (nesteds ks + 1) (nesteds ks)
def nesteds : List V → Nat
  | [] => 0
  | k :: r => max (nested k) (nesteds r)
end
def atG (ks : List V) (i : Nat) : Bool := match ks[i]? with
  | some k => good k
  | none => true
theorem atG_get {ks : List V} {i : Nat} (h : i < ks.length) : atG ks i = good ks[i] := by simp [atG, h]
theorem goods_eq : ∀ l : List V, goods l = l.all good
  | [] => rfl
  | k :: r => by rw [goods, goods_eq r]; rfl
theorem goods_true {ks : List V} (h : ∀ i, 0 ≤ i → i < ks.length → atG ks i = true) : goods ks = true := by
  rw [goods_eq, List.all_eq_true]
  intro k hk
  obtain ⟨i, hi, rfl⟩ := List.getElem_of_mem hk
  have := h i (Nat.zero_le _) hi
  rw [atG_get hi] at this
  exact this
theorem goods_false {ks : List V} {i : Nat} (hi : i < ks.length) (h : atG ks i = false) : goods ks = false := by
  cases hx : goods ks with
  | false => rfl
  | true =>
    rw [goods_eq, List.all_eq_true] at hx
    rw [atG_get hi] at h
    have := hx _ (List.getElem_mem hi)
    rw [this] at h
    cases h
theorem nesteds_take (ks : List V) (i : Nat) (h : i < ks.length) : nesteds (ks.take (i + 1)) = max (nesteds (ks.take i)) (nested ks[i]) := by
  induction ks generalizing i with
  | nil => simp at h
  | cons k r ih =>
    cases i with
    | zero => simp [nesteds]
    | succ i => simp only [List.take_succ_cons, nesteds, ih i (by simpa using h), List.getElem_cons_succ]; omega
mutual
theorem nested_wt : ∀ v : V, nested v ≤ wt v
  | .mk f n s ks => by
    rw [nested, wt]
    have := nesteds_wt ks
    cases f == 1 <;> simp only [ifB_true, ifB_false] <;> omega
theorem nesteds_wt : ∀ l : List V, nesteds l ≤ wts l
  | [] => Nat.le_refl _
  | k :: r => by
    rw [nesteds, wts]
    have := nested_wt k
    have := nesteds_wt r
    omega
end
mutual
theorem told_may : ∀ (v : V) (d : Nat), told v d = (good v && decide (nested v ≤ d))
  | .mk f n s ks, d => by
    have hN : nested (.mk f n s ks) = ifB (f == 1) (nesteds ks + 1) (nesteds ks) := by rw [nested]
    have hbare : ks.length = 0 → f ≠ 1 → nested (.mk f n s ks) ≤ d := fun h0 h1 => by
      rw [hN, show (f == 1) = false by simpa using h1, ifB_false]
      cases ks with
      | nil => simp [nesteds]
      | cons k r => simp at h0
    rw [told, good]
    generalize nested (.mk f n s ks) = N at *
    cases h2 : f == 2 with
    | true =>
      simp only [ifB_true]
      by_cases h0 : ks.length = 0
      · rw [decide_eq_true (hbare h0 (by simp at h2; omega)), Bool.and_true]
      · have : (ks.length == 0) = false := by simpa using h0
        rw [this]; simp
    | false =>
    cases h3 : f == 3 with
    | true =>
      simp only [ifB_true, ifB_false]
      by_cases h0 : ks.length = 0
      · rw [decide_eq_true (hbare h0 (by simp at h3; omega)), Bool.and_true]
      · have : (ks.length == 0) = false := by simpa using h0
        rw [this]; simp
    | false =>
    cases h4 : f == 4 with
    | true =>
      simp only [ifB_true, ifB_false]
      by_cases h0 : ks.length = 0
      · rw [decide_eq_true (hbare h0 (by simp at h4; omega)), Bool.and_true]
      · have : (ks.length == 0) = false := by simpa using h0
        rw [this]; simp
    | false =>
    cases h1 : f == 1 with
    | false => simp only [ifB_false, Bool.false_and]
    | true =>
      rw [h1, ifB_true] at hN
      simp only [ifB_true, ifB_false]
      rw [tolds_may ks (d - 1)]
      cases d with
      | zero =>
        have : decide (N ≤ 0) = false := by simp; omega
        rw [this]; simp
      | succ d =>
        have e : decide (N ≤ d + 1) = decide (nesteds ks ≤ d) := by apply decide_eq_decide.2; omega
        have e2 : (d + 1 != 0) = true := by simp
        rw [e, e2, Nat.add_sub_cancel]
        cases n == 0 <;> cases upperB s <;> cases decide (ks.length ≤ 8) <;> cases goods ks <;> simp
theorem tolds_may : ∀ (l : List V) (d : Nat), tolds l d = (goods l && decide (nesteds l ≤ d))
  | [], d => by simp [tolds, goods, nesteds]
  | k :: r, d => by
    rw [tolds, goods, nesteds, told_may k d, tolds_may r d]
    have e : decide (max (nested k) (nesteds r) ≤ d) = (decide (nested k ≤ d) && decide (nesteds r ≤ d)) := by rw [← Bool.decide_and]; apply decide_eq_decide.2; omega
    rw [e]
    cases good k <;> cases goods r <;> cases decide (nested k ≤ d) <;> simp
end
end Go.Proofs.YtdoppkjoemlhjaaDoor.Sh

