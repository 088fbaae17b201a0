/-
  How the small machine's data lie in a world: the relations, and what keeps them.
-/
import Derived.WalkKit
import Derived.Test.YtdoppkjoemlhjaaDoorMxCore
set_option linter.unusedSimpArgs false
set_option linter.unusedVariables false
namespace Go.Mx
open Go

abbrev Imm := Nat → Nat → Option Value

/-- The cells of a value lie, never to change, at a place. -/
def At (ι : Imm) (b o : Nat) (v : Value) : Prop := ∀ i x, v.cells[i]? = some x → ι b (o + i) = some x

mutual
def Rep (ι : Imm) (j : Nat → Option Nat) : D → Value → Prop
  | .undef, v => v = Go.undef
  | .bool b, v => v = .bool b
  | .int k n, v => v = .int k n
  | .str s, v => v = .string ⟨⟨s⟩⟩
  | .nils, v => v = .slice none 0 0
  | .list sz es, v => ∃ a cap, v = .slice a es.length cap ∧ es.length ≤ cap ∧ cap ≤ maxLen ∧ (es = [] ∨ ∃ b o, a = some ⟨b, o, none⟩ ∧ RepRow ι j sz.sz es b o)
  | .agg cs, v => ∃ vs, v = .agg ⟨vs⟩ ∧ RepL ι j cs vs ∧ ∀ x ∈ vs, x.oneCell' = true
  | .tup ds, v => ∃ vs, v = .tuple ⟨vs⟩ ∧ RepL ι j ds vs
  | .nilp, v => v = .pointer none
  | .ptr id off, v => ∃ b, j id = some b ∧ v = .pointer (some ⟨b, off, none⟩)
  | .eptr d, v => ∃ b o x, v = .pointer (some ⟨b, o, none⟩) ∧ At ι b o x ∧ Rep ι j d x
  | .fn f first caps, v => ∃ vf vc, v = .func f ⟨vf⟩ ⟨vc⟩ ∧ RepL ι j first vf ∧ RepL ι j caps vc
  | .nilfn, v => v = .nilFunc
  | .iface t d, v => ∃ x, v = .iface t x ∧ Rep ι j d x
  | .niliface, v => v = .nilIface
  | .junk, _ => True
def RepL (ι : Imm) (j : Nat → Option Nat) : List D → List Value → Prop
  | [], vs => vs = []
  | d :: ds, vs => ∃ x r, vs = x :: r ∧ Rep ι j d x ∧ RepL ι j ds r
def RepRow (ι : Imm) (j : Nat → Option Nat) (sz : Nat) : List D → Nat → Nat → Prop
  | [], _, _ => True
  | d :: ds, b, o => (∃ x, At ι b o x ∧ x.cells.size = sz ∧ Rep ι j d x) ∧ RepRow ι j sz ds b (o + sz)
end

section mono
variable {ι ι' : Imm} {j j' : Nat → Option Nat}
theorem At.mono (hι : ∀ b o v, ι b o = some v → ι' b o = some v) {b o : Nat} {v : Value} (h : At ι b o v) : At ι' b o v := fun i x hx => hι _ _ _ (h i x hx)
mutual
theorem Rep.mono (hι : ∀ b o v, ι b o = some v → ι' b o = some v) (hj : ∀ i b, j i = some b → j' i = some b) : ∀ (d : D) (v : Value), Rep ι j d v → Rep ι' j' d v
  | .undef, _, h | .bool _, _, h | .int _ _, _, h | .str _, _, h | .nils, _, h | .nilp, _, h | .nilfn, _, h | .niliface, _, h => by simpa only [Rep] using h
  | .junk, _, _ => by simp only [Rep]
  | .list sz es, v, h => by
    simp only [Rep] at h ⊢
    obtain ⟨a, cap, h1, h2, h3, h4⟩ := h
    refine ⟨a, cap, h1, h2, h3, ?_⟩
    rcases h4 with h4 | ⟨b, o, ha, hr⟩
    · exact .inl h4
    · exact .inr ⟨b, o, ha, RepRow.mono hι hj sz.sz es b o hr⟩
  | .agg cs, v, h => by
    simp only [Rep] at h ⊢
    obtain ⟨vs, h1, h2, h3⟩ := h
    exact ⟨vs, h1, RepL.mono hι hj cs vs h2, h3⟩
  | .tup ds, v, h => by
    simp only [Rep] at h ⊢
    obtain ⟨vs, h1, h2⟩ := h
    exact ⟨vs, h1, RepL.mono hι hj ds vs h2⟩
  | .ptr id off, v, h => by
    simp only [Rep] at h ⊢
    obtain ⟨b, h1, h2⟩ := h
    exact ⟨b, hj _ _ h1, h2⟩
  | .eptr d, v, h => by
    simp only [Rep] at h ⊢
    obtain ⟨b, o, x, h1, h2, h3⟩ := h
    exact ⟨b, o, x, h1, h2.mono hι, Rep.mono hι hj d x h3⟩
  | .fn f first caps, v, h => by
    simp only [Rep] at h ⊢
    obtain ⟨vf, vc, h1, h2, h3⟩ := h
    exact ⟨vf, vc, h1, RepL.mono hι hj first vf h2, RepL.mono hι hj caps vc h3⟩
  | .iface t d, v, h => by
    simp only [Rep] at h ⊢
    obtain ⟨x, h1, h2⟩ := h
    exact ⟨x, h1, Rep.mono hι hj d x h2⟩
theorem RepL.mono (hι : ∀ b o v, ι b o = some v → ι' b o = some v) (hj : ∀ i b, j i = some b → j' i = some b) : ∀ (ds : List D) (vs : List Value), RepL ι j ds vs → RepL ι' j' ds vs
  | [], _, h => by simpa only [RepL] using h
  | d :: ds, vs, h => by
    simp only [RepL] at h ⊢
    obtain ⟨x, r, h1, h2, h3⟩ := h
    exact ⟨x, r, h1, Rep.mono hι hj d x h2, RepL.mono hι hj ds r h3⟩
theorem RepRow.mono (hι : ∀ b o v, ι b o = some v → ι' b o = some v) (hj : ∀ i b, j i = some b → j' i = some b) (sz : Nat) : ∀ (ds : List D) (b o : Nat), RepRow ι j sz ds b o → RepRow ι' j' sz ds b o
  | [], _, _, _ => by simp only [RepRow]
  | d :: ds, b, o, h => by
    simp only [RepRow] at h ⊢
    obtain ⟨⟨x, h1, h2, h3⟩, h4⟩ := h
    exact ⟨⟨x, h1.mono hι, h2, Rep.mono hι hj d x h3⟩, RepRow.mono hι hj sz ds b (o + sz) h4⟩
end
end mono

/-! ### Small facts -/
theorem nth_eq {α : Type} : ∀ (l : List α) (i : Nat), nth l i = l[i]?
  | [], _ => by simp [nth]
  | _ :: _, 0 => by simp [nth]
  | _ :: l, n + 1 => by simp [nth, nth_eq l n]
theorem aget_nil {α : Type} (s : Nat) : aget ([] : List (Nat × α)) s = none := rfl
theorem aget_cons {α : Type} (k : Nat) (v : α) (r : List (Nat × α)) (s : Nat) : aget ((k, v) :: r) s = if k = s then some v else aget r s := by
  by_cases h : k = s
  · subst h; simp [aget, ifB]
  · have : (k == s) = false := by simpa using h
    simp [aget, ifB, this, h]
theorem aget_aset {α : Type} : ∀ (l : List (Nat × α)) (s t : Nat) (x : α), aget (aset l s x) t = if s = t then some x else aget l t
  | [], s, t, x => by simp [aset, aget_cons, aget_nil]
  | (k, v) :: r, s, t, x => by
    by_cases h : k = s
    · subst h
      have : (k == k) = true := by simp
      simp only [aset, this, ifB_true, aget_cons]
      split <;> rfl
    · have : (k == s) = false := by simpa using h
      simp only [aset, this, ifB_false, aget_cons, aget_aset r s t x]
      by_cases h1 : k = t
      · subst h1
        simp only [if_true]
        rw [if_neg (fun e => h e.symm)]
      · simp only [h1, if_false]
theorem aget_adel1 {α : Type} : ∀ (l : List (Nat × α)) (s t : Nat), aget (adel1 l s) t = if s = t then none else aget l t
  | [], s, t => by simp [adel1, aget_nil]
  | (k, v) :: r, s, t => by
    by_cases h : k = s
    · subst h
      have : (k == k) = true := by simp
      simp only [adel1, this, ifB_true, aget_cons, aget_adel1 r k t]
      split <;> rfl
    · have : (k == s) = false := by simpa using h
      simp only [adel1, this, ifB_false, aget_cons, aget_adel1 r s t]
      by_cases h1 : k = t
      · subst h1
        simp only [if_true]
        rw [if_neg (fun e => h e.symm)]
      · simp only [h1, if_false]
theorem aget_adel {α : Type} : ∀ (l : List (Nat × α)) (c : List Nat) (t : Nat) (x : α), aget (adel l c) t = some x → aget l t = some x
  | [], _, _, _, h => by simp [adel, aget_nil] at h
  | (k, v) :: r, c, t, x, h => by
    simp only [adel] at h
    cases hm : mem c k with
    | true =>
      rw [hm, ifB_true] at h
      -- the key is struck wherever it stands: what is left at t stood behind it
      have h' := aget_adel r c t x h
      rw [aget_cons]
      by_cases hk : k = t
      · subst hk
        exfalso
        have key : ∀ (l : List (Nat × α)), aget (adel l c) k = none := by
          intro l
          induction l with
          | nil => rfl
          | cons p l ih =>
            obtain ⟨q, u⟩ := p
            simp only [adel]
            cases hq : mem c q with
            | true => rw [ifB_true]; exact ih
            | false =>
              rw [ifB_false, aget_cons]
              by_cases hqk : q = k
              · subst hqk; rw [hm] at hq; cases hq
              · rw [if_neg hqk]; exact ih
        rw [key r] at h
        cases h
      · rw [if_neg hk]; exact h'
    | false =>
      rw [hm, ifB_false, aget_cons] at h
      rw [aget_cons]
      by_cases hk : k = t
      · rw [if_pos hk] at h ⊢; exact h
      · rw [if_neg hk] at h ⊢; exact aget_adel r c t x h
theorem aget_lkill : ∀ (l : List (Nat × (Nat × Nat))) (s t b o : Nat), aget (lkill l s) t = some (b, o) → b ≠ s ∧ aget l t = some (b, o)
  | [], _, _, _, _, h => by simp [lkill, aget_nil] at h
  | (k, (b', o')) :: r, s, t, b, o, h => by
    simp only [lkill] at h
    by_cases hb : b' = s
    · have : (b' == s) = true := by simpa using hb
      rw [this, ifB_true, aget_adel1] at h
      by_cases hk : k = t
      · rw [if_pos hk] at h; cases h
      · rw [if_neg hk] at h
        rw [aget_cons, if_neg hk]
        exact aget_lkill r s t b o h
    · have : (b' == s) = false := by simpa using hb
      rw [this, ifB_false, aget_cons] at h
      rw [aget_cons]
      by_cases hk : k = t
      · rw [if_pos hk] at h ⊢
        cases h
        exact ⟨hb, rfl⟩
      · rw [if_neg hk] at h ⊢
        exact aget_lkill r s t b o h
theorem bindO_some {α β : Type} {x : Option α} {f : α → Option β} {y : β} (h : bindO x f = some y) : ∃ a, x = some a ∧ f a = some y := by
  cases x with
  | none => cases h
  | some a => exact ⟨a, rfl, h⟩
theorem ifB_some {β : Type} {b : Bool} {x : Option β} {y : β} (h : ifB b x none = some y) : b = true ∧ x = some y := by
  cases b with
  | true => exact ⟨rfl, h⟩
  | false => cases h
theorem ifB_some' {β : Type} {b : Bool} {x : Option β} {y : β} (h : ifB b none x = some y) : b = false ∧ x = some y := by
  cases b with
  | true => cases h
  | false => exact ⟨rfl, h⟩
end Go.Mx

