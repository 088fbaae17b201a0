/-
  New names change no canonic form: the plain law.
-/
import Derived.Test.YtkgdpcnobfadaaaGreatDoorFnY5
set_option linter.unusedSimpArgs false
set_option linter.unusedVariables false
namespace Go.Fu
open Go Go.Mx
set_option maxRecDepth 10000
def vOK : Tp → Bool
  | .var s => okV s
  | .app f a => vOK f && vOK a
  | _ => true
theorem zkc : ∀ t : Tp, okA t = true → vOK t = true
  | .var s, h => h
  | .con s, _ => rfl
  | .hole x, _ => rfl
  | .app f a, h => by
    simp only [okA, Bool.and_eq_true] at h
    simp only [vOK, Bool.and_eq_true]
    exact ⟨zkc f h.1, zkc a h.2⟩
theorem zbz {s : List UInt8} {l : List (List UInt8)} : l.contains s = true ↔ s ∈ l := by simp
theorem zmw (s : List UInt8) : ∀ (l out : List (List UInt8)), s ∈ addA out l ↔ s ∈ out ∨ s ∈ l
  | [], out => by simp [addA]
  | x :: l, out => by
    have ih := zmw s l (if out.contains x then out else out ++ [x])
    show s ∈ addA (if out.contains x then out else out ++ [x]) l ↔ _
    rw [ih]
    by_cases h : out.contains x = true
    · rw [if_pos h]
      have := zbz.1 h
      constructor
      · rintro (h1 | h1)
        · exact .inl h1
        · exact .inr (List.mem_cons_of_mem _ h1)
      · rintro (h1 | h1)
        · exact .inl h1
        · rcases List.mem_cons.1 h1 with rfl | h1
          · exact .inl this
          · exact .inr h1
    · rw [if_neg h]
      simp only [List.mem_append, List.mem_cons, List.not_mem_nil, or_false]
      constructor
      · rintro ((h1 | h1) | h1)
        · exact .inl h1
        · exact .inr (.inl h1)
        · exact .inr (.inr h1)
      · rintro (h1 | h1 | h1)
        · exact .inl (.inl h1)
        · exact .inl (.inr h1)
        · exact .inr h1
theorem zd9 (s : List UInt8) (f a : Tp) : s ∈ freeT (.app f a) ↔ s ∈ freeT f ∨ s ∈ freeT a := by
  simp only [freeT, zmw, List.not_mem_nil, false_or]
theorem zc7 : ∀ t : Tp, vOK t = true → ∀ s ∈ freeT t, okV s = true
  | .var x, h, s, hs => by
    simp only [freeT, List.mem_singleton] at hs
    rw [hs]; exact h
  | .con c, _, s, hs => by simp [freeT] at hs
  | .hole x, _, s, hs => by simp [freeT] at hs
  | .app f a, h, s, hs => by
    simp only [vOK, Bool.and_eq_true] at h
    rcases (zd9 s f a).1 hs with h1 | h1
    · exact zc7 f h.1 s h1
    · exact zc7 a h.2 s h1
def rnm (vs : List (List UInt8)) (s : List UInt8) : List UInt8 := match posS s vs with
  | some i => vn i
  | none => s
theorem zht {s : List UInt8} : ∀ {l : List (List UInt8)} {i : Nat}, posS s l = some i → l[i]? = some s
  | [], i, h => by simp [posS] at h
  | x :: l, i, h => by
    simp only [posS] at h
    cases hx : s == x with
    | true =>
      rw [hx, if_pos rfl] at h
      cases h
      have : s = x := by simpa using hx
      simp [this]
    | false =>
      rw [hx, if_neg (by simp)] at h
      cases hp : posS s l with
      | none => rw [hp] at h; simp at h
      | some j =>
        rw [hp] at h
        simp only [Option.map_some, Option.some.injEq] at h
        subst h
        simpa using zht hp
theorem zmm {s : List UInt8} {l : List (List UInt8)} (h : s ∈ l) : ∃ i, posS s l = some i := by
  have := zj6 (s := s) (l := l)
  rw [zbz.2 h] at this
  exact Option.isSome_iff_exists.1 this
theorem zml {s : List UInt8} {l : List (List UInt8)} (h : ¬ s ∈ l) : posS s l = none := by
  have := zj6 (s := s) (l := l)
  cases hp : posS s l with
  | none => rfl
  | some i =>
    rw [hp] at this
    exact absurd (zbz.1 this.symm) h
theorem zigb {i j : Nat} (hi : i < 6) (hj : j < 6) (h : vn i = vn j) : i = j := by
  have hi' : i = 0 ∨ i = 1 ∨ i = 2 ∨ i = 3 ∨ i = 4 ∨ i = 5 := by omega
  have hj' : j = 0 ∨ j = 1 ∨ j = 2 ∨ j = 3 ∨ j = 4 ∨ j = 5 := by omega
  rcases hi' with rfl | rfl | rfl | rfl | rfl | rfl <;> rcases hj' with rfl | rfl | rfl | rfl | rfl | rfl <;> first | rfl | (exact absurd h (by decide))
theorem ztg (i : Nat) (s : List UInt8) (h : okV s = true) : vn i ≠ s := fun e => by
  obtain ⟨c, rfl, _⟩ := zha h
  simp [vn] at e
theorem zoi {vs : List (List UInt8)} {s : List UInt8} (h : s ∈ vs) : ∃ i, posS s vs = some i ∧ i < vs.length ∧ rnm vs s = vn i := by
  obtain ⟨i, hi⟩ := zmm h
  exact ⟨i, hi, zhd hi, by unfold rnm; rw [hi]⟩
theorem zf0 {vs : List (List UInt8)} {s : List UInt8} (h : ¬ s ∈ vs) : rnm vs s = s := by
  unfold rnm
  rw [zml h]
theorem zwv (vs : List (List UInt8)) (hl : vs.length < 6) (a b : List UInt8) (ha : okV a = true) (hb : okV b = true) (h : rnm vs a = rnm vs b) : a = b := by
  by_cases h1 : a ∈ vs
  · obtain ⟨i, hi, hil, hr⟩ := zoi h1
    by_cases h2 : b ∈ vs
    · obtain ⟨j, hj, hjl, hr'⟩ := zoi h2
      rw [hr, hr'] at h
      have := zigb (by omega) (by omega) h
      subst this
      have e1 := zht hi
      have e2 := zht hj
      rw [e1] at e2
      exact Option.some.inj e2
    · rw [hr, zf0 h2] at h
      exact absurd h (ztg i b hb)
  · by_cases h2 : b ∈ vs
    · obtain ⟨j, hj, hjl, hr'⟩ := zoi h2
      rw [hr', zf0 h1] at h
      exact absurd h.symm (ztg j a ha)
    · rwa [zf0 h1, zf0 h2] at h
theorem zv7 (vs : List (List UInt8)) (hl : vs.length < 6) (s : List UInt8) (hs : okV s = true) (l : List (List UInt8)) (h : ∀ x ∈ l, okV x = true) : (l.map (rnm vs)).contains (rnm vs s) = l.contains s := by
  rw [Bool.eq_iff_iff, zbz, zbz, List.mem_map]
  constructor
  · rintro ⟨x, hx, he⟩
    rw [← zwv vs hl x s (h x hx) hs he]
    exact hx
  · intro hm
    exact ⟨s, hm, rfl⟩
theorem zjj (vs : List (List UInt8)) (hl : vs.length < 6) : ∀ (l out : List (List UInt8)), (∀ x ∈ l, okV x = true) → (∀ x ∈ out, okV x = true) → addA (out.map (rnm vs)) (l.map (rnm vs)) = (addA out l).map (rnm vs)
  | [], out, _, _ => rfl
  | s :: l, out, h, ho => by
    have hs := h s (by simp)
    have hc := zv7 vs hl s hs out ho
    show addA (if (out.map (rnm vs)).contains (rnm vs s) then out.map (rnm vs) else out.map (rnm vs) ++ [rnm vs s]) (l.map (rnm vs)) = (addA (if out.contains s then out else out ++ [s]) l).map (rnm vs)
    rw [hc]
    cases hcc : out.contains s with
    | true =>
      rw [if_pos rfl, if_pos rfl]
      exact zjj vs hl l out (fun x hx => h x (List.mem_cons_of_mem _ hx)) ho
    | false =>
      rw [if_neg (by simp), if_neg (by simp)]
      have := zjj vs hl l (out ++ [s]) (fun x hx => h x (List.mem_cons_of_mem _ hx)) (fun x hx => by
        rcases List.mem_append.1 hx with hx | hx
        · exact ho x hx
        · rw [List.mem_singleton.1 hx]; exact hs)
      rw [List.map_append] at this
      exact this
theorem zwx (vs : List (List UInt8)) (s : List UInt8) : subT vs (vnT vs.length) (.var s) = .var (rnm vs s) := by
  unfold subT rnm
  cases hp : posS s vs with
  | none => rfl
  | some i =>
    have hi := zhd hp
    have h1 : i < (vnT vs.length).length := by rw [zfc]; exact hi
    simp only [List.getD_eq_getElem?_getD, List.getElem?_eq_getElem h1, Option.getD_some, zjh]
theorem zea (vs : List (List UInt8)) (hl : vs.length < 6) : ∀ t : Tp, vOK t = true → freeT (subT vs (vnT vs.length) t) = (freeT t).map (rnm vs)
  | .var s, _ => by rw [zwx]; rfl
  | .con c, _ => rfl
  | .hole x, _ => rfl
  | .app f a, h => by
    simp only [vOK, Bool.and_eq_true] at h
    have hf := zea vs hl f h.1
    have ha := zea vs hl a h.2
    have ho := zc7 f h.1
    have e0 : addA ([] : List (List UInt8)) ((freeT f).map (rnm vs)) = (addA [] (freeT f)).map (rnm vs) := zjj vs hl (freeT f) [] ho (by simp)
    simp only [subT, freeT, hf, ha]
    rw [e0, zjj vs hl (freeT a) (addA [] (freeT f)) (zc7 a h.2) (fun x hx => by
      rcases (zmw x (freeT f) []).1 hx with h1 | h1
      · simp at h1
      · exact ho x h1)]
def vsN (vs : List (List UInt8)) : List (List UInt8) := (vnR vs.length).reverse
theorem zpp (vs : List (List UInt8)) (hl : vs.length < 6) (s : List UInt8) (hs : okV s = true) : (vsN vs).contains (rnm vs s) = vs.contains s := by
  rw [Bool.eq_iff_iff, zbz, zbz]
  unfold vsN vnR
  rw [List.mem_reverse, List.mem_map]
  constructor
  · rintro ⟨i, hi, he⟩
    by_cases h : s ∈ vs
    · exact h
    · rw [zf0 h] at he
      exact absurd he (ztg i s hs)
  · intro h
    obtain ⟨i, _, h1, h2⟩ := zoi h
    exact ⟨i, by simpa using h1, h2.symm⟩
theorem zdf (vs : List (List UInt8)) (s : List UInt8) : ∀ (l ns : List (List UInt8)), s ∈ meetL vs ns l ↔ s ∈ ns ∨ (s ∈ l ∧ s ∈ vs)
  | [], ns => by simp [meetL]
  | x :: l, ns => by
    have ih := zdf vs s l (if vs.contains x && !(ns.contains x) then ns ++ [x] else ns)
    show s ∈ meetL vs (if vs.contains x && !(ns.contains x) then ns ++ [x] else ns) l ↔ _
    rw [ih]
    by_cases hv : x ∈ vs
    · by_cases hn : x ∈ ns
      · have hc : (vs.contains x && !(ns.contains x)) = false := by simp [hn]
        rw [hc, if_neg (by simp)]
        constructor
        · rintro (h | h)
          · exact .inl h
          · exact .inr ⟨List.mem_cons_of_mem _ h.1, h.2⟩
        · rintro (h | ⟨h, h2⟩)
          · exact .inl h
          · rcases List.mem_cons.1 h with rfl | h
            · exact .inl hn
            · exact .inr ⟨h, h2⟩
      · have hc : (vs.contains x && !(ns.contains x)) = true := by simp [hn, hv]
        rw [hc, if_pos rfl]
        constructor
        · rintro (h | h)
          · rcases List.mem_append.1 h with h | h
            · exact .inl h
            · rw [List.mem_singleton.1 h]; exact .inr ⟨by simp, hv⟩
          · exact .inr ⟨List.mem_cons_of_mem _ h.1, h.2⟩
        · rintro (h | ⟨h, h2⟩)
          · exact .inl (List.mem_append.2 (.inl h))
          · rcases List.mem_cons.1 h with rfl | h
            · exact .inl (List.mem_append.2 (.inr (by simp)))
            · exact .inr ⟨h, h2⟩
    · have hc : (vs.contains x && !(ns.contains x)) = false := by simp [hv]
      rw [hc, if_neg (by simp)]
      constructor
      · rintro (h | h)
        · exact .inl h
        · exact .inr ⟨List.mem_cons_of_mem _ h.1, h.2⟩
      · rintro (h | ⟨h, h2⟩)
        · exact .inl h
        · rcases List.mem_cons.1 h with rfl | h
          · exact absurd h2 hv
          · exact .inr ⟨h, h2⟩
theorem zgg (vs : List (List UInt8)) (hl : vs.length < 6) : ∀ (l ns : List (List UInt8)), (∀ x ∈ l, okV x = true) → (∀ x ∈ ns, okV x = true) → meetL (vsN vs) (ns.map (rnm vs)) (l.map (rnm vs)) = (meetL vs ns l).map (rnm vs)
  | [], ns, _, _ => rfl
  | s :: l, ns, h, ho => by
    have hs := h s (by simp)
    have hc := zv7 vs hl s hs ns ho
    have hv := zpp vs hl s hs
    show meetL (vsN vs) (if (vsN vs).contains (rnm vs s) && !((ns.map (rnm vs)).contains (rnm vs s)) then ns.map (rnm vs) ++ [rnm vs s] else ns.map (rnm vs)) (l.map (rnm vs)) = (meetL vs (if vs.contains s && !(ns.contains s) then ns ++ [s] else ns) l).map (rnm vs)
    rw [hc, hv]
    cases hcc : vs.contains s && !(ns.contains s) with
    | true =>
      rw [if_pos rfl, if_pos rfl]
      have := zgg vs hl l (ns ++ [s]) (fun x hx => h x (List.mem_cons_of_mem _ hx)) (fun x hx => by
        rcases List.mem_append.1 hx with hx | hx
        · exact ho x hx
        · rw [List.mem_singleton.1 hx]; exact hs)
      rw [List.map_append] at this
      exact this
    | false =>
      rw [if_neg (by simp), if_neg (by simp)]
      exact zgg vs hl l ns (fun x hx => h x (List.mem_cons_of_mem _ hx)) ho
end Go.Fu
