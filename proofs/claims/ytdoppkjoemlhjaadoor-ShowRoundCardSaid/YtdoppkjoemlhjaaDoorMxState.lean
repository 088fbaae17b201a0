/-
  What a step leaves of the machine's state and the world's: slots, boxes, marks.
-/
import Derived.Test.YtdoppkjoemlhjaaDoorMxOps3
set_option linter.unusedSimpArgs false
set_option linter.unusedVariables false
namespace Go.Mx
open Go

theorem getD_put_same {a : Go.Act} {s : Nat} {x : Value} (h : s < a.tmps.size) : (a.put (some s) x).tmps.getD s Go.undef = x := by
  simp [Act.put, Array.getD, h]
theorem getD_put_other {a : Go.Act} {s t : Nat} {x : Value} (h : s ≠ t) : (a.put (some s) x).tmps.getD t Go.undef = a.tmps.getD t Go.undef := by
  simp only [Act.put, Array.getD_eq_getD_getElem?]
  rw [Array.getElem?_setIfInBounds_ne h]
theorem size_put {a : Go.Act} {d : Option Nat} {x : Value} : (a.put d x).tmps.size = a.tmps.size := by
  cases d <;> simp [Act.put]
theorem defers_put {a : Go.Act} {d : Option Nat} {x : Value} : (a.put d x).defers = a.defers := by
  cases d <;> rfl

/-- The same data, no more marks. -/
def Weaker (cs cs0 : List Cell) : Prop := cs.length = cs0.length ∧ ∀ (i : Nat) (c : Cell), cs[i]? = some c → ∃ c0, cs0[i]? = some c0 ∧ c0.d = c.d ∧ (c.own = true → c0.own = true)
theorem Weaker.refl (cs : List Cell) : Weaker cs cs := ⟨rfl, fun _ c h => ⟨c, h, rfl, id⟩⟩
section
variable {P : Program} {ι ι' : Imm} {j j' : Lay} {own own' : Own} {lb : Lay} {N : Nat} {e : Env} {a : Go.Act} {w w' : World} {σ : Store} {TT : Tag → Prop}
theorem CellRel.weaken {t : Tag} {c c0 : Cell} {v : Value} (h : CellRel ι j own w t c0 v) (hd : c0.d = c.d) (ho : c.own = true → c0.own = true) : CellRel ι j own w t c v :=
  ⟨hd ▸ h.1, fun x => hd ▸ h.2 (ho x)⟩
theorem BoxRel.weaken {b : Nat} {mk : Nat → Tag} {cs cs0 : List Cell} (h : BoxRel ι j own w b mk cs0) (hw : Weaker cs cs0) : BoxRel ι j own w b mk cs := by
  obtain ⟨vs, T, h1, h2, h3⟩ := h
  refine ⟨vs, T, h1, h2.trans hw.1.symm, fun i c hi => ?_⟩
  obtain ⟨c0, k1, k2, k3⟩ := hw.2 i c hi
  obtain ⟨v, q1, q2, q3⟩ := h3 i c0 k1
  exact ⟨v, q1, q2, q3.weaken k2 k3⟩
theorem LSim.sub {e' : Env} (hL : LSim ι j own lb N e a w) (h1 : ∀ s c, aget e'.slots s = some c → ∃ c0, aget e.slots s = some c0 ∧ c0.d = c.d ∧ (c.own = true → c0.own = true))
    (h2 : ∀ s p, aget e'.locs s = some p → aget e.locs s = some p) (h3 : ∀ s cs, aget e'.boxes s = some cs → ∃ cs0, aget e.boxes s = some cs0 ∧ Weaker cs cs0) (h4 : e'.defers = e.defers) : LSim ι j own lb N e' a w where
  size := hL.size
  slots := fun s c h => by
    obtain ⟨c0, k1, k2, k3⟩ := h1 s c h
    exact (hL.slots s c0 k1).weaken k2 k3
  locs := fun s b o h => hL.locs s b o (h2 s _ h)
  boxes := fun s cs h => by
    obtain ⟨cs0, k1, k2⟩ := h3 s cs h
    obtain ⟨B, q1, q2, q3⟩ := hL.boxes s cs0 k1
    exact ⟨B, q1, q2, q3.weaken k2⟩
  defers := h4 ▸ hL.defers
theorem LSim.evo (h : Evo ι j own w ι' j' own' w' TT) (hL : LSim ι j own lb N e a w) (hs : ∀ s c, aget e.slots s = some c → c.own = true → ¬ TT (.slot s))
    (hb : ∀ s cs, aget e.boxes s = some cs → ¬ TT (.box s) ∧ ∀ (i : Nat) (c : Cell), cs[i]? = some c → c.own = true → ¬ TT (.cell s i)) : LSim ι' j' own' lb N e a w' where
  size := hL.size
  slots := fun s c k => h.cellRel (hs s c k) (hL.slots s c k)
  locs := hL.locs
  boxes := fun s cs k => by
    obtain ⟨B, q1, q2, q3⟩ := hL.boxes s cs k
    obtain ⟨hb1, hb2⟩ := hb s cs k
    have hlt : B < w.heap.size := by
      obtain ⟨vs, T, h1, _⟩ := q3
      exact (Array.getElem?_eq_some_iff.1 h1).1
    exact ⟨B, q1, (h.block B hlt (fun t x => by rw [q2] at x; cases x; exact hb1)).2.1.trans q2, h.boxRel q2 hb1 hb2 q3⟩
  defers := h.defRel _ _ hL.defers
theorem GSim.evo (h : Evo ι j own w ι' j' own' w' TT) (hG : GSim ι j own σ w) (hh : ∀ b o v, ι' b o = some v → w'.cell? ⟨b, o, none⟩ = some v) (hn : ∀ b t, own' b = some t → t.isBox = true → ∀ o, ι' b o = none)
    (hl : ∀ b t, own' b = some t → b < w'.heap.size) (hj : ∀ id b, j' id = some b → id < σ.next)
    (hb : ∀ id cs, aget σ.objs id = some cs → ¬ TT (.obj id) ∧ ∀ (i : Nat) (c : Cell), cs[i]? = some c → c.own = true → ¬ TT (.ocell id i)) (hi : ∀ id x, aget σ.iters id = some x → ¬ TT (.obj id)) : GSim ι' j' own' σ w' where
  holds := hh
  noimm := hn
  objs := fun id cs k => by
    obtain ⟨B, q1, q2, q3⟩ := hG.objs id cs k
    obtain ⟨hb1, hb2⟩ := hb id cs k
    have hlt : B < w.heap.size := by
      obtain ⟨vs, T, h1, _⟩ := q3
      exact (Array.getElem?_eq_some_iff.1 h1).1
    exact ⟨B, h.lay _ _ q1, (h.block B hlt (fun t x => by rw [q2] at x; cases x; exact hb1)).2.1.trans q2, h.boxRel q2 hb1 hb2 q3⟩
  tys := fun id t cs h1 h2 b hjb => by
    obtain ⟨B, q1, q2, q3⟩ := hG.objs id cs h2
    have hB := h.lay _ _ q1
    rw [hjb] at hB
    cases hB
    obtain ⟨row, hrow⟩ := hG.tys id t cs h1 h2 b q1
    have hlt : b < w.heap.size := (Array.getElem?_eq_some_iff.1 hrow).1
    exact ⟨row, (h.block b hlt (fun t' x => by rw [q2] at x; cases x; exact (hb id cs h2).1)).1.trans hrow⟩
  iters := fun id s pos k => by
    obtain ⟨B, q1, q2, q3⟩ := hG.iters id s pos k
    have hlt : B < w.heap.size := (Array.getElem?_eq_some_iff.1 q3).1
    obtain ⟨b1, b2, _⟩ := h.block B hlt (fun t x => by rw [q2] at x; cases x; exact hi id _ k)
    exact ⟨B, h.lay _ _ q1, b2.trans q2, b1.trans q3⟩
  jlt := hj
  ownlt := hl
theorem LSim.putC (hL : LSim ι j own lb N e a w) {s : Nat} (hs : s < N) {c : Cell} {x : Value} (hc : CellRel ι j own w (.slot s) c x) : LSim ι j own lb N (e.put (some s) c) (a.put (some s) x) w where
  size := by rw [size_put]; exact hL.size
  slots := fun t c' h => by
    simp only [Env.put, aget_aset] at h
    by_cases hst : s = t
    · subst hst
      rw [if_pos rfl] at h
      cases h
      rw [getD_put_same (by rw [hL.size]; exact hs)]
      exact hc
    · rw [if_neg hst] at h
      rw [getD_put_other hst]
      exact hL.slots t c' h
  locs := fun t b o h => by
    simp only [Env.put, aget_adel1] at h
    by_cases hst : s = t
    · rw [if_pos hst] at h; cases h
    · rw [if_neg hst] at h
      rw [getD_put_other hst]
      exact hL.locs t b o h
  boxes := hL.boxes
  defers := by rw [defers_put]; exact hL.defers
theorem LSim.putNone (hL : LSim ι j own lb N e a w) (c : Cell) (x : Value) : LSim ι j own lb N (e.put none c) (a.put none x) w := hL
theorem LSim.putL (hL : LSim ι j own lb N e a w) {s : Nat} (hs : s < N) {b off B : Nat} (hB : lb b = some B) : LSim ι j own lb N (e.putV (some s) (.l b off)) (a.put (some s) (.pointer (some ⟨B, off, none⟩))) w where
  size := by rw [size_put]; exact hL.size
  slots := fun t c' h => by
    simp only [Env.putV, aget_adel1] at h
    by_cases hst : s = t
    · rw [if_pos hst] at h; cases h
    · rw [if_neg hst] at h
      rw [getD_put_other hst]
      exact hL.slots t c' h
  locs := fun t b' o h => by
    simp only [Env.putV, aget_aset] at h
    by_cases hst : s = t
    · subst hst
      rw [if_pos rfl] at h
      cases h
      exact ⟨B, hB, getD_put_same (by rw [hL.size]; exact hs)⟩
    · rw [if_neg hst] at h
      rw [getD_put_other hst]
      exact hL.locs t b' o h
  boxes := hL.boxes
  defers := by rw [defers_put]; exact hL.defers
theorem LSim.addBox (hL : LSim ι j own lb N e a w) {s B : Nat} {cs : List Cell} (h1 : lb s = some B) (h2 : own B = some (.box s)) (h3 : BoxRel ι j own w B (.cell s) cs) : LSim ι j own lb N { e with boxes := aset e.boxes s cs } a w where
  size := hL.size
  slots := hL.slots
  locs := hL.locs
  boxes := fun t cs' h => by
    simp only [aget_aset] at h
    by_cases hst : s = t
    · subst hst
      rw [if_pos rfl] at h
      cases h
      exact ⟨B, h1, h2, h3⟩
    · rw [if_neg hst] at h
      exact hL.boxes t cs' h
  defers := hL.defers
/-- A box made anew for a slot. -/
theorem LSim.newBox (hL : LSim ι j own lb N e a w) {s B : Nat} (hs : s < N) {cs : List Cell} (h2 : own B = some (.box s)) (h3 : BoxRel ι j own w B (.cell s) cs) :
    LSim ι j own (fun t => if t = s then some B else lb t) N (e.box s cs) (a.put (some s) (.pointer (some ⟨B, 0, none⟩))) w where
  size := by rw [size_put]; exact hL.size
  slots := fun t c' h => by
    simp only [Env.box, aget_adel1] at h
    by_cases hst : s = t
    · rw [if_pos hst] at h; cases h
    · rw [if_neg hst] at h
      rw [getD_put_other hst]
      exact hL.slots t c' h
  locs := fun t b o h => by
    simp only [Env.box, aget_aset] at h
    by_cases hst : s = t
    · subst hst
      rw [if_pos rfl] at h
      cases h
      exact ⟨B, if_pos rfl, getD_put_same (by rw [hL.size]; exact hs)⟩
    · rw [if_neg hst] at h
      obtain ⟨k1, k2⟩ := aget_lkill _ _ _ _ _ h
      rw [getD_put_other hst]
      obtain ⟨B', q1, q2⟩ := hL.locs t b o k2
      exact ⟨B', by rw [if_neg k1]; exact q1, q2⟩
  boxes := fun t cs' h => by
    simp only [Env.box, aget_aset] at h
    by_cases hst : s = t
    · subst hst
      rw [if_pos rfl] at h
      cases h
      exact ⟨B, if_pos rfl, h2, h3⟩
    · rw [if_neg hst] at h
      obtain ⟨B', q1, q2, q3⟩ := hL.boxes t cs' h
      exact ⟨B', by rw [if_neg (fun x => hst x.symm)]; exact q1, q2, q3⟩
  defers := by rw [defers_put]; exact hL.defers

/-! ### Marks that are dropped -/
theorem drop_sub (x : AOpd) : ∀ s c, aget (x.drop e).slots s = some c → ∃ c0, aget e.slots s = some c0 ∧ c0.d = c.d ∧ (c.own = true → c0.own = true) := by
  intro s c h
  cases x with
  | mv t =>
    simp only [AOpd.drop] at h
    cases ht : aget e.slots t with
    | none => rw [ht] at h; exact ⟨c, h, rfl, id⟩
    | some c1 =>
      rw [ht] at h
      simp only [caseO_some, aget_aset] at h
      by_cases hts : t = s
      · subst hts
        rw [if_pos rfl] at h
        cases h
        exact ⟨c1, ht, rfl, fun h => by cases h⟩
      · rw [if_neg hts] at h
        exact ⟨c, h, rfl, id⟩
  | tmp t => exact ⟨c, h, rfl, id⟩
  | const d => exact ⟨c, h, rfl, id⟩
theorem drop_rest (x : AOpd) : (x.drop e).locs = e.locs ∧ (x.drop e).boxes = e.boxes ∧ (x.drop e).defers = e.defers := by
  cases x with
  | mv t =>
    simp only [AOpd.drop]
    cases aget e.slots t <;> exact ⟨rfl, rfl, rfl⟩
  | _ => exact ⟨rfl, rfl, rfl⟩
theorem LSim.drop (hL : LSim ι j own lb N e a w) (x : AOpd) : LSim ι j own lb N (x.drop e) a w := by
  obtain ⟨h1, h2, h3⟩ := drop_rest (e := e) x
  exact hL.sub (drop_sub x) (fun s p h => by rw [h1] at h; exact h) (fun s cs h => by rw [h2] at h; exact ⟨cs, h, Weaker.refl cs⟩) h3
/-- Behind the drop of a slot's mark nothing claims it. -/
theorem drop_free {s : Nat} {t : Nat} {c : Cell} (h : aget ((AOpd.mv s).drop e).slots t = some c) (ho : c.own = true) (hs : (aget e.slots s).isSome = true) : t ≠ s := by
  intro hts
  subst hts
  simp only [AOpd.drop] at h
  obtain ⟨c1, h1⟩ := Option.isSome_iff_exists.1 hs
  rw [h1] at h
  simp only [caseO_some, aget_aset, if_true] at h
  cases h
  cases ho

/-- A mark goes over to another bearer. -/
theorem retag {t t' : Tag} (hb : t.isBox = false) (hb' : t'.isBox = false) (hG : GSim ι j own σ w) (hL : LSim ι j own lb N e a w)
    (f1 : ∀ s c, aget e.slots s = some c → c.own = true → Tag.slot s ≠ t) (f2 : ∀ s cs, aget e.boxes s = some cs → ∀ (i : Nat) (c : Cell), cs[i]? = some c → c.own = true → Tag.cell s i ≠ t)
    (f3 : ∀ id cs, aget σ.objs id = some cs → ∀ (i : Nat) (c : Cell), cs[i]? = some c → c.own = true → Tag.ocell id i ≠ t)
    {d : D} {x : Value} (ho : Owned ι own w t d x) : ∃ own', GSim ι j own' σ w ∧ LSim ι j own' lb N e a w ∧ Owned ι own' w t' d x ∧ Evo ι j own w ι j own' w (fun u => u = t) := by
  classical
  let own' : Own := fun b => if own b = some t then some t' else own b
  have hE : Evo ι j own w ι j own' w (fun u => u = t) :=
    ⟨rfl, rfl, rfl, Nat.le_refl _, fun _ _ _ h => h, fun _ _ h => h, fun b _ ht => ⟨rfl, if_neg (fun h => ht t h rfl), fun _ => rfl⟩⟩
  have hown : ∀ b u, own' b = some u → u.isBox = true → own b = some u := by
    intro b u h hu
    by_cases hbt : own b = some t
    · simp only [own', if_pos hbt, Option.some.injEq] at h
      subst h
      rw [hb'] at hu
      cases hu
    · simpa only [own', if_neg hbt] using h
  refine ⟨own', hG.evo hE hG.holds (fun b u h hu => hG.noimm b u (hown b u h hu) hu) (fun b u h => ?_) hG.jlt (fun id cs h => ⟨fun k => by (subst k; cases hb), f3 id cs h⟩) (fun id x _ k => by (subst k; cases hb)),
    hL.evo hE (fun s c h k => f1 s c h k) (fun s cs h => ⟨fun k => by (subst k; cases hb), f2 s cs h⟩), ?_, hE⟩
  · by_cases hbt : own b = some t
    · exact hG.ownlt b t hbt
    · exact hG.ownlt b u (by simpa only [own', if_neg hbt] using h)
  · cases d with
    | list sz es =>
      simp only [Owned] at ho ⊢
      rcases ho with ho | ⟨b, cap, cur, T, h1, h2, h3, h4, h5⟩
      · exact .inl ho
      · exact .inr ⟨b, cap, cur, T, h1, if_pos h2, h3, h4, h5⟩
    | _ => trivial
end
end Go.Mx

