/-
  The machine's state and a world's: what holds between them, and what a step leaves of it.
-/
import Derived.Test.YtdoppkjoemlhjaaDoorMxRel
set_option linter.unusedSimpArgs false
set_option linter.unusedVariables false
namespace Go.Mx
open Go

/-- Whose a block is: that of a slot's list, of a slot's box, of a list in a box; the store's. -/
inductive Tag where
  | slot (s : Nat)
  | box (s : Nat)
  | cell (s c : Nat)
  | obj (id : Nat)
  | ocell (id c : Nat)
def Tag.isBox : Tag → Bool
  | .box _ => true
  | .obj _ => true
  | _ => false
def Tag.isLocal : Tag → Bool
  | .obj _ => false
  | .ocell _ _ => false
  | _ => true
abbrev Own := Nat → Option Tag
abbrev Lay := Nat → Option Nat

/-- The spare room behind a list is its own. -/
def Owned (ι : Imm) (own : Own) (w : World) (t : Tag) : D → Value → Prop
  | .list sz es, v => v = .slice none 0 0 ∨ ∃ b cap cur T, v = .slice (some ⟨b, 0, none⟩) es.length cap ∧ own b = some t ∧ w.heap[b]? = some (.cells cur T (0, 0)) ∧ (T = sz.el ∧ cur.size = cap * sz.sz) ∧ ∀ o, es.length * sz.sz ≤ o → ι b o = none
  | _, _ => True
def CellRel (ι : Imm) (j : Lay) (own : Own) (w : World) (t : Tag) (c : Cell) (v : Value) : Prop := Rep ι j c.d v ∧ (c.own = true → Owned ι own w t c.d v)
def BoxRel (ι : Imm) (j : Lay) (own : Own) (w : World) (b : Nat) (mk : Nat → Tag) (cs : List Cell) : Prop :=
  ∃ vs T, w.heap[b]? = some (.cells ⟨vs⟩ T (0, 0)) ∧ vs.length = cs.length ∧ ∀ i c, cs[i]? = some c → ∃ v, vs[i]? = some v ∧ v.oneCell' = true ∧ CellRel ι j own w (mk i) c v

structure GSim (ι : Imm) (j : Lay) (own : Own) (σ : Store) (w : World) : Prop where
  holds : ∀ b o v, ι b o = some v → w.cell? ⟨b, o, none⟩ = some v
  noimm : ∀ b t, own b = some t → t.isBox = true → ∀ o, ι b o = none
  objs : ∀ id cs, aget σ.objs id = some cs → ∃ b, j id = some b ∧ own b = some (.obj id) ∧ BoxRel ι j own w b (.ocell id) cs
  tys : ∀ id t cs, aget σ.tys id = some t → aget σ.objs id = some cs → ∀ b, j id = some b → ∃ row, w.heap[b]? = some (.cells row t (0, 0))
  iters : ∀ id s pos, aget σ.iters id = some (s, pos) → ∃ b, j id = some b ∧ own b = some (.obj id) ∧ w.heap[b]? = some (.stringIter ⟨⟨s⟩⟩ pos)
  jlt : ∀ id b, j id = some b → id < σ.next
  ownlt : ∀ b t, own b = some t → b < w.heap.size

/-- What a deferred call is. -/
def DefRel (ι : Imm) (j : Lay) : List (FuncId × List D) → List Deferred → Prop
  | [], l => l = []
  | (f, ds) :: r, l => ∃ cap args l', l = { target := .fn (.func f) cap, args := args } :: l' ∧ RepL ι j ds (args ++ cap).toList ∧ DefRel ι j r l'

structure LSim (ι : Imm) (j : Lay) (own : Own) (lb : Lay) (N : Nat) (e : Env) (a : Go.Act) (w : World) : Prop where
  size : a.tmps.size = N
  slots : ∀ s c, aget e.slots s = some c → CellRel ι j own w (.slot s) c (a.tmps.getD s Go.undef)
  locs : ∀ s b o, aget e.locs s = some (b, o) → ∃ B, lb b = some B ∧ a.tmps.getD s Go.undef = .pointer (some ⟨B, o, none⟩)
  boxes : ∀ s cs, aget e.boxes s = some cs → ∃ B, lb s = some B ∧ own B = some (.box s) ∧ BoxRel ι j own w B (.cell s) cs
  defers : DefRel ι j e.defers a.defers

/-- How a world goes on: what bears none of the marks TT is as it was. -/
structure Evo (ι : Imm) (j : Lay) (own : Own) (w : World) (ι' : Imm) (j' : Lay) (own' : Own) (w' : World) (TT : Tag → Prop) : Prop where
  os : w'.os = w.os
  tape : w'.tape = w.tape
  output : w'.output = w.output
  size : w.heap.size ≤ w'.heap.size
  imm : ∀ b o v, ι b o = some v → ι' b o = some v
  lay : ∀ i b, j i = some b → j' i = some b
  block : ∀ b, b < w.heap.size → (∀ t, own b = some t → ¬ TT t) → w'.heap[b]? = w.heap[b]? ∧ own' b = own b ∧ ∀ o, ι' b o = ι b o
/-- What owned nothing is owned by nobody. -/
theorem Evo.refl (ι : Imm) (j : Lay) (own : Own) (w : World) (TT : Tag → Prop) : Evo ι j own w ι j own w TT :=
  ⟨rfl, rfl, rfl, Nat.le_refl _, fun _ _ _ h => h, fun _ _ h => h, fun _ _ _ => ⟨rfl, rfl, fun _ => rfl⟩⟩
theorem Evo.trans {ι ι' ι'' : Imm} {j j' j'' : Lay} {own own' own'' : Own} {w w' w'' : World} {TT : Tag → Prop}
    (h : Evo ι j own w ι' j' own' w' TT) (k : Evo ι' j' own' w' ι'' j'' own'' w'' TT) : Evo ι j own w ι'' j'' own'' w'' TT where
  os := k.os.trans h.os
  tape := k.tape.trans h.tape
  output := k.output.trans h.output
  size := Nat.le_trans h.size k.size
  imm := fun b o v x => k.imm _ _ _ (h.imm _ _ _ x)
  lay := fun i b x => k.lay _ _ (h.lay _ _ x)
  block := fun b hb ht => by
    obtain ⟨h1, h2, h3⟩ := h.block b hb ht
    obtain ⟨k1, k2, k3⟩ := k.block b (Nat.lt_of_lt_of_le hb h.size) (fun t x => ht t (h2 ▸ x))
    exact ⟨k1.trans h1, k2.trans h2, fun o => (k3 o).trans (h3 o)⟩
theorem Evo.weaken {ι ι' : Imm} {j j' : Lay} {own own' : Own} {w w' : World} {TT TT' : Tag → Prop}
    (h : Evo ι j own w ι' j' own' w' TT) (hT : ∀ t, TT t → TT' t) : Evo ι j own w ι' j' own' w' TT' :=
  ⟨h.os, h.tape, h.output, h.size, h.imm, h.lay, fun b hb ht => h.block b hb fun t x y => ht t x (hT t y)⟩

section keeps
variable {ι ι' : Imm} {j j' : Lay} {own own' : Own} {w w' : World} {TT : Tag → Prop}
theorem Evo.rep (h : Evo ι j own w ι' j' own' w' TT) {d : D} {v : Value} (k : Rep ι j d v) : Rep ι' j' d v := Rep.mono h.imm h.lay d v k
theorem Evo.repL (h : Evo ι j own w ι' j' own' w' TT) {ds : List D} {vs : List Value} (k : RepL ι j ds vs) : RepL ι' j' ds vs := RepL.mono h.imm h.lay ds vs k
theorem Evo.owned (h : Evo ι j own w ι' j' own' w' TT) {t : Tag} (ht : ¬ TT t) {d : D} {v : Value} (k : Owned ι own w t d v) : Owned ι' own' w' t d v := by
  cases d with
  | list sz es =>
    simp only [Owned] at k ⊢
    rcases k with k | ⟨b, cap, cur, T, h1, h2, h3, h4, h5⟩
    · exact .inl k
    · have hb : b < w.heap.size := (Array.getElem?_eq_some_iff.1 h3).1
      obtain ⟨k1, k2, k3⟩ := h.block b hb (fun t' x => by rw [h2] at x; cases x; exact ht)
      exact .inr ⟨b, cap, cur, T, h1, k2.trans h2, k1.trans h3, h4, fun o ho => (k3 o).trans (h5 o ho)⟩
  | _ => trivial
theorem Evo.cellRel (h : Evo ι j own w ι' j' own' w' TT) {t : Tag} {c : Cell} {v : Value} (ht : c.own = true → ¬ TT t) (k : CellRel ι j own w t c v) : CellRel ι' j' own' w' t c v :=
  ⟨h.rep k.1, fun ho => h.owned (ht ho) (k.2 ho)⟩
theorem Evo.boxRel (h : Evo ι j own w ι' j' own' w' TT) {b : Nat} {mk : Nat → Tag} {cs : List Cell} {t : Tag} (hb : own b = some t) (ht : ¬ TT t) (hc : ∀ i c, cs[i]? = some c → c.own = true → ¬ TT (mk i))
    (k : BoxRel ι j own w b mk cs) : BoxRel ι' j' own' w' b mk cs := by
  obtain ⟨vs, T, h1, h2, h3⟩ := k
  have hlt : b < w.heap.size := (Array.getElem?_eq_some_iff.1 h1).1
  obtain ⟨k1, _, _⟩ := h.block b hlt (fun t' x => by rw [hb] at x; cases x; exact ht)
  refine ⟨vs, T, k1.trans h1, h2, fun i c hi => ?_⟩
  obtain ⟨v, hv, ho, hr⟩ := h3 i c hi
  exact ⟨v, hv, ho, h.cellRel (hc i c hi) hr⟩
theorem Evo.defRel (h : Evo ι j own w ι' j' own' w' TT) : ∀ (ds : List (FuncId × List D)) (l : List Deferred), DefRel ι j ds l → DefRel ι' j' ds l
  | [], _, k => k
  | (f, ds) :: r, l, k => by
    simp only [DefRel] at k ⊢
    obtain ⟨cap, args, l', h1, h2, h3⟩ := k
    exact ⟨cap, args, l', h1, h.repL h2, h.defRel r l' h3⟩
end keeps
end Go.Mx

