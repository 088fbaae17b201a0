/-
  Arrays that become lists: nothing happens but in what is said of the state.
-/
import Derived.Test.YtkgdpcnobfadaaaGreatDoorMzDrawn
import Derived.Defers
import Derived.LoopN
import Derived.Scope
set_option linter.unusedSimpArgs false
set_option linter.unusedVariables false
namespace Go.Mx
open Go
section
variable {P : Program} {ι : Imm} {j : Lay} {own : Own} {lb : Lay} {N : Nat} {e : Env} {a : Go.Act} {w : World} {σ : Store}
theorem zks {k : RowK} (hk : (k.ag || k.sz == 1) = true) : ∀ (n : Nat) (ds : List D) (vs : List Value), n * k.sz ≤ ds.length → RepL ι j ds vs → (∀ x ∈ vs, x.oneCell' = true) →
    ∃ us, RepL ι j (zcs k n ds) us ∧ flat us = vs.take (n * k.sz) ∧ (zcs k n ds).length = n ∧ ∀ x ∈ us, x.cells.size = k.sz
  | 0, ds, vs, _, _, _ => ⟨[], by simp only [zcs, RepL], by simp [flat], rfl, by simp⟩
  | n + 1, ds, vs, hn, hr, h1 => by
    have hlen := hr.length
    rw [Nat.add_mul] at hn
    have ht : RepL ι j (ds.take k.sz) (vs.take k.sz) := hr.take k.sz
    have hd : RepL ι j (ds.drop k.sz) (vs.drop k.sz) := RepL.of (by simp [hlen]) fun i d hi => by
      rw [List.getElem?_drop] at hi ⊢
      exact hr.at _ d hi
    obtain ⟨u, hu, huc⟩ := zp2 hk (by simp; omega) ht (fun x hx => h1 x (List.mem_of_mem_take hx))
    obtain ⟨us, k1, k2, k3, k4⟩ := zks hk n (ds.drop k.sz) (vs.drop k.sz) (by simp; omega) hd (fun x hx => h1 x (List.mem_of_mem_drop hx))
    refine ⟨u :: us, by simp only [zcs, RepL]; exact ⟨u, us, rfl, hu, k1⟩, ?_, by simp only [zcs, List.length_cons, k3], fun x hx => ?_⟩
    · have : flat (u :: us) = u.cells.toList ++ flat us := by simp [flat]
      rw [this, huc, k2, Nat.add_mul, Nat.one_mul, Nat.add_comm, List.take_add]
    · rcases List.mem_cons.1 hx with rfl | hx
      · rw [← Array.length_toList, huc, List.length_take]
        omega
      · exact k4 x hx
theorem zt7 (hG : GSim ι j own σ w) {k : RowK} {id off len : Nat} {cs : List Cell} (hk : (k.ag || k.sz == 1) = true) (hc : aget σ.objs id = some cs) (hle : (off + len) * k.sz ≤ cs.length) :
    ∃ b us, j id = some b ∧ own b = some (.obj id) ∧ RepL ι j (elems k cs off len) us ∧ (elems k cs off len).length = len ∧ (∀ (n : Nat) (u : Value), (flat us)[n]? = some u → w.cell? ⟨b, off * k.sz + n, none⟩ = some u) ∧ ∀ x ∈ us, x.cells.size = k.sz := by
  obtain ⟨b, q1, q2, q3⟩ := hG.objs id cs hc
  obtain ⟨vs, T, h1, h2, h3, h4⟩ := q3.dats
  rw [Nat.add_mul] at hle
  have hlen := h3.length
  have hd : RepL ι j ((cs.map fun c => c.d).drop (off * k.sz)) ((vs.take cs.length).drop (off * k.sz)) := RepL.of (by simp; omega) fun i d hi => by
    rw [List.getElem?_drop] at hi ⊢
    exact h3.at _ d hi
  obtain ⟨us, k1, k2, k3, k4⟩ := zks hk len _ _ (by simp; omega) hd (fun x hx => h4 x (List.mem_of_mem_drop hx))
  refine ⟨b, us, q1, q2, k1, k3, fun n u hn => ?_, k4⟩
  rw [k2, List.getElem?_take] at hn
  split at hn
  · rw [List.getElem?_drop, List.getElem?_take] at hn
    split at hn
    · rw [cell_of_row w b _ _ T (0, 0) h1]
      simpa using hn
    · cases hn
  · cases hn
def ObjT (os : Objs) (t : Tag) : Prop := ∃ id, t = .obj id ∧ (aget os id).isSome = true
theorem zpq {os : Objs} {id : Nat} {t : Tag} (h : ObjT (adel1 os id) t) : ObjT os t := by
  obtain ⟨i, rfl, hi⟩ := h
  rw [zar] at hi
  split at hi
  · cases hi
  · exact ⟨i, rfl, hi⟩
theorem zhsb {os : Objs} (hG : GSim ι j own { σ with objs := os } w) {id b : Nat} {cs : List Cell} (hc : aget os id = some cs) (hb : j id = some b) :
    ∃ ι' own', GSim ι' j own' { σ with objs := adel1 os id } w ∧ Evo ι j own w ι' j own' w (ObjT os) ∧ ∀ o v, o < cs.length → w.cell? ⟨b, o, none⟩ = some v → ι' b o = some v := by
  classical
  obtain ⟨b', hb', hown, hbox⟩ := hG.objs id cs hc
  rw [hb] at hb'
  cases hb'
  have hbox' := hbox
  obtain ⟨vs, T, hrow, _⟩ := hbox'
  let ι' : Imm := fun x o => if x = b then (if o < cs.length then w.cell? ⟨b, o, none⟩ else none) else ι x o
  let own' : Own := fun x => if x = b then none else own x
  have hno := hG.noimm b _ hown rfl
  have hE : Evo ι j own w ι' j own' w (fun t => t = .obj id) := by
    refine ⟨rfl, rfl, rfl, Nat.le_refl _, fun x o v h => ?_, fun _ _ h => h, fun x _ hx => ?_⟩
    · have hne : x ≠ b := fun e => by rw [e, hno o] at h; cases h
      simp only [ι', if_neg hne]
      exact h
    · have hne : x ≠ b := fun e => hx _ (e ▸ hown) rfl
      exact ⟨rfl, if_neg hne, fun o => if_neg hne⟩
  refine ⟨ι', own', ⟨fun x o v h => ?_, fun x t h hu o => ?_, fun id' cs' h => ?_, fun id' t' cs' h1 h2 x hx => ?_, fun id' x' h => ?_, hG.jlt, fun x t h => ?_⟩, hE.weaken (fun t h => by subst h; exact ⟨id, rfl, by rw [hc]; rfl⟩), fun o v ho hv => by simp only [ι', if_true, if_pos ho]; exact hv⟩
  · by_cases hx : x = b
    · subst hx
      simp only [ι', if_true] at h
      split at h
      · exact h
      · cases h
    · simp only [ι', if_neg hx] at h
      exact hG.holds x o v h
  · by_cases hx : x = b
    · simp only [own', if_pos hx] at h
      cases h
    · simp only [own', if_neg hx] at h
      simp only [ι', if_neg hx]
      exact hG.noimm x t h hu o
  · simp only [zar] at h
    split at h
    · cases h
    · rename_i hne
      obtain ⟨B, q1, q2, q3⟩ := hG.objs id' cs' h
      have hB : B ≠ b := fun e => by
        rw [e, hown] at q2
        cases q2
        exact hne rfl
      exact ⟨B, q1, by simp only [own', if_neg hB]; exact q2, hE.boxRel q2 (fun h => by cases h; exact hne rfl) (fun _ _ _ _ h => by cases h) q3⟩
  · simp only [zar] at h2
    split at h2
    · cases h2
    · exact hG.tys id' t' cs' h1 h2 x hx
  · obtain ⟨B, q1, q2, q3⟩ := hG.oth id' x' h
    have hB : B ≠ b := fun e => by
      subst e
      exact q3.notCells hrow
    exact ⟨B, q1, by simp only [own', if_neg hB]; exact q2, q3.keep rfl hE.imm hE.lay⟩
  · by_cases hx : x = b
    · simp only [own', if_pos hx] at h
      cases h
    · simp only [own', if_neg hx] at h
      exact hG.ownlt x t h
def Frz (j : Lay) (w : World) (σ : Store) (ι : Imm) (own : Own) (os os' : Objs) (Q : Imm → Prop) : Prop :=
  ∃ ι' own', GSim ι' j own' { σ with objs := os' } w ∧ Evo ι j own w ι' j own' w (ObjT os) ∧ (∀ t, ObjT os' t → ObjT os t) ∧ Q ι'
theorem Frz.refl {os : Objs} (hG : GSim ι j own { σ with objs := os } w) {Q : Imm → Prop} (hQ : Q ι) : Frz j w σ ι own os os Q := ⟨ι, own, hG, Evo.refl _ _ _ _ _, fun _ h => h, hQ⟩
theorem zkh {f : D → Objs → Option (D × Objs)} (hf : ∀ (d : D) (os : Objs) (d' : D) (os' : Objs) (ι : Imm) (own : Own) (v : Value), f d os = some (d', os') → GSim ι j own { σ with objs := os } w → Rep ι j d v → Frz j w σ ι own os os' fun ι' => Rep ι' j d' v) :
    ∀ (ds : List D) (os : Objs) (ds' : List D) (os' : Objs) (ι : Imm) (own : Own) (vs : List Value), zc8 f ds os = some (ds', os') → GSim ι j own { σ with objs := os } w → RepL ι j ds vs → Frz j w σ ι own os os' fun ι' => RepL ι' j ds' vs
  | [], os, ds', os', ι, own, vs, h, hG, hr => by
    simp only [zc8, Option.some.injEq, Prod.mk.injEq] at h
    obtain ⟨rfl, rfl⟩ := h
    exact Frz.refl hG hr
  | d :: ds, os, ds', os', ι, own, vs, h, hG, hr => by
    simp only [zc8] at h
    obtain ⟨⟨d1, os1⟩, h1, h⟩ := zab h
    obtain ⟨⟨ds1, os2⟩, h2, h⟩ := zab h
    cases h
    simp only [RepL] at hr
    obtain ⟨x, r, rfl, hx, hr⟩ := hr
    obtain ⟨ι1, own1, g1, g2, g3, g4⟩ := hf d os d1 os1 ι own x h1 hG hx
    obtain ⟨ι2, own2, k1, k2, k3, k4⟩ := zkh hf ds os1 ds1 os2 ι1 own1 r h2 g1 (g2.repL hr)
    refine ⟨ι2, own2, k1, g2.trans (k2.weaken g3), fun t h => g3 t (k3 t h), ?_⟩
    simp only [RepL]
    exact ⟨x, r, rfl, k2.rep g4, k4⟩
theorem zgr : ∀ (n : Nat) (d : D) (os : Objs) (d' : D) (os' : Objs) (ι : Imm) (own : Own) (v : Value), za1 n d os = some (d', os') → GSim ι j own { σ with objs := os } w → Rep ι j d v → Frz j w σ ι own os os' fun ι' => Rep ι' j d' v
  | 0, d, os, d', os', ι, own, v, h, _, _ => by simp only [za1, reduceCtorEq] at h
  | n + 1, d, os, d', os', ι, own, v, h, hG, hr => by
    have hL := zkh (zgr n)
    cases d with
    | arr k id off len =>
      simp only [za1] at h
      obtain ⟨cs, hc, h⟩ := zab h
      obtain ⟨hb, h⟩ := zak h
      obtain ⟨⟨es, os1⟩, h1, h⟩ := zab h
      cases h
      simp only [Bool.and_eq_true, decide_eq_true_eq] at hb
      obtain ⟨hk, hle⟩ := hb
      simp only [Rep] at hr
      obtain ⟨b, c, ad, r1, r2, r3, hv, r4⟩ := hr
      obtain ⟨b', us, e1, e2, e3, e4, e5, e6⟩ := zt7 hG hk hc hle
      rw [r1] at e1
      cases e1
      obtain ⟨ι1, own1, g1, g2, g3⟩ := zhsb hG hc r1
      obtain ⟨ι2, own2, k1, k2, k3, k4⟩ := hL _ _ _ _ ι1 own1 us h1 g1 (g2.repL e3)
      refine ⟨ι2, own2, k1, g2.trans (k2.weaken fun t h => zpq h), fun t h => zpq (k3 t h), ?_⟩
      have hlen : es.length = len := by rw [← k4.length, e3.length, e4]
      simp only [Rep]
      refine ⟨some ad, c - off, by rw [hlen]; exact hv, by omega, by omega, ?_⟩
      rcases r4 with h0 | rfl
      · exact .inl (List.eq_nil_of_length_eq_zero (by omega))
      · refine .inr ⟨b, _, rfl, zat.of_vals k4 e6 fun i u hi => k2.imm _ _ _ (g3 _ _ ?_ (e5 i u hi))⟩
        have hlt := (List.getElem?_eq_some_iff.1 hi).1
        rw [zbx e6, k4.length, hlen] at hlt
        rw [Nat.add_mul] at hle
        omega
    | agg ds =>
      simp only [za1] at h
      obtain ⟨⟨es, os1⟩, h1, h⟩ := zab h
      cases h
      simp only [Rep] at hr
      obtain ⟨vs, hv, hr, h2⟩ := hr
      obtain ⟨ι2, own2, k1, k2, k3, k4⟩ := hL _ _ _ _ ι own vs h1 hG hr
      exact ⟨ι2, own2, k1, k2, k3, by simp only [Rep]; exact ⟨vs, hv, k4, h2⟩⟩
    | tup ds =>
      simp only [za1] at h
      obtain ⟨⟨es, os1⟩, h1, h⟩ := zab h
      cases h
      simp only [Rep] at hr
      obtain ⟨vs, hv, hr⟩ := hr
      obtain ⟨ι2, own2, k1, k2, k3, k4⟩ := hL _ _ _ _ ι own vs h1 hG hr
      exact ⟨ι2, own2, k1, k2, k3, by simp only [Rep]; exact ⟨vs, hv, k4⟩⟩
    | iface t d =>
      simp only [za1] at h
      obtain ⟨⟨es, os1⟩, h1, h⟩ := zab h
      cases h
      simp only [Rep] at hr
      obtain ⟨x, hv, hr⟩ := hr
      obtain ⟨ι2, own2, k1, k2, k3, k4⟩ := zgr n _ _ _ _ ι own x h1 hG hr
      exact ⟨ι2, own2, k1, k2, k3, by simp only [Rep]; exact ⟨x, hv, k4⟩⟩
    | _ =>
      simp only [za1, Option.some.injEq, Prod.mk.injEq] at h
      obtain ⟨rfl, rfl⟩ := h
      exact Frz.refl hG hr
theorem zrm {n : Nat} {k : RowK} {es : List D} {os : Objs} {r : D × Objs} (h : za1 n (.list k es) os = some r) : r = (.list k es, os) := by
  cases n with
  | zero => simp only [za1, reduceCtorEq] at h
  | succ n => simp only [za1, Option.some.injEq] at h; exact h.symm
theorem zmc {os os' : Objs} {c : Cell} {d' : D} {v : Value} {t : Tag} (ht : ∀ id, t ≠ .obj id) (h : za1 40 c.d os = some (d', os')) (hG : GSim ι j own { σ with objs := os } w) (hr : zcb ι j own w t c v) :
    ∃ ι' own', GSim ι' j own' { σ with objs := os' } w ∧ Evo ι j own w ι' j own' w (ObjT os) ∧ (∀ t, ObjT os' t → ObjT os t) ∧ zcb ι' j own' w t ⟨c.keeps, d'⟩ v := by
  obtain ⟨ι', own', k1, k2, k3, k4⟩ := zgr 40 _ _ _ _ ι own v h hG hr.1
  refine ⟨ι', own', k1, k2, k3, k4, fun ho => ?_⟩
  simp only [Cell.keeps] at ho
  cases hd : c.d <;> rw [hd] at ho <;> simp only [Bool.false_eq_true] at ho
  rename_i k es
  rw [hd] at h
  have := zrm h
  simp only [Prod.mk.injEq] at this
  obtain ⟨rfl, rfl⟩ := this
  have := hr.2 ho
  rw [hd] at this
  exact k2.owned (fun hh => by obtain ⟨id, he, _⟩ := hh; exact ht id he) this
theorem zgp {t : Nat → Tag} (ht : ∀ i id, t i ≠ .obj id) : ∀ (cs : List Cell) (o : Nat) (os : Objs) (cs' : List Cell) (os' : Objs) (ι : Imm) (own : Own) (vs : List Value), zdn cs os = some (cs', os') → GSim ι j own { σ with objs := os } w →
    (∀ (i : Nat) (c : Cell), cs[i]? = some c → ∃ v, vs[i]? = some v ∧ zcb ι j own w (t (o + i)) c v) →
    ∃ ι' own', GSim ι' j own' { σ with objs := os' } w ∧ Evo ι j own w ι' j own' w (ObjT os) ∧ (∀ t, ObjT os' t → ObjT os t) ∧ cs'.length = cs.length ∧ ∀ (i : Nat) (c : Cell), cs'[i]? = some c → ∃ v, vs[i]? = some v ∧ zcb ι' j own' w (t (o + i)) c v
  | [], o, os, cs', os', ι, own, vs, h, hG, hr => by
    simp only [zdn, Option.some.injEq, Prod.mk.injEq] at h
    obtain ⟨rfl, rfl⟩ := h
    exact ⟨ι, own, hG, Evo.refl _ _ _ _ _, fun _ h => h, rfl, fun i c hi => by simp at hi⟩
  | c :: cs, o, os, cs', os', ι, own, vs, h, hG, hr => by
    simp only [zdn] at h
    obtain ⟨⟨d1, os1⟩, h1, h⟩ := zab h
    obtain ⟨⟨cs1, os2⟩, h2, h⟩ := zab h
    cases h
    obtain ⟨v0, hv0, hc0⟩ := hr 0 c rfl
    obtain ⟨ι1, own1, g1, g2, g3, g4⟩ := zmc (ht _) h1 hG hc0
    obtain ⟨ι2, own2, k1, k2, k3, k4, k5⟩ := zgp ht cs (o + 1) os1 cs1 os2 ι1 own1 (vs.drop 1) h2 g1 (fun i c hi => by
      obtain ⟨v, q1, q2⟩ := hr (i + 1) c (by simpa using hi)
      refine ⟨v, by rw [List.getElem?_drop, Nat.add_comm]; exact q1, ?_⟩
      rw [show o + 1 + i = o + (i + 1) by omega]
      exact g2.cellRel (fun _ hh => by obtain ⟨id, he, _⟩ := hh; exact ht _ id he) q2)
    refine ⟨ι2, own2, k1, g2.trans (k2.weaken g3), fun t h => g3 t (k3 t h), by simp [k4], fun i c' hi => ?_⟩
    cases i with
    | zero =>
      simp only [List.getElem?_cons_zero, Option.some.injEq] at hi
      subst hi
      exact ⟨v0, hv0, k2.cellRel (fun _ hh => by obtain ⟨id, he, _⟩ := hh; exact ht _ id he) g4⟩
    | succ i =>
      obtain ⟨v, q1, q2⟩ := k5 i c' (by simpa using hi)
      rw [List.getElem?_drop, Nat.add_comm] at q1
      refine ⟨v, q1, ?_⟩
      rw [show o + (i + 1) = o + 1 + i by omega]
      exact q2
theorem zqg {t : FTgt} {e' : Env} {σ' : Store} (h : zej t e σ = some (e', σ')) (hG : GSim ι j own σ w) (hL : LSim ι j own lb N e a w) :
    ∃ ι' own', GSim ι' j own' σ' w ∧ LSim ι' j own' lb N e' a w ∧ Evo ι j own w ι' j own' w (fun _ => True) := by
  cases t with
  | slot s =>
    simp only [zej] at h
    obtain ⟨c, h1, h⟩ := zab h
    obtain ⟨⟨d', os'⟩, h2, h⟩ := zab h
    cases h
    obtain ⟨ι', own', k1, k2, k3, k4⟩ := zmc (t := .slot s) (fun _ h => by cases h) h2 hG (hL.slots s c h1)
    refine ⟨ι', own', k1, ?_, k2.weaken fun _ _ => trivial⟩
    have hL' := hL.evo k2 (fun _ _ _ _ h => by obtain ⟨_, h, _⟩ := h; cases h) (fun _ _ _ => ⟨(fun h => by obtain ⟨_, h, _⟩ := h; cases h), (fun _ _ _ _ h => by obtain ⟨_, h, _⟩ := h; cases h)⟩)
    exact { size := hL'.size, slots := fun s' c' hs => (by
      simp only [zao] at hs
      split at hs
      · rename_i hss
        cases hs
        rw [← hss]
        exact k4
      · exact hL'.slots s' c' hs), locs := hL'.locs, boxes := hL'.boxes, defers := hL'.defers }
  | box b =>
    simp only [zej] at h
    obtain ⟨cs, h1, h⟩ := zab h
    obtain ⟨⟨cs', os'⟩, h2, h⟩ := zab h
    cases h
    obtain ⟨B, q1, q2, vs, T, q3, q4, q5⟩ := hL.boxes b cs h1
    obtain ⟨ι', own', k1, k2, k3, k4, k5⟩ := zgp (t := .cell b) (fun _ _ h => by cases h) cs 0 _ _ _ ι own vs h2 hG (fun i c hi => by
      obtain ⟨v, g1, _, g3⟩ := q5 i c hi
      exact ⟨v, g1, by rw [Nat.zero_add]; exact g3⟩)
    refine ⟨ι', own', k1, ?_, k2.weaken fun _ _ => trivial⟩
    have hL' := hL.evo k2 (fun _ _ _ _ h => by obtain ⟨_, h, _⟩ := h; cases h) (fun _ _ _ => ⟨(fun h => by obtain ⟨_, h, _⟩ := h; cases h), (fun _ _ _ _ h => by obtain ⟨_, h, _⟩ := h; cases h)⟩)
    obtain ⟨B', q1', q2', _⟩ := hL'.boxes b cs h1
    rw [q1] at q1'
    cases q1'
    refine hL'.addBox q1 q2' ⟨vs, T, q3, by show cs'.length ≤ vs.length; omega, fun i c hi => ?_⟩
    obtain ⟨v, g1, g2⟩ := k5 i c hi
    rw [Nat.zero_add] at g2
    have hlt : i < cs.length := by
      rw [← k4]
      exact (List.getElem?_eq_some_iff.1 hi).1
    obtain ⟨v', g3, g4, _⟩ := q5 i _ (List.getElem?_eq_getElem hlt)
    rw [g1] at g3
    cases g3
    exact ⟨v, g1, g4, g2⟩
  | obj s =>
    simp only [zej] at h
    obtain ⟨p, hp, h⟩ := zab h
    split at h
    · rename_i id hpd
      obtain ⟨cs, h1, h⟩ := zab h
      obtain ⟨⟨cs', os'⟩, h2, h⟩ := zab h
      cases h
      obtain ⟨B, q1, q2, q3⟩ := hG.objs id cs h1
      have hbox := q3
      obtain ⟨vs, T, g1, g2, g3⟩ := hbox
      -- the object is put aside
      have hG0 : GSim ι j own { σ with objs := adel1 σ.objs id } w := hG.sub (fun i c h => by
          simp only [zar] at h
          split at h
          · cases h
          · exact ⟨c, h, zbt.refl c⟩) (Nat.le_refl _) (fun _ _ h => h) (fun _ _ h => h)
      obtain ⟨ι', own', k1, k2, k3, k4, k5⟩ := zgp (σ := σ) (t := .ocell id) (fun _ _ h => by cases h) cs 0 _ _ _ ι own vs h2 hG0 (fun i c hi => by
        obtain ⟨v, r1, _, r3⟩ := g3 i c hi
        exact ⟨v, r1, by rw [Nat.zero_add]; exact r3⟩)
      have hnt : ¬ ObjT (adel1 σ.objs id) (.obj id) := by
        rintro ⟨i, hi, hs⟩
        cases hi
        rw [zar, if_pos rfl] at hs
        cases hs
      have hlt := hG.ownlt B _ q2
      have hown' : own' B = some (.obj id) := (k2.block B hlt (fun t h => by rw [q2] at h; cases h; exact hnt)).2.1.trans q2
      have hL' := hL.evo k2 (fun _ _ _ _ h => by obtain ⟨_, h, _⟩ := h; cases h) (fun _ _ _ => ⟨(fun h => by obtain ⟨_, h, _⟩ := h; cases h), (fun _ _ _ _ h => by obtain ⟨_, h, _⟩ := h; cases h)⟩)
      refine ⟨ι', own', ⟨k1.holds, k1.noimm, fun i c h => ?_, fun i t c h1' h2' b hb => ?_, fun i x h => k1.oth i x h, k1.jlt, k1.ownlt⟩, hL', k2.weaken fun _ _ => trivial⟩
      · simp only [zao] at h
        split at h
        · rename_i hid
          cases h
          subst hid
          refine ⟨B, q1, hown', vs, T, g1, by show cs'.length ≤ vs.length; omega, fun i c hi => ?_⟩
          obtain ⟨v, r1, r2⟩ := k5 i c hi
          rw [Nat.zero_add] at r2
          have hlt : i < cs.length := by
            rw [← k4]
            exact (List.getElem?_eq_some_iff.1 hi).1
          obtain ⟨v', r3, r4, _⟩ := g3 i _ (List.getElem?_eq_getElem hlt)
          rw [r1] at r3
          cases r3
          exact ⟨v, r1, r4, r2⟩
        · exact k1.objs i c h
      · simp only [zao] at h2'
        split at h2'
        · rename_i hid
          subst hid
          exact hG.tys _ t cs h1' h1 b hb
        · exact k1.tys i t c h1' h2' b hb
    · cases h
theorem zki : ∀ {ts : List FTgt} {e e' : Env} {σ σ' : Store} {ι : Imm} {own : Own}, zcz ts e σ = some (e', σ') → GSim ι j own σ w → LSim ι j own lb N e a w →
    ∃ ι' own', GSim ι' j own' σ' w ∧ LSim ι' j own' lb N e' a w ∧ Evo ι j own w ι' j own' w (fun _ => True)
  | [], e, e', σ, σ', ι, own, h, hG, hL => by
    simp only [zcz, Option.some.injEq, Prod.mk.injEq] at h
    obtain ⟨rfl, rfl⟩ := h
    exact ⟨ι, own, hG, hL, Evo.refl _ _ _ _ _⟩
  | t :: ts, e, e', σ, σ', ι, own, h, hG, hL => by
    simp only [zcz] at h
    obtain ⟨⟨e1, σ1⟩, h1, h⟩ := zab h
    obtain ⟨ι1, own1, k1, k2, k3⟩ := zqg h1 hG hL
    obtain ⟨ι2, own2, g1, g2, g3⟩ := zki h k1 k2
    exact ⟨ι2, own2, g1, g2, k3.trans g3⟩
end
end Go.Mx
namespace Go.Mx
open Go
def zbp (P : Program) (N : Nat) : Code → ACode → Bool
  | .skip, .skip => true
  | .region _ ops false, .region l none _ => zlc N ops && okOps P N ops ops.toList l
  | .region _ ops true, .region l (some p) _ => P.follows .mixedOrders && zwr P N ops l p
  | .seq a b, .seq a' b' => zbp P N a a' && zbp P N b b'
  | .cond c t f, .cond c' t' f' => okOpd c c' && zbp P N t t' && zbp P N f f'
  | .block i b, .block i' b' => i == i' && zbp P N b b'
  | .loop b, .loop b' => zbp P N b b'
  | .exit i, .exit i' => i == i'
  | .ret, .ret => true
  | .scope b, .scope b' => zbp P N b b'
  | _, .stuck => true
  | c, .frz _ b' => zbp P N c b'
  | _, _ => false
def okRes (P : Program) : List ResultVar → List ARes → Bool
  | [], [] => true
  | .tmp t :: l, .tmp s :: r => t == s && okRes P l r
  | .cell t ty :: l, .cell s k :: r => t == s && okK P ty k && okRes P l r
  | .cell t ty :: l, .cellA s k :: r => t == s && okK P ty (some k) && okRes P l r
  | _, _ => false
def okFun (P : Program) (fn : Func) (af : AFun) : Bool := match fn.body with
  | some c => !(fn.name == "runtime.NumGoroutine") && decide (af.nargs ≤ fn.ntmps) && zbp P fn.ntmps c af.body && okRes P fn.results.toList af.res
  | none => false
section
variable {P : Program} {N : Nat} {e : Env} {a : Go.Act} {w : World} {σ : Store} {ι ι0 : Imm} {j j0 : Lay} {own own0 : Own} {w0 : World} {lb : Lay} {κ : Ctx}
def Post (ι0 : Imm) (j0 : Lay) (own0 : Own) (w0 : World) (N : Nat) (Q : Exit → Go.Act → World → Prop) : AExit × Env × Store → Prop
  | (.normal, e, σ) => ∀ a w, St ι0 j0 own0 w0 N e σ a w → Q .normal a w
  | (.exit id, e, σ) => ∀ a w, St ι0 j0 own0 w0 N e σ a w → Q (.exit id) a w
  | (.ret, e, σ) => ∀ a w, St ι0 j0 own0 w0 N e σ a w → Q .ret a w
  | (.panic d, e, σ) => ∀ a w chain, StP ι0 j0 own0 w0 N d chain e σ a w → Q (.panic chain) a w
theorem St.clear (h : St ι0 j0 own0 w0 N e σ a w) (clr : List Nat) : St ι0 j0 own0 w0 N (zex e clr) σ a w := by
  obtain ⟨ι, j, own, lb, h1, h2, h3⟩ := h
  exact ⟨ι, j, own, lb, h1, h2.sub (fun s c h => ⟨c, zf8 _ _ _ _ h, rfl, fun h => h⟩) (fun s p h => zf8 _ _ _ _ h) (fun s cs h => ⟨cs, zf8 _ _ _ _ h, zbt.refl cs⟩) rfl, h3⟩
theorem Post.noGoto {Q : Exit → Go.Act → World → Prop} {r : AExit × Env × Store} (h : Post ι0 j0 own0 w0 N Q r) : Post ι0 j0 own0 w0 N (Exit.noGoto Q) r := by
  obtain ⟨x, e1, σ1⟩ := r
  cases x <;> exact h
theorem zci {C : CallF} (hC : zen P κ C) (hB : Base κ own0 w0) (n : Nat) : ∀ (c' : ACode) (c : Code), zbp P N c c' = true → ∀ {e σ a w r Q}, exec C n c' e σ = some r → St ι0 j0 own0 w0 N e σ a w → Post ι0 j0 own0 w0 N Q r → c.wp P Q a w
  | .skip, c, hk, e, σ, a, w, r, Q, h, hSt, hQ => by
    cases c <;> simp only [zbp, Bool.false_eq_true] at hk
    simp only [exec, Option.some.injEq] at h
    subst h
    exact wp_skip (hQ a w hSt)
  | .ret, c, hk, e, σ, a, w, r, Q, h, hSt, hQ => by
    cases c <;> simp only [zbp, Bool.false_eq_true] at hk
    simp only [exec, Option.some.injEq] at h
    subst h
    exact wp_ret (hQ a w hSt)
  | .exit id, c, hk, e, σ, a, w, r, Q, h, hSt, hQ => by
    cases c <;> simp only [zbp, Bool.false_eq_true, beq_iff_eq] at hk
    subst hk
    simp only [exec, Option.some.injEq] at h
    subst h
    exact wp_exit (hQ a w hSt)
  | .seq x' y', c, hk, e, σ, a, w, r, Q, h, hSt, hQ => by
    cases c <;> simp only [zbp, Bool.false_eq_true, Bool.and_eq_true] at hk
    rename_i x y
    simp only [exec] at h
    cases hx : exec C n x' e σ with
    | none => rw [hx] at h; cases h
    | some r1 =>
      obtain ⟨ex, e1, σ1⟩ := r1
      rw [hx] at h
      refine wp_seq (zci hC hB n x' x hk.1 hx hSt ?_)
      cases ex with
      | normal => exact fun a1 w1 h1 => zci hC hB n y' y hk.2 h h1 hQ
      | exit id => simp only [Option.some.injEq] at h; subst h; exact hQ
      | ret => simp only [Option.some.injEq] at h; subst h; exact hQ
      | panic d => simp only [Option.some.injEq] at h; subst h; exact hQ
  | .cond c0 t' f', c, hk, e, σ, a, w, r, Q, h, hSt, hQ => by
    cases c <;> simp only [zbp, Bool.false_eq_true, Bool.and_eq_true] at hk
    rename_i x t f
    simp only [exec] at h
    obtain ⟨cl, h1, h⟩ := zab h
    obtain ⟨b, h2, h⟩ := zab h
    have hx : a.eval x = .bool b := by
      obtain ⟨ι, j, own, lb, g1, g2, g3⟩ := hSt
      have hr := zan g2 hk.1.1 h1
      cases hd : cl.d <;> rw [hd] at h2 hr <;> simp only [D.bool?, reduceCtorEq, Option.some.injEq] at h2
      subst h2
      simpa only [Rep] using hr
    refine wp_cond hx ?_
    cases b with
    | true => exact zci hC hB n t' t hk.1.2 h hSt hQ
    | false => exact zci hC hB n f' f hk.2 h hSt hQ
  | .block id b', c, hk, e, σ, a, w, r, Q, h, hSt, hQ => by
    cases c <;> simp only [zbp, Bool.false_eq_true, Bool.and_eq_true, beq_iff_eq] at hk
    rename_i id2 b
    obtain ⟨rfl, hk⟩ := hk
    simp only [exec] at h
    cases hx : exec C n b' e σ with
    | none => rw [hx] at h; cases h
    | some r1 =>
      obtain ⟨ex, e1, σ1⟩ := r1
      rw [hx] at h
      refine wp_block (zci hC hB n b' b hk hx hSt ?_)
      cases ex with
      | normal => simp only [Option.some.injEq] at h; subst h; exact hQ
      | exit id' =>
        simp only at h
        by_cases hid : id' = id2
        · subst hid
          simp only [beq_self_eq_true, zae, Option.some.injEq] at h
          subst h
          intro a1 w1 h1
          simp only [Exit.inBlock, if_true]
          exact hQ a1 w1 h1
        · have : (id' == id2) = false := by simpa using hid
          simp only [this, zac, Option.some.injEq] at h
          subst h
          intro a1 w1 h1
          simp only [Exit.inBlock, if_neg hid]
          exact hQ a1 w1 h1
      | ret => simp only [Option.some.injEq] at h; subst h; exact hQ
      | panic d => simp only [Option.some.injEq] at h; subst h; exact hQ
  | .frz ts b', c, hk, e, σ, a, w, r, Q, h, hSt, hQ => by
    have hk' : zbp P N c b' = true := by cases c <;> simpa only [zbp] using hk
    simp only [exec] at h
    obtain ⟨⟨e1, σ1⟩, h1, h⟩ := zab h
    obtain ⟨ι, j, own, lb, g1, g2, g3⟩ := hSt
    obtain ⟨ι1, own1, k1, k2, k3⟩ := zki h1 g1 g2
    exact zci hC hB n b' c hk' h ⟨ι1, j, own1, lb, k1, k2, g3.trans k3⟩ hQ
  | .stuck, c, hk, e, σ, a, w, r, Q, h, hSt, hQ => by
    simp only [exec, reduceCtorEq] at h
  | .scope b', c, hk, e, σ, a, w, r, Q, h, hSt, hQ => by
    cases c <;> simp only [zbp, Bool.false_eq_true] at hk
    simp only [exec] at h
    exact wp_scope_straight (zci hC hB n b' _ hk h hSt hQ.noGoto)
  | .loop b', c, hk, e, σ, a, w, r, Q, h, hSt, hQ => by
    cases c <;> simp only [zbp, Bool.false_eq_true] at hk
    rename_i b
    simp only [exec] at h
    have key : ∀ (m : Nat) {e σ a w}, loopN (exec C n b') m e σ = some r → St ι0 j0 own0 w0 N e σ a w → Code.rounds P b Q m a w := by
      intro m
      induction m with
      | zero => intro e σ a w h _; cases h
      | succ m ih =>
        intro e σ a w h hSt
        simp only [loopN] at h
        cases hx : exec C n b' e σ with
        | none => rw [hx] at h; cases h
        | some r1 =>
          obtain ⟨ex, e1, σ1⟩ := r1
          rw [hx] at h
          rw [rounds_succ]
          refine zci hC hB n b' b hk hx hSt ?_
          cases ex with
          | normal => exact fun a1 w1 h1 => ih h h1
          | exit id => simp only [Option.some.injEq] at h; subst h; exact hQ
          | ret => simp only [Option.some.injEq] at h; subst h; exact hQ
          | panic d => simp only [Option.some.injEq] at h; subst h; exact hQ
    exact wp_loop_rounds n (key n h hSt)
  | .region l perm clr, c, hk, e, σ, a, w, r, Q, h, hSt, hQ => by
    simp only [exec] at h
    cases ho : za0 C l e σ with
    | none => rw [ho] at h; cases h
    | some out =>
      rw [ho] at h
      have hpost : perm = none → zv3 ι0 j0 own0 w0 N Q out := by
        rintro rfl
        cases out with
        | normal e1 σ1 =>
          simp only [Option.some.injEq] at h
          subst h
          exact fun a1 w1 h1 => hQ a1 w1 (h1.clear clr)
        | panic d e1 σ1 =>
          simp only [Option.some.injEq] at h
          subst h
          exact hQ
      have hpostD : ∀ p, perm = some p → zhg ι0 j0 own0 w0 N Q out := by
        rintro p rfl
        cases out with
        | normal e1 σ1 =>
          simp only [Option.some.injEq] at h
          subst h
          exact fun a1 w1 h1 => hQ a1 w1 (h1.clear clr)
        | panic d e1 σ1 =>
          simp only [Option.some.injEq] at h
          subst h
          exact hQ
      cases c with
      | region id ops d =>
        cases d with
        | false =>
          cases perm with
          | none =>
            simp only [zbp, Bool.and_eq_true] at hk
            exact wp_region_list (zhv hC hB hk.1 _ _ hk.2 ho hSt (hpost rfl))
          | some p => simp [zbp] at hk
        | true =>
          cases perm with
          | none => simp [zbp] at hk
          | some p =>
            simp only [zbp, zwr, Bool.and_eq_true, beq_iff_eq] at hk
            obtain ⟨hm, ⟨⟨⟨⟨⟨⟨⟨k1, k2⟩, k3⟩, k3b⟩, k4⟩, k5⟩, k6⟩, k7⟩⟩ := hk
            refine wp_region_any hm ?_
            have hmap1 : (p.zip l).map (·.1) = p := by
              rw [show ((p.zip l).map (·.1)) = (p.zip l).map Prod.fst from rfl, List.map_fst_zip (by omega)]
            have hmap2 : (p.zip l).map (·.2) = l := by
              rw [show ((p.zip l).map (·.2)) = (p.zip l).map Prod.snd from rfl, List.map_snd_zip (by omega)]
            have hlen : (p.zip l).length = ops.size := by rw [List.length_zip]; omega
            have hall : ∀ k, k < ops.size → k ∈ p := fun k hk => by
              simpa using List.all_eq_true.1 k3b k (List.mem_range.2 hk)
            have := zv1 hC hB k4 k5 (p.zip l) (Array.replicate ops.size false) (Q := Q) k6 k7 (by rw [hmap1]; exact zmh k3) (by simp) (fun k hk => by
              rw [hmap1]
              refine ⟨fun _ => hall k hk, fun _ => ?_⟩
              simp [hk]) (fun k hk hn => absurd (by rw [hmap1]; exact hall k hk) hn) (by rw [hmap2]; exact ho) hSt.draw (hpostD p rfl)
            rw [hlen] at this
            exact this
      | _ => simp [zbp] at hk
end
end Go.Mx
