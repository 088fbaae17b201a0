/-
  Arrays that become lists: nothing happens but in what is said of the state.
-/
import Derived.Test.YtmhedpkbfaginaaGreatDoorMyDrawn
import Derived.RangeFuncRecord
set_option linter.unusedSimpArgs false
set_option linter.unusedVariables false
set_option linter.unusedSectionVars false
namespace Go.Mx
open Go
section
variable [LoopKit] {P : Program} {ι : Imm} {j : Lay} {own : Own} {lb : Lay} {N : Nat} {e : Env} {a : Go.Act} {w : World} {σ : Store}
theorem chunks_sizes {k : RowK} (hk : (k.ag || k.sz == 1) = true) : ∀ (n : Nat) (ds : List D) (vs : List Value), n * k.sz ≤ ds.length → RepL ι j ds vs → (∀ x ∈ vs, x.oneCell' = true) →
    ∃ us, RepL ι j (chunks k n ds) us ∧ flat us = vs.take (n * k.sz) ∧ (chunks k n ds).length = n ∧ ∀ x ∈ us, x.cells.size = k.sz
  | 0, ds, vs, _, _, _ => ⟨[], by simp only [chunks, RepL], by simp [flat], rfl, by simp⟩
  | n + 1, ds, vs, hn, hr, h1 => by
    have hlen := hr.length
    rw [Nat.add_mul] at hn
    have ht : RepL ι j (ds.take k.sz) (vs.take k.sz) := hr.take k.sz
    have hd : RepL ι j (ds.drop k.sz) (vs.drop k.sz) := RepL.of (by simp [hlen]) fun i d hi => by
      rw [List.getElem?_drop] at hi ⊢
      exact hr.at _ d hi
    obtain ⟨u, hu, huc⟩ := packD_rel hk (by simp; omega) ht (fun x hx => h1 x (List.mem_of_mem_take hx))
    obtain ⟨us, k1, k2, k3, k4⟩ := chunks_sizes hk n (ds.drop k.sz) (vs.drop k.sz) (by simp; omega) hd (fun x hx => h1 x (List.mem_of_mem_drop hx))
    refine ⟨u :: us, by simp only [chunks, RepL]; exact ⟨u, us, rfl, hu, k1⟩, ?_, by simp only [chunks, List.length_cons, k3], fun x hx => ?_⟩
    · have : flat (u :: us) = u.cells.toList ++ flat us := by simp [flat]
      rw [this, huc, k2, Nat.add_mul, Nat.one_mul, Nat.add_comm, List.take_add]
    · rcases List.mem_cons.1 hx with rfl | hx
      · rw [← Array.length_toList, huc, List.length_take]
        omega
      · exact k4 x hx
theorem elems_sizes (hG : GSim ι j own σ w) {k : RowK} {id off len : Nat} {cs : List Cell} (hk : (k.ag || k.sz == 1) = true) (hc : aget σ.objs id = some cs) (hle : (off + len) * k.sz ≤ cs.length) :
    ∃ b us, j id = some b ∧ own b = some (.obj id) ∧ RepL ι j (elems k cs off len) us ∧ (elems k cs off len).length = len ∧ (∀ (n : Nat) (u : Value), (flat us)[n]? = some u → w.cell? ⟨b, off * k.sz + n, none⟩ = some u) ∧ ∀ x ∈ us, x.cells.size = k.sz := by
  obtain ⟨b, q1, q2, q3⟩ := hG.objs id cs hc
  obtain ⟨vs, T, h1, h2, h3, h4⟩ := q3.dats
  rw [Nat.add_mul] at hle
  have hlen := h3.length
  have hd : RepL ι j ((cs.map fun c => c.d).drop (off * k.sz)) ((vs.take cs.length).drop (off * k.sz)) := RepL.of (by simp; omega) fun i d hi => by
    rw [List.getElem?_drop] at hi ⊢
    exact h3.at _ d hi
  obtain ⟨us, k1, k2, k3, k4⟩ := chunks_sizes hk len _ _ (by simp; omega) hd (fun x hx => h4 x (List.mem_of_mem_drop hx))
  refine ⟨b, us, q1, q2, k1, k3, fun n u hn => ?_, k4⟩
  rw [k2, List.getElem?_take] at hn
  split at hn
  · rw [List.getElem?_drop, List.getElem?_take] at hn
    split at hn
    · rw [cell_of_row w b _ _ T (0, 0) h1]
      simpa using hn
    · cases hn
  · cases hn
def ObjT (os : Objs) (t : Tag) : Prop := ∃ id, t = .obj id ∧ (aget os id).isSome = true
theorem adel1_sub {os : Objs} {id : Nat} {t : Tag} (h : ObjT (adel1 os id) t) : ObjT os t := by
  obtain ⟨i, rfl, hi⟩ := h
  rw [aget_adel1] at hi
  split at hi
  · cases hi
  · exact ⟨i, rfl, hi⟩
theorem layImm {os : Objs} (hG : GSim ι j own { σ with objs := os } w) {id b : Nat} {cs : List Cell} (hc : aget os id = some cs) (hb : j id = some b) :
    ∃ ι' own', GSim ι' j own' { σ with objs := adel1 os id } w ∧ Evo ι j own w ι' j own' w (ObjT os) ∧ ∀ o v, o < cs.length → w.cell? ⟨b, o, none⟩ = some v → ι' b o = some v := by
  classical
  obtain ⟨b', hb', hown, hbox⟩ := hG.objs id cs hc
  rw [hb] at hb'
  cases hb'
  have hbox' := hbox
  obtain ⟨vs, T, hrow, _⟩ := hbox'
  let ι' : Imm := fun x o => if x = b then (if o < cs.length then w.cell? ⟨b, o, none⟩ else none) else ι x o
  let own' : Own := fun x => if x = b then none else own x
  have hno := hG.noimm b _ hown rfl
  have hE : Evo ι j own w ι' j own' w (fun t => t = .obj id) := by
    refine ⟨rfl, rfl, rfl, Nat.le_refl _, fun x o v h => ?_, fun _ _ h => h, fun x _ hx => ?_⟩
    · have hne : x ≠ b := fun e => by rw [e, hno o] at h; cases h
      simp only [ι', if_neg hne]
      exact h
    · have hne : x ≠ b := fun e => hx _ (e ▸ hown) rfl
      exact ⟨rfl, if_neg hne, fun o => if_neg hne⟩
  refine ⟨ι', own', ⟨fun x o v h => ?_, fun x t h hu o => ?_, fun id' cs' h => ?_, fun id' t' cs' h1 h2 x hx => ?_, fun id' x' h => ?_, hG.jlt, fun x t h => ?_⟩, hE.weaken (fun t h => by subst h; exact ⟨id, rfl, by rw [hc]; rfl⟩), fun o v ho hv => by simp only [ι', if_true, if_pos ho]; exact hv⟩
  · by_cases hx : x = b
    · subst hx
      simp only [ι', if_true] at h
      split at h
      · exact h
      · cases h
    · simp only [ι', if_neg hx] at h
      exact hG.holds x o v h
  · by_cases hx : x = b
    · simp only [own', if_pos hx] at h
      cases h
    · simp only [own', if_neg hx] at h
      simp only [ι', if_neg hx]
      exact hG.noimm x t h hu o
  · simp only [aget_adel1] at h
    split at h
    · cases h
    · rename_i hne
      obtain ⟨B, q1, q2, q3⟩ := hG.objs id' cs' h
      have hB : B ≠ b := fun e => by
        rw [e, hown] at q2
        cases q2
        exact hne rfl
      exact ⟨B, q1, by simp only [own', if_neg hB]; exact q2, hE.boxRel q2 (fun h => by cases h; exact hne rfl) (fun _ _ _ _ h => by cases h) q3⟩
  · simp only [aget_adel1] at h2
    split at h2
    · cases h2
    · exact hG.tys id' t' cs' h1 h2 x hx
  · obtain ⟨B, q1, q2, q3⟩ := hG.oth id' x' h
    have hB : B ≠ b := fun e => by
      subst e
      exact q3.notCells hrow
    exact ⟨B, q1, by simp only [own', if_neg hB]; exact q2, q3.keep rfl hE.imm hE.lay⟩
  · by_cases hx : x = b
    · simp only [own', if_pos hx] at h
      cases h
    · simp only [own', if_neg hx] at h
      exact hG.ownlt x t h
def Frz (j : Lay) (w : World) (σ : Store) (ι : Imm) (own : Own) (os os' : Objs) (Q : Imm → Prop) : Prop :=
  ∃ ι' own', GSim ι' j own' { σ with objs := os' } w ∧ Evo ι j own w ι' j own' w (ObjT os) ∧ (∀ t, ObjT os' t → ObjT os t) ∧ Q ι'
theorem Frz.refl {os : Objs} (hG : GSim ι j own { σ with objs := os } w) {Q : Imm → Prop} (hQ : Q ι) : Frz j w σ ι own os os Q := ⟨ι, own, hG, Evo.refl _ _ _ _ _, fun _ h => h, hQ⟩
theorem freezeL_sound {f : D → Objs → Option (D × Objs)} (hf : ∀ (d : D) (os : Objs) (d' : D) (os' : Objs) (ι : Imm) (own : Own) (v : Value), f d os = some (d', os') → GSim ι j own { σ with objs := os } w → Rep ι j d v → Frz j w σ ι own os os' fun ι' => Rep ι' j d' v) :
    ∀ (ds : List D) (os : Objs) (ds' : List D) (os' : Objs) (ι : Imm) (own : Own) (vs : List Value), freezeL f ds os = some (ds', os') → GSim ι j own { σ with objs := os } w → RepL ι j ds vs → Frz j w σ ι own os os' fun ι' => RepL ι' j ds' vs
  | [], os, ds', os', ι, own, vs, h, hG, hr => by
    simp only [freezeL, Option.some.injEq, Prod.mk.injEq] at h
    obtain ⟨rfl, rfl⟩ := h
    exact Frz.refl hG hr
  | d :: ds, os, ds', os', ι, own, vs, h, hG, hr => by
    simp only [freezeL] at h
    obtain ⟨⟨d1, os1⟩, h1, h⟩ := bindO_some h
    obtain ⟨⟨ds1, os2⟩, h2, h⟩ := bindO_some h
    cases h
    simp only [RepL] at hr
    obtain ⟨x, r, rfl, hx, hr⟩ := hr
    obtain ⟨ι1, own1, g1, g2, g3, g4⟩ := hf d os d1 os1 ι own x h1 hG hx
    obtain ⟨ι2, own2, k1, k2, k3, k4⟩ := freezeL_sound hf ds os1 ds1 os2 ι1 own1 r h2 g1 (g2.repL hr)
    refine ⟨ι2, own2, k1, g2.trans (k2.weaken g3), fun t h => g3 t (k3 t h), ?_⟩
    simp only [RepL]
    exact ⟨x, r, rfl, k2.rep g4, k4⟩
theorem freezeD_sound : ∀ (n : Nat) (d : D) (os : Objs) (d' : D) (os' : Objs) (ι : Imm) (own : Own) (v : Value), freezeD n d os = some (d', os') → GSim ι j own { σ with objs := os } w → Rep ι j d v → Frz j w σ ι own os os' fun ι' => Rep ι' j d' v
  | 0, d, os, d', os', ι, own, v, h, _, _ => by simp only [freezeD, reduceCtorEq] at h
  | n + 1, d, os, d', os', ι, own, v, h, hG, hr => by
    have hL := freezeL_sound (freezeD_sound n)
    cases d with
    | arr k id off len =>
      simp only [freezeD] at h
      obtain ⟨cs, hc, h⟩ := bindO_some h
      obtain ⟨hb, h⟩ := ifB_some h
      obtain ⟨⟨es, os1⟩, h1, h⟩ := bindO_some h
      cases h
      simp only [Bool.and_eq_true, decide_eq_true_eq] at hb
      obtain ⟨hk, hle⟩ := hb
      simp only [Rep] at hr
      obtain ⟨b, c, ad, r1, r2, r3, hv, r4⟩ := hr
      obtain ⟨b', us, e1, e2, e3, e4, e5, e6⟩ := elems_sizes hG hk hc hle
      rw [r1] at e1
      cases e1
      obtain ⟨ι1, own1, g1, g2, g3⟩ := layImm hG hc r1
      obtain ⟨ι2, own2, k1, k2, k3, k4⟩ := hL _ _ _ _ ι1 own1 us h1 g1 (g2.repL e3)
      refine ⟨ι2, own2, k1, g2.trans (k2.weaken fun t h => adel1_sub h), fun t h => adel1_sub (k3 t h), ?_⟩
      have hlen : es.length = len := by rw [← k4.length, e3.length, e4]
      simp only [Rep]
      refine ⟨some ad, c - off, by rw [hlen]; exact hv, by omega, by omega, ?_⟩
      rcases r4 with h0 | rfl
      · exact .inl (List.eq_nil_of_length_eq_zero (by omega))
      · refine .inr ⟨b, _, rfl, RepRow.of_vals k4 e6 fun i u hi => k2.imm _ _ _ (g3 _ _ ?_ (e5 i u hi))⟩
        have hlt := (List.getElem?_eq_some_iff.1 hi).1
        rw [flat_length e6, k4.length, hlen] at hlt
        rw [Nat.add_mul] at hle
        omega
    | agg ds =>
      simp only [freezeD] at h
      obtain ⟨⟨es, os1⟩, h1, h⟩ := bindO_some h
      cases h
      simp only [Rep] at hr
      obtain ⟨vs, hv, hr, h2⟩ := hr
      obtain ⟨ι2, own2, k1, k2, k3, k4⟩ := hL _ _ _ _ ι own vs h1 hG hr
      exact ⟨ι2, own2, k1, k2, k3, by simp only [Rep]; exact ⟨vs, hv, k4, h2⟩⟩
    | tup ds =>
      simp only [freezeD] at h
      obtain ⟨⟨es, os1⟩, h1, h⟩ := bindO_some h
      cases h
      simp only [Rep] at hr
      obtain ⟨vs, hv, hr⟩ := hr
      obtain ⟨ι2, own2, k1, k2, k3, k4⟩ := hL _ _ _ _ ι own vs h1 hG hr
      exact ⟨ι2, own2, k1, k2, k3, by simp only [Rep]; exact ⟨vs, hv, k4⟩⟩
    | iface t d =>
      simp only [freezeD] at h
      obtain ⟨⟨es, os1⟩, h1, h⟩ := bindO_some h
      cases h
      simp only [Rep] at hr
      obtain ⟨x, hv, hr⟩ := hr
      obtain ⟨ι2, own2, k1, k2, k3, k4⟩ := freezeD_sound n _ _ _ _ ι own x h1 hG hr
      exact ⟨ι2, own2, k1, k2, k3, by simp only [Rep]; exact ⟨x, hv, k4⟩⟩
    | _ =>
      simp only [freezeD, Option.some.injEq, Prod.mk.injEq] at h
      obtain ⟨rfl, rfl⟩ := h
      exact Frz.refl hG hr
theorem freezeD_list {n : Nat} {k : RowK} {es : List D} {os : Objs} {r : D × Objs} (h : freezeD n (.list k es) os = some r) : r = (.list k es, os) := by
  cases n with
  | zero => simp only [freezeD, reduceCtorEq] at h
  | succ n => simp only [freezeD, Option.some.injEq] at h; exact h.symm
theorem freeze_cell {os os' : Objs} {c : Cell} {d' : D} {v : Value} {t : Tag} (ht : ∀ id, t ≠ .obj id) (h : freezeD 40 c.d os = some (d', os')) (hG : GSim ι j own { σ with objs := os } w) (hr : CellRel ι j own w t c v) :
    ∃ ι' own', GSim ι' j own' { σ with objs := os' } w ∧ Evo ι j own w ι' j own' w (ObjT os) ∧ (∀ t, ObjT os' t → ObjT os t) ∧ CellRel ι' j own' w t ⟨c.keeps, d'⟩ v := by
  obtain ⟨ι', own', k1, k2, k3, k4⟩ := freezeD_sound 40 _ _ _ _ ι own v h hG hr.1
  refine ⟨ι', own', k1, k2, k3, k4, fun ho => ?_⟩
  simp only [Cell.keeps] at ho
  cases hd : c.d <;> rw [hd] at ho <;> simp only [Bool.false_eq_true] at ho
  rename_i k es
  rw [hd] at h
  have := freezeD_list h
  simp only [Prod.mk.injEq] at this
  obtain ⟨rfl, rfl⟩ := this
  have := hr.2 ho
  rw [hd] at this
  exact k2.owned (fun hh => by obtain ⟨id, he, _⟩ := hh; exact ht id he) this
theorem freezeC_sound {t : Nat → Tag} (ht : ∀ i id, t i ≠ .obj id) : ∀ (cs : List Cell) (o : Nat) (os : Objs) (cs' : List Cell) (os' : Objs) (ι : Imm) (own : Own) (vs : List Value), freezeC cs os = some (cs', os') → GSim ι j own { σ with objs := os } w →
    (∀ (i : Nat) (c : Cell), cs[i]? = some c → ∃ v, vs[i]? = some v ∧ CellRel ι j own w (t (o + i)) c v) →
    ∃ ι' own', GSim ι' j own' { σ with objs := os' } w ∧ Evo ι j own w ι' j own' w (ObjT os) ∧ (∀ t, ObjT os' t → ObjT os t) ∧ cs'.length = cs.length ∧ ∀ (i : Nat) (c : Cell), cs'[i]? = some c → ∃ v, vs[i]? = some v ∧ CellRel ι' j own' w (t (o + i)) c v
  | [], o, os, cs', os', ι, own, vs, h, hG, hr => by
    simp only [freezeC, Option.some.injEq, Prod.mk.injEq] at h
    obtain ⟨rfl, rfl⟩ := h
    exact ⟨ι, own, hG, Evo.refl _ _ _ _ _, fun _ h => h, rfl, fun i c hi => by simp at hi⟩
  | c :: cs, o, os, cs', os', ι, own, vs, h, hG, hr => by
    simp only [freezeC] at h
    obtain ⟨⟨d1, os1⟩, h1, h⟩ := bindO_some h
    obtain ⟨⟨cs1, os2⟩, h2, h⟩ := bindO_some h
    cases h
    obtain ⟨v0, hv0, hc0⟩ := hr 0 c rfl
    obtain ⟨ι1, own1, g1, g2, g3, g4⟩ := freeze_cell (ht _) h1 hG hc0
    obtain ⟨ι2, own2, k1, k2, k3, k4, k5⟩ := freezeC_sound ht cs (o + 1) os1 cs1 os2 ι1 own1 (vs.drop 1) h2 g1 (fun i c hi => by
      obtain ⟨v, q1, q2⟩ := hr (i + 1) c (by simpa using hi)
      refine ⟨v, by rw [List.getElem?_drop, Nat.add_comm]; exact q1, ?_⟩
      rw [show o + 1 + i = o + (i + 1) by omega]
      exact g2.cellRel (fun _ hh => by obtain ⟨id, he, _⟩ := hh; exact ht _ id he) q2)
    refine ⟨ι2, own2, k1, g2.trans (k2.weaken g3), fun t h => g3 t (k3 t h), by simp [k4], fun i c' hi => ?_⟩
    cases i with
    | zero =>
      simp only [List.getElem?_cons_zero, Option.some.injEq] at hi
      subst hi
      exact ⟨v0, hv0, k2.cellRel (fun _ hh => by obtain ⟨id, he, _⟩ := hh; exact ht _ id he) g4⟩
    | succ i =>
      obtain ⟨v, q1, q2⟩ := k5 i c' (by simpa using hi)
      rw [List.getElem?_drop, Nat.add_comm] at q1
      refine ⟨v, q1, ?_⟩
      rw [show o + (i + 1) = o + 1 + i by omega]
      exact q2
theorem promS_get (L : List (Nat × (Nat × Nat))) (s id : Nat) : ∀ (l : List (Nat × (Nat × Nat))) (sl : List (Nat × Cell)) (t : Nat) (c : Cell), aget (promS L s id l sl) t = some c → aget sl t = some c ∨ ∃ o, aget L t = some (s, o) ∧ c = ⟨false, .ptr id o⟩
  | [], _, _, _, h => .inl h
  | p :: r, sl, t, c, h => by
    simp only [promS] at h
    rcases promS_get L s id r _ t c h with h | h
    · cases hp : aget L p.1 with
      | none => rw [hp] at h; exact .inl h
      | some q =>
        rw [hp] at h
        simp only [caseO_some] at h
        cases hq : q.1 == s with
        | false => rw [hq] at h; exact .inl h
        | true =>
          rw [hq, ifB_true, aget_aset] at h
          split at h
          · rename_i he
            cases h
            refine .inr ⟨q.2, ?_, rfl⟩
            rw [← he, hp, ← eq_of_beq hq]
          · exact .inl h
    · exact .inr h
theorem promote_sound {s : Nat} {cs : List Cell} (hG : GSim ι j own σ w) (hL : LSim ι j own lb N e a w) (h1 : aget e.boxes s = some cs) (h2 : aget e.locs s = some (s, 0)) :
    ∃ ι' j' own', GSim ι' j' own' { σ with objs := (σ.next, cs.map fun c => Cell.of c.d) :: σ.objs, tys := adel1 σ.tys σ.next, next := σ.next + 1 } w ∧
      LSim ι' j' own' lb N { e with slots := promS e.locs s σ.next e.locs e.slots, locs := lkill (adel1 e.locs s) s, boxes := adel1 e.boxes s } a w ∧ Evo ι j own w ι' j' own' w (fun _ => True) := by
  classical
  obtain ⟨B, q1, q2, q3⟩ := hL.boxes s cs h1
  obtain ⟨B', g1, g2⟩ := hL.locs s s 0 h2
  rw [q1] at g1
  cases g1
  let j' : Lay := fun i => if i = σ.next then some B else j i
  let own' : Own := fun b => if b = B then some (.obj σ.next) else own b
  have hjn : ∀ i b, j i = some b → i ≠ σ.next := fun i b h e => by have := hG.jlt i b h; omega
  have hlay : ∀ i b, j i = some b → j' i = some b := fun i b h => by simp only [j', if_neg (hjn i b h)]; exact h
  have hE : Evo ι j own w ι j' own' w (fun t => t = .box s) := by
    refine ⟨rfl, rfl, rfl, Nat.le_refl _, fun _ _ _ h => h, hlay, fun b _ ht => ⟨rfl, ?_, fun _ => rfl⟩⟩
    have hb : b ≠ B := fun e => ht _ (e ▸ q2) rfl
    simp only [own', if_neg hb]
  refine ⟨ι, j', own', ⟨hG.holds, fun b t h hu o => ?_, fun id cs' h => ?_, fun id t cs' h1' h2' b hb => ?_, fun id x h => ?_, fun id b h => ?_, fun b t h => ?_⟩, ?_, hE.weaken fun _ _ => trivial⟩
  · by_cases hb : b = B
    · subst hb
      exact hG.noimm b _ q2 rfl o
    · simp only [own', if_neg hb] at h
      exact hG.noimm b t h hu o
  · simp only [aget_cons] at h
    by_cases hid : σ.next = id
    · rw [if_pos hid] at h
      cases h
      subst hid
      obtain ⟨vs, T, r1, r2, r3⟩ := q3
      refine ⟨B, if_pos rfl, if_pos rfl, vs, T, r1, by simpa using r2, fun i c hi => ?_⟩
      rw [List.getElem?_map, Option.map_eq_some_iff] at hi
      obtain ⟨c0, hi, rfl⟩ := hi
      obtain ⟨v, v1, v2, v3⟩ := r3 i c0 hi
      exact ⟨v, v1, v2, Rep.mono (fun _ _ _ h => h) hlay _ _ v3.1, fun h => by cases h⟩
    · rw [if_neg hid] at h
      obtain ⟨B2, r1, r2, r3⟩ := hG.objs id cs' h
      have hne : B2 ≠ B := fun e => by
        subst e
        rw [q2] at r2
        cases r2
      exact ⟨B2, hlay _ _ r1, by simp only [own', if_neg hne]; exact r2, hE.boxRel r2 (fun h => by cases h) (fun _ _ _ _ h => by cases h) r3⟩
  · simp only [aget_cons] at h2'
    simp only [aget_adel1] at h1'
    by_cases hid : σ.next = id
    · rw [if_pos hid] at h1'
      cases h1'
    · rw [if_neg hid] at h2' h1'
      have hid2 : ¬ id = σ.next := fun e => hid e.symm
      have hjb : j id = some b := by
        simp only [j', if_neg hid2] at hb
        exact hb
      exact (hG.tys id t cs' h1' h2' b hjb).keep rfl hlay
  · obtain ⟨B2, r1, r2, r3⟩ := hG.oth id x h
    have hne : B2 ≠ B := fun e => by
      subst e
      rw [q2] at r2
      cases r2
    exact ⟨B2, hlay _ _ r1, by simp only [own', if_neg hne]; exact r2, r3.keep rfl (fun _ _ _ h => h) hlay⟩
  · by_cases hid : id = σ.next
    · simp only; omega
    · simp only [j', if_neg hid] at h
      have := hG.jlt id b h
      simp only; omega
  · by_cases hb : b = B
    · subst hb
      exact hG.ownlt b _ q2
    · simp only [own', if_neg hb] at h
      exact hG.ownlt b t h
  · have hL0 : LSim ι j own lb N { e with locs := lkill (adel1 e.locs s) s, boxes := adel1 e.boxes s } a w := hL.sub (fun s' c h => ⟨c, h, rfl, fun h => h⟩) (fun s' p h => by
        have := (aget_lkill _ _ _ _ _ (show aget (lkill (adel1 e.locs s) s) s' = some (p.1, p.2) from h)).2
        rw [aget_adel1] at this
        split at this
        · cases this
        · exact this) (fun s' cs' h => by
        rw [aget_adel1] at h
        split at h
        · cases h
        · exact ⟨cs', h, Weaker.refl _⟩) rfl
    have hL1 := hL0.evo hE (fun _ _ _ _ h => by cases h) (fun s' cs' hs => ⟨(fun h => by
      cases h
      simp only [aget_adel1, if_true] at hs
      cases hs), (fun _ _ _ _ h => by cases h)⟩)
    exact { size := hL1.size, slots := fun s' c' hs => (by
      rcases promS_get _ _ _ _ _ _ _ hs with hs | ⟨o, ho, rfl⟩
      · exact hL1.slots s' c' hs
      · obtain ⟨B', z1, z2⟩ := hL.locs s' s o ho
        rw [q1] at z1
        cases z1
        refine ⟨?_, fun h => by cases h⟩
        rw [z2]
        simp only [Rep]
        exact ⟨B, if_pos rfl, rfl⟩), locs := hL1.locs, boxes := hL1.boxes, defers := hL1.defers }
theorem freeze1_sound {t : FTgt} {e' : Env} {σ' : Store} (h : freeze1 t e σ = some (e', σ')) (hG : GSim ι j own σ w) (hL : LSim ι j own lb N e a w) :
    ∃ ι' j' own', GSim ι' j' own' σ' w ∧ LSim ι' j' own' lb N e' a w ∧ Evo ι j own w ι' j' own' w (fun _ => True) := by
  cases t with
  | promote s =>
    simp only [freeze1] at h
    obtain ⟨cs, h1, h⟩ := bindO_some h
    obtain ⟨p, h2, h⟩ := bindO_some h
    obtain ⟨h3, h⟩ := ifB_some h
    cases h
    obtain ⟨p1, p2⟩ := p
    simp only [Bool.and_eq_true, beq_iff_eq] at h3
    obtain ⟨rfl, rfl⟩ := h3
    exact promote_sound hG hL h1 h2
  | slot s =>
    simp only [freeze1] at h
    obtain ⟨c, h1, h⟩ := bindO_some h
    obtain ⟨⟨d', os'⟩, h2, h⟩ := bindO_some h
    cases h
    obtain ⟨ι', own', k1, k2, k3, k4⟩ := freeze_cell (t := .slot s) (fun _ h => by cases h) h2 hG (hL.slots s c h1)
    refine ⟨ι', j, own', k1, ?_, k2.weaken fun _ _ => trivial⟩
    have hL' := hL.evo k2 (fun _ _ _ _ h => by obtain ⟨_, h, _⟩ := h; cases h) (fun _ _ _ => ⟨(fun h => by obtain ⟨_, h, _⟩ := h; cases h), (fun _ _ _ _ h => by obtain ⟨_, h, _⟩ := h; cases h)⟩)
    exact { size := hL'.size, slots := fun s' c' hs => (by
      simp only [aget_aset] at hs
      split at hs
      · rename_i hss
        cases hs
        rw [← hss]
        exact k4
      · exact hL'.slots s' c' hs), locs := hL'.locs, boxes := hL'.boxes, defers := hL'.defers }
  | box b =>
    simp only [freeze1] at h
    obtain ⟨cs, h1, h⟩ := bindO_some h
    obtain ⟨⟨cs', os'⟩, h2, h⟩ := bindO_some h
    cases h
    obtain ⟨B, q1, q2, vs, T, q3, q4, q5⟩ := hL.boxes b cs h1
    obtain ⟨ι', own', k1, k2, k3, k4, k5⟩ := freezeC_sound (t := .cell b) (fun _ _ h => by cases h) cs 0 _ _ _ ι own vs h2 hG (fun i c hi => by
      obtain ⟨v, g1, _, g3⟩ := q5 i c hi
      exact ⟨v, g1, by rw [Nat.zero_add]; exact g3⟩)
    refine ⟨ι', j, own', k1, ?_, k2.weaken fun _ _ => trivial⟩
    have hL' := hL.evo k2 (fun _ _ _ _ h => by obtain ⟨_, h, _⟩ := h; cases h) (fun _ _ _ => ⟨(fun h => by obtain ⟨_, h, _⟩ := h; cases h), (fun _ _ _ _ h => by obtain ⟨_, h, _⟩ := h; cases h)⟩)
    obtain ⟨B', q1', q2', _⟩ := hL'.boxes b cs h1
    rw [q1] at q1'
    cases q1'
    refine hL'.addBox q1 q2' ⟨vs, T, q3, by show cs'.length ≤ vs.length; omega, fun i c hi => ?_⟩
    obtain ⟨v, g1, g2⟩ := k5 i c hi
    rw [Nat.zero_add] at g2
    have hlt : i < cs.length := by
      rw [← k4]
      exact (List.getElem?_eq_some_iff.1 hi).1
    obtain ⟨v', g3, g4, _⟩ := q5 i _ (List.getElem?_eq_getElem hlt)
    rw [g1] at g3
    cases g3
    exact ⟨v, g1, g4, g2⟩
  | obj s =>
    simp only [freeze1] at h
    obtain ⟨p, hp, h⟩ := bindO_some h
    split at h
    · rename_i id hpd
      obtain ⟨cs, h1, h⟩ := bindO_some h
      obtain ⟨⟨cs', os'⟩, h2, h⟩ := bindO_some h
      cases h
      obtain ⟨B, q1, q2, q3⟩ := hG.objs id cs h1
      have hbox := q3
      obtain ⟨vs, T, g1, g2, g3⟩ := hbox
      -- the object is put aside
      have hG0 : GSim ι j own { σ with objs := adel1 σ.objs id } w := hG.sub (fun i c h => by
          simp only [aget_adel1] at h
          split at h
          · cases h
          · exact ⟨c, h, Weaker.refl c⟩) (Nat.le_refl _) (fun _ _ h => h) (fun _ _ h => h)
      obtain ⟨ι', own', k1, k2, k3, k4, k5⟩ := freezeC_sound (σ := σ) (t := .ocell id) (fun _ _ h => by cases h) cs 0 _ _ _ ι own vs h2 hG0 (fun i c hi => by
        obtain ⟨v, r1, _, r3⟩ := g3 i c hi
        exact ⟨v, r1, by rw [Nat.zero_add]; exact r3⟩)
      have hnt : ¬ ObjT (adel1 σ.objs id) (.obj id) := by
        rintro ⟨i, hi, hs⟩
        cases hi
        rw [aget_adel1, if_pos rfl] at hs
        cases hs
      have hlt := hG.ownlt B _ q2
      have hown' : own' B = some (.obj id) := (k2.block B hlt (fun t h => by rw [q2] at h; cases h; exact hnt)).2.1.trans q2
      have hL' := hL.evo k2 (fun _ _ _ _ h => by obtain ⟨_, h, _⟩ := h; cases h) (fun _ _ _ => ⟨(fun h => by obtain ⟨_, h, _⟩ := h; cases h), (fun _ _ _ _ h => by obtain ⟨_, h, _⟩ := h; cases h)⟩)
      refine ⟨ι', j, own', ⟨k1.holds, k1.noimm, fun i c h => ?_, fun i t c h1' h2' b hb => ?_, fun i x h => k1.oth i x h, k1.jlt, k1.ownlt⟩, hL', k2.weaken fun _ _ => trivial⟩
      · simp only [aget_aset] at h
        split at h
        · rename_i hid
          cases h
          subst hid
          refine ⟨B, q1, hown', vs, T, g1, by show cs'.length ≤ vs.length; omega, fun i c hi => ?_⟩
          obtain ⟨v, r1, r2⟩ := k5 i c hi
          rw [Nat.zero_add] at r2
          have hlt : i < cs.length := by
            rw [← k4]
            exact (List.getElem?_eq_some_iff.1 hi).1
          obtain ⟨v', r3, r4, _⟩ := g3 i _ (List.getElem?_eq_getElem hlt)
          rw [r1] at r3
          cases r3
          exact ⟨v, r1, r4, r2⟩
        · exact k1.objs i c h
      · simp only [aget_aset] at h2'
        split at h2'
        · rename_i hid
          subst hid
          exact hG.tys _ t cs h1' h1 b hb
        · exact k1.tys i t c h1' h2' b hb
    · cases h
theorem freezes_sound : ∀ {ts : List FTgt} {e e' : Env} {σ σ' : Store} {ι : Imm} {j : Lay} {own : Own}, freezes ts e σ = some (e', σ') → GSim ι j own σ w → LSim ι j own lb N e a w →
    ∃ ι' j' own', GSim ι' j' own' σ' w ∧ LSim ι' j' own' lb N e' a w ∧ Evo ι j own w ι' j' own' w (fun _ => True)
  | [], e, e', σ, σ', ι, j, own, h, hG, hL => by
    simp only [freezes, Option.some.injEq, Prod.mk.injEq] at h
    obtain ⟨rfl, rfl⟩ := h
    exact ⟨ι, j, own, hG, hL, Evo.refl _ _ _ _ _⟩
  | t :: ts, e, e', σ, σ', ι, j, own, h, hG, hL => by
    simp only [freezes] at h
    obtain ⟨⟨e1, σ1⟩, h1, h⟩ := bindO_some h
    obtain ⟨ι1, j1, own1, k1, k2, k3⟩ := freeze1_sound h1 hG hL
    obtain ⟨ι2, j2, own2, g1, g2, g3⟩ := freezes_sound h k1 k2
    exact ⟨ι2, j2, own2, g1, g2, k3.trans g3⟩
end
end Go.Mx
namespace Go.Mx
open Go
section
variable [LoopKit] {P : Program} {ι : Imm} {j : Lay} {own : Own} {lb : Lay} {N : Nat} {e : Env} {a : Go.Act} {w : World} {σ : Store}
theorem newOthG (hG : GSim ι j own σ w) {x : Oth} {ob : Obj} (hx : ∀ j' : Lay, (∀ i b, j i = some b → j' i = some b) → OthRel ι j' (w.alloc ob) w.heap.size x) :
    ∃ j' own', GSim ι j' own' { σ with oth := (σ.next, x) :: σ.oth, next := σ.next + 1 } (w.alloc ob) ∧ Evo ι j own w ι j' own' (w.alloc ob) (fun _ => False) ∧ j' σ.next = some w.heap.size := by
  classical
  let j' : Lay := fun i => if i = σ.next then some w.heap.size else j i
  have hjn : ∀ i b, j i = some b → i ≠ σ.next := fun i b h e => by have := hG.jlt i b h; omega
  have hE0 := newBlock_evo hG ob (.obj σ.next)
  have hE : Evo ι j own w ι j' (fun b => if b = w.heap.size then some (.obj σ.next) else own b) (w.alloc ob) (fun _ => False) :=
    ⟨hE0.os, hE0.tape, hE0.output, hE0.size, hE0.imm, fun i b h => by simp only [j', if_neg (hjn i b h)]; exact h, hE0.block⟩
  have hG0 := newBlock_gsim hG ob (.obj σ.next)
  refine ⟨j', _, ?_, hE, if_pos rfl⟩
  refine ⟨hG0.holds, hG0.noimm, fun id cs h => ?_, fun id t cs h1 h2 b hb => ?_, fun id x' h => ?_, fun id b h => ?_, hG0.ownlt⟩
  · obtain ⟨B, q1, q2, q3⟩ := hG.objs id cs h
    have hlt := hG.ownlt B _ q2
    exact ⟨B, hE.lay _ _ q1, by rw [if_neg (by omega)]; exact q2, hE.boxRel q2 (fun h => h) (fun _ _ _ _ h => h) q3⟩
  · obtain ⟨B, q1, q2, q3⟩ := hG.objs id cs h2
    have hb' := hE.lay _ _ q1
    rw [hb] at hb'
    cases hb'
    have hlt := hG.ownlt b _ q2
    exact (hG.tys id t cs h1 h2 b q1).keep (heap_alloc_old w _ hlt) hE.lay
  · simp only [aget_cons] at h
    by_cases hid : σ.next = id
    · rw [if_pos hid] at h
      cases h
      subst hid
      exact ⟨w.heap.size, if_pos rfl, if_pos rfl, hx _ hE.lay⟩
    · rw [if_neg hid] at h
      obtain ⟨B, q1, q2, q3⟩ := hG.oth id x' h
      have hlt := hG.ownlt B _ q2
      exact ⟨B, hE.lay _ _ q1, by rw [if_neg (by omega)]; exact q2, q3.keep (heap_alloc_old w _ hlt) hE.imm hE.lay⟩
  · by_cases hid : id = σ.next
    · simp only; omega
    · simp only [j', if_neg hid] at h
      have := hG.jlt id b h
      simp only; omega
theorem LSim.evoF {ι' : Imm} {j' : Lay} {own' : Own} {w' : World} (h : Evo ι j own w ι' j' own' w' (fun _ => False)) (hL : LSim ι j own lb N e a w) : LSim ι' j' own' lb N e a w' :=
  hL.evo h (fun _ _ _ _ h => h) (fun _ _ _ => ⟨fun h => h, fun _ _ _ _ h => h⟩)
theorem LSim.evoO {ι' : Imm} {j' : Lay} {own' : Own} {w' : World} {id : Nat} (h : Evo ι j own w ι' j' own' w' (fun t => t = .obj id)) (hL : LSim ι j own lb N e a w) : LSim ι' j' own' lb N e a w' :=
  hL.evo h (fun _ _ _ _ h => by cases h) (fun _ _ _ => ⟨(fun h => by cases h), (fun _ _ _ _ h => by cases h)⟩)
theorem aget_snap : ∀ (l : List (Nat × Cell)) (s : Nat) (c : Cell), aget (snap l) s = some c → c.own = false ∧ ∃ c0, aget l s = some c0 ∧ c0.d = c.d
  | [], s, c, h => by simp [snap, aget_nil] at h
  | (k, c1) :: r, s, c, h => by
    simp only [snap, aget_cons] at h
    rw [aget_cons]
    by_cases hk : k = s
    · rw [if_pos hk] at h ⊢
      cases h
      exact ⟨rfl, c1, rfl, rfl⟩
    · rw [if_neg hk] at h ⊢
      exact aget_snap r s c h
theorem loopAt_eq {l : Nat} {r : LRec} (h : loopAt σ l = some r) : aget σ.oth l = some (.loop r) := by
  unfold loopAt at h
  obtain ⟨x, h1, h⟩ := bindO_some h
  cases x <;> simp only [reduceCtorEq, Option.some.injEq] at h
  rw [h1, h]
theorem run_enterLoop_in {l₀ : Nat} {r₀ : Loop} (h : w.heap[l₀]? = some (.loop r₀)) (fn : FuncId) (tmps : Array Value) (ps : Array Tmp) (assign body : Code) :
    (Instr.enterLoop fn tmps ps assign body (some l₀)).run P w =
      .ok (w.heap.size, []) (w.alloc (.loop { state := .ready, pending := none, fn, tmps, params := ps, assign, body, defers := r₀.defers })) := by
  unfold Instr.enterLoop
  simp only [Sem.run_bind, run_getLoop h, run_newObj_alloc, Result.andThen, Sem.run_pure]
def RoAt (j : Lay) (ro r : Option Nat) : Prop := match ro with
  | none => r = none
  | some id => ∃ b, r = some b ∧ j id = some b
theorem RoAt.mono {j' : Lay} {ro r : Option Nat} (h : RoAt j ro r) (hj : ∀ i b, j i = some b → j' i = some b) : RoAt j' ro r := by
  cases ro with
  | none => exact h
  | some id => obtain ⟨b, h1, h2⟩ := h; exact ⟨b, h1, hj _ _ h2⟩
theorem enter_sound (hG : GSim ι j own σ w) (hL : LSim ι j own lb N e a w) {ro r : Option Nat} (hro : RoAt j ro r) {ps : Array Tmp} {assign body : Code} {ps' : List Nat} {assign' body' : ACode}
    (hps : ps = ⟨ps'⟩) (hpN : ∀ p ∈ ps', p < N) (h1 : LoopKit.ok N assign assign') (h2 : LoopKit.ok N body body') {lid : Nat} {e' : Env} {σ' : Store} (h : enterLoop ro ⟨snap e.slots, ps', assign', body', .ready⟩ e σ = some (lid, e', σ')) (fn : FuncId) :
    ∃ (l : Nat) (mark : List Deferred) (w' : World) (j' : Lay) (own' : Own), (Instr.enterLoop fn a.tmps ps assign body r).run P w = .ok (l, mark) w' ∧ GSim ι j' own' σ' w' ∧ LSim ι j' own' lb N e' { a with defers := mark ++ a.defers } w' ∧
      Evo ι j own w ι j' own' w' (fun _ => False) ∧ j' lid = some l := by
  have hrec : ∀ (df : Nat) (j0 j' : Lay) (W : World), (∀ i b, j i = some b → j0 i = some b) → (∀ i b, j0 i = some b → j' i = some b) → OthRel ι j' (W.alloc (.loop { state := .ready, pending := none, fn, tmps := a.tmps, params := ps, assign, body, defers := df })) W.heap.size (.loop ⟨snap e.slots, ps', assign', body', .ready⟩) := by
    intro df j0 j' W hj hj'
    refine ⟨_, heap_alloc_new W _, hps, (by rw [hL.size]; exact hpN), fun s c hs => ?_, by rw [hL.size]; exact h1, by rw [hL.size]; exact h2, rfl, rfl⟩
    obtain ⟨k1, c0, k2, k3⟩ := aget_snap _ _ _ hs
    refine ⟨k1, ?_⟩
    rw [← k3]
    exact Rep.mono (fun _ _ _ h => h) (fun i b h => hj' _ _ (hj _ _ h)) _ _ (hL.slots s c0 k2).1
  cases ro with
  | none =>
    simp only [RoAt] at hro
    subst hro
    simp only [enterLoop, Option.some.injEq, Prod.mk.injEq] at h
    obtain ⟨rfl, rfl, rfl⟩ := h
    obtain ⟨j1, own1, g1, g2, g3⟩ := newOthG hG (x := .dfr) (ob := .deferred (some [])) (fun j' _ => heap_alloc_new w _)
    obtain ⟨j2, own2, k1, k2, k3⟩ := newOthG g1 (x := .loop ⟨snap e.slots, ps', assign', body', .ready⟩) (ob := .loop { state := .ready, pending := none, fn, tmps := a.tmps, params := ps, assign, body, defers := w.heap.size }) (fun j' hj' => hrec _ j1 j' _ g2.lay hj')
    refine ⟨_, _, _, j2, own2, run_enterLoop_outer _ _ _ _ _, k1, ?_, g2.trans k2, ?_⟩
    · have hL2 := (hL.evoF g2).evoF k2
      refine { size := hL2.size, slots := hL2.slots, locs := hL2.locs, boxes := hL2.boxes, defers := ?_ }
      simp only [List.cons_append, List.nil_append]
      refine ⟨_, _, rfl, hL2.defers, ?_⟩
      rw [if_pos (isY_add _), Nat.add_sub_cancel_left]
      exact ⟨_, k2.lay _ _ g3, rfl⟩
    · simpa using k3
  | some id =>
    obtain ⟨b, rfl, hb⟩ := hro
    simp only [enterLoop] at h
    obtain ⟨r0, h0, h⟩ := bindO_some h
    cases h
    obtain ⟨b', q1, _, L, q3, _⟩ := hG.oth id _ (loopAt_eq h0)
    rw [hb] at q1
    cases q1
    obtain ⟨j2, own2, k1, k2, k3⟩ := newOthG hG (x := .loop ⟨snap e.slots, ps', assign', body', .ready⟩) (ob := .loop { state := .ready, pending := none, fn, tmps := a.tmps, params := ps, assign, body, defers := L.defers }) (fun j' hj' => hrec _ j j' _ (fun _ _ h => h) hj')
    exact ⟨_, _, _, j2, own2, run_enterLoop_in q3 _ _ _ _ _, k1, hL.evoF k2, k2, k3⟩
theorem setLoop_sound (hG : GSim ι j own σ w) {l b : Nat} {r : LRec} (hl : loopAt σ l = some r) (hb : j l = some b) {st : LSt} {s : LoopState} {p : Option Code} (hst : stRel st s p) :
    ∃ L : Loop, w.heap[b]? = some (.loop L) ∧ stRel r.st L.state L.pending ∧ GSim ι j own (setLoop σ l r st) (w.putObj b (.loop { L with state := s, pending := p })) ∧ Evo ι j own w ι j own (w.putObj b (.loop { L with state := s, pending := p })) (fun t => t = .obj l) := by
  obtain ⟨b', q1, q2, q3⟩ := hG.oth l _ (loopAt_eq hl)
  rw [hb] at q1
  cases q1
  obtain ⟨L, k1, k2, k2b, k3, k4, k5, k6⟩ := q3
  obtain ⟨g1, g2⟩ := othPut hG (y := .loop { r with st := st }) (ob := .loop { L with state := s, pending := p }) (loopAt_eq hl) hb q2 (fun w' hw' => ⟨_, hw', k2, k2b, k3, k4, k5, hst⟩) rfl
  exact ⟨L, k1, k6, g1, g2⟩
theorem freePut (hG : GSim ι j own σ w) {id B : Nat} {x : Oth} {ob : Obj} (hB : j id = some B) (hown : own B = some (.obj id)) (hid : aget σ.oth id = some x) :
    GSim ι j own { σ with oth := adel1 σ.oth id } (w.putObj B ob) ∧ Evo ι j own w ι j own (w.putObj B ob) (fun t => t = .obj id) := by
  obtain ⟨B', hB', _, hrel⟩ := hG.oth id x hid
  rw [hB] at hB'
  cases hB'
  have hBlt := hrel.lt
  have hoth : ∀ b, b ≠ B → (w.putObj B ob).heap[b]? = w.heap[b]? := fun b hb => World.putObj_heap_other hb
  have hE : Evo ι j own w ι j own (w.putObj B ob) (fun t => t = .obj id) :=
    ⟨rfl, rfl, rfl, by simp, fun _ _ _ h => h, fun _ _ h => h, fun b _ hb => ⟨hoth b (fun e => hb _ (e ▸ hown) rfl), rfl, fun _ => rfl⟩⟩
  refine ⟨?_, hE⟩
  refine ⟨fun b o' v h => ?_, hG.noimm, fun id' cs h => ?_, fun id' t cs h1 h2 b hb => ?_, fun id' x' h => ?_, hG.jlt, fun b t h => Nat.lt_of_lt_of_le (hG.ownlt b t h) hE.size⟩
  · have hne : b ≠ B := fun e => by
      rw [e, hG.noimm B _ hown rfl o'] at h
      cases h
    rw [World.cell?_of_block (w := w) (w' := w.putObj B ob) (a := ⟨b, o', none⟩) (hoth b hne)]
    exact hG.holds b o' v h
  · obtain ⟨B2, q1, q2, q3⟩ := hG.objs id' cs h
    have hne : B2 ≠ B := fun e => by
      obtain ⟨vs, T, h1, _⟩ := q3
      rw [e] at h1
      exact hrel.notCells h1
    have hid' : id' ≠ id := fun e => by
      subst e
      rw [hB] at q1
      cases q1
      exact hne rfl
    exact ⟨B2, q1, q2, hE.boxRel q2 (fun h => by cases h; exact hid' rfl) (fun _ _ _ _ h => by cases h) q3⟩
  · have hty := hG.tys id' t cs h1 h2 b hb
    obtain ⟨row, hrow, _⟩ := hty
    have hne : b ≠ B := fun e => by
      rw [e] at hrow
      exact hrel.notCells hrow
    exact (hG.tys id' t cs h1 h2 b hb).keep (hoth b hne) (fun _ _ h => h)
  · simp only [aget_adel1] at h
    by_cases hi : id = id'
    · rw [if_pos hi] at h; cases h
    · rw [if_neg hi] at h
      obtain ⟨B2, q1, q2, q3⟩ := hG.oth id' x' h
      have hne : B2 ≠ B := fun e => by
        subst e
        rw [hown] at q2
        cases q2
        exact hi rfl
      exact ⟨B2, q1, q2, q3.keep (hoth B2 hne) (fun _ _ _ h => h) (fun _ _ h => h)⟩
end
end Go.Mx
