/-
  A whole variable whose first list owns its room: loaded, stored, handed out with the mark.
-/
import Derived.Test.YtkgdpcnobfadaaaDoorMzVals
set_option linter.unusedSimpArgs false
set_option linter.unusedVariables false
namespace Go.Mx
open Go
/-- The place of the first list. -/
def firstI : List D → Nat
  | .list _ _ :: _ => 0
  | _ :: r => firstI r + 1
  | [] => 0
theorem first_cell : ∀ (cs : List Cell) (vs : List Value), vs.length = cs.length → firstOwn cs = true → ∃ sz es x, cs[firstI (cs.map fun c => c.d)]? = some ⟨true, .list sz es⟩ ∧ vs[firstI (cs.map fun c => c.d)]? = some x ∧ firstList (cs.map fun c => c.d) vs = some (sz, es, x)
  | [], _, _, h => by cases h
  | c :: cs, [], h, _ => by simp at h
  | ⟨o, d⟩ :: cs, v :: vs, hl, h => by
    cases d with
    | list sz es =>
      simp only [firstOwn] at h
      subst h
      exact ⟨sz, es, v, rfl, rfl, rfl⟩
    | _ =>
      simp only [firstOwn] at h
      obtain ⟨sz, es, x, h1, h2, h3⟩ := first_cell cs vs (by simpa using hl) h
      exact ⟨sz, es, x, by simpa [firstI] using h1, by simpa [firstI] using h2, by simpa [firstList] using h3⟩
theorem unownF_weaker : ∀ cs : List Cell, Weaker (unownF cs) cs ∧ ∀ (i : Nat) (c : Cell), (unownF cs)[i]? = some c → c.own = true → (∃ sz es, (cs.map fun c => c.d)[firstI (cs.map fun c => c.d)]? = some (.list sz es)) → i ≠ firstI (cs.map fun c => c.d)
  | [] => ⟨Weaker.refl _, fun i c h => by simp [unownF] at h⟩
  | ⟨o, d⟩ :: cs => by
    obtain ⟨⟨h1, h2⟩, h3⟩ := unownF_weaker cs
    cases d with
    | list sz es =>
      refine ⟨⟨by simp [unownF], fun i c h => ?_⟩, fun i c h ho _ => ?_⟩
      · cases i with
        | zero =>
          simp [unownF] at h
          subst h
          exact ⟨_, rfl, rfl, fun h => by cases h⟩
        | succ i => exact ⟨c, by simpa [unownF] using h, rfl, id⟩
      · cases i with
        | zero =>
          simp [unownF] at h
          subst h
          cases ho
        | succ i => simp [firstI]
    | _ =>
      refine ⟨⟨by simp [unownF, h1], fun i c h => ?_⟩, fun i c h ho hx => ?_⟩
      · cases i with
        | zero => exact ⟨c, by simpa [unownF] using h, rfl, id⟩
        | succ i =>
          obtain ⟨c0, k1, k2, k3⟩ := h2 i c (by simpa [unownF] using h)
          exact ⟨c0, by simpa using k1, k2, k3⟩
      · cases i with
        | zero => simp [firstI]
        | succ i =>
          have := h3 i c (by simpa [unownF] using h) ho (by simpa [firstI] using hx)
          simpa [firstI] using this
theorem layA_at (o : Bool) : ∀ (ds : List D) (us : List Value), us.length = ds.length → (layA o ds).length = ds.length ∧ ∀ (i : Nat) (c : Cell), (layA o ds)[i]? = some c → ∃ u, us[i]? = some u ∧ ds[i]? = some c.d ∧ (c.own = true → o = true ∧ i = firstI ds ∧ ∃ sz es, c.d = .list sz es ∧ firstList ds us = some (sz, es, u))
  | [], us, _ => ⟨rfl, fun i c h => by simp [layA] at h⟩
  | d :: ds, [], h => by simp at h
  | d :: ds, u :: us, hl => by
    obtain ⟨h1, h2⟩ := layA_at o ds us (by simpa using hl)
    cases d with
    | list sz es =>
      refine ⟨by simp [layA], fun i c h => ?_⟩
      cases i with
      | zero =>
        simp [layA] at h
        subst h
        exact ⟨u, rfl, rfl, fun ho => ⟨ho, rfl, sz, es, rfl, rfl⟩⟩
      | succ i =>
        simp [layA] at h
        obtain ⟨d', hd', rfl⟩ := h
        have hlt := (List.getElem?_eq_some_iff.1 hd').1
        exact ⟨us[i]'(by simp at hl; omega), by simp, by simpa [Cell.of] using hd', fun ho => by cases ho⟩
    | _ =>
      refine ⟨by simp [layA, h1], fun i c h => ?_⟩
      cases i with
      | zero =>
        simp [layA] at h
        subst h
        exact ⟨u, rfl, rfl, fun ho => by cases ho⟩
      | succ i =>
        obtain ⟨x, k1, k2, k3⟩ := h2 i c (by simpa [layA] using h)
        refine ⟨x, by simpa using k1, by simpa using k2, fun ho => ?_⟩
        obtain ⟨q1, q2, sz, es, q3, q4⟩ := k3 ho
        exact ⟨q1, by simp [firstI, q2], sz, es, q3, by simpa [firstList] using q4⟩
section
variable {P : Program} {ι : Imm} {j : Lay} {own : Own} {lb : Lay} {N : Nat} {e : Env} {a : Go.Act} {w : World} {σ : Store}
theorem takeC_all : ∀ cs : List Cell, takeC cs 0 cs.length = some (cs.map fun c => c.d)
  | [] => rfl
  | c :: cs => by simp only [List.length_cons, takeC, takeC_all cs, bindO, caseO_some, List.map_cons]
/-- A whole variable, read: with the mark, if its first list bears it. -/
theorem whole_rel {B : Nat} {mk : Nat → Tag} {cs : List Cell} (hb : BoxRel ι j own w B mk cs) {t : TypeId} {k : Nat} (hk : okK P t (some k) = true) (hlen : cs.length = k) :
    ∃ v, (loadVar t ⟨B, 0, none⟩).run P w = .ok v w ∧ Rep ι j (.agg (cs.map fun c => c.d)) v ∧ (firstOwn cs = true → Owned ι own w (mk (firstI (cs.map fun c => c.d))) (.agg (cs.map fun c => c.d)) v) := by
  have hrc : readCells cs (some k) 0 = some ⟨false, .agg (cs.map fun c => c.d)⟩ := by
    subst hlen
    simp only [readCells, takeC_all cs, bindO, caseO_some]
  obtain ⟨v, hv, hr, _, _⟩ := readCells_rel hb hk hrc
  refine ⟨v, hv, hr, fun hf => ?_⟩
  obtain ⟨vs, T, h1, h2, h3⟩ := hb
  have hr' := hr
  simp only [Rep] at hr'
  obtain ⟨us, rfl, hus, hone⟩ := hr'
  -- what is read are the cells
  have hv2 : us = vs.take cs.length := by
    have hrun := run_loadVar_of (P := P) (w := w) hk B 0 (v := .agg ⟨vs.take cs.length⟩) (fun i x hx => by
      simp only [Value.cells, List.getElem?_toArray] at hx
      rw [cell_of_row w B _ _ _ _ h1]
      rw [List.getElem?_take] at hx
      split at hx
      · simpa using hx
      · cases hx) ⟨_, rfl, by simp; omega⟩
    rw [hv] at hrun
    simpa using hrun
  obtain ⟨sz, es, x, q1, q2, q3⟩ := first_cell cs us (by rw [hv2]; simp; omega) hf
  obtain ⟨u, hu, _, hcr⟩ := h3 _ _ q1
  have hux : u = x := by
    rw [hv2, List.getElem?_take] at q2
    split at q2
    · rw [q2] at hu
      cases hu
      rfl
    · cases q2
  subst hux
  have := hcr.2 rfl
  unfold Owned at this ⊢
  have hp : prin (.agg (cs.map fun c => c.d)) (.agg ⟨us⟩) = some (sz, es, u) := q3
  rw [hp]
  exact this
theorem step_loadA (hG : GSim ι j own σ w) (hL : LSim ι j own lb N e a w) {o : Oper} {t : TypeId} {x : Operand} {y : AOpd} {k b : Nat} {cs : List Cell} (ho : o.op = .load t x) (hk : okOpd x y = true) (hk1 : okK P t (some k) = true) (hd : ∀ s, o.dst = some s → s < N)
    (hp : addr e y = some (.loc b 0)) (h1 : aget e.boxes b = some cs) (hlen : cs.length = k) : Did P N ι j own w o a (Env.put { e with boxes := aset e.boxes b (unownF cs) } o.dst ⟨firstOwn cs, .agg (cs.map fun c => c.d)⟩) σ := by
  obtain ⟨B, hB, hx⟩ := addr_rel hL hk hp
  obtain ⟨B', hB', hown, hbox⟩ := hL.boxes b cs h1
  rw [hB] at hB'
  cases hB'
  obtain ⟨u, hu, hru, hO⟩ := whole_rel hbox hk1 hlen
  have fin : (execOp a.eval o).run P w = .ok (.value u) w := by
    simp only [execOp, ho, hx, Instr.loadAt, Instr.sureAddr, Sem.run_bind, Sem.run_pure, Result.andThen_ok, hu]
  have hL0 : LSim ι j own lb N { e with boxes := aset e.boxes b (unownF cs) } a w :=
    hL.sub (fun s c h => ⟨c, h, rfl, fun h => h⟩) (fun _ _ h => h) (fun s cs' h => by
      simp only [aget_aset] at h
      split at h
      · rename_i hs; subst hs; cases h; exact ⟨cs, h1, (unownF_weaker cs).1⟩
      · exact ⟨cs', h, Weaker.refl cs'⟩) rfl
  cases hds : o.dst with
  | none => exact ⟨_, w, _, fin, .inl ⟨u, rfl, rfl⟩, ι, j, own, lb, hG, by rw [hds]; exact hL0, Evo.refl _ _ _ _ _⟩
  | some s =>
    cases how : firstOwn cs with
    | false => exact ⟨_, w, _, fin, .inl ⟨u, rfl, rfl⟩, ι, j, own, lb, hG, by rw [hds]; exact hL0.putC (hd s hds) ⟨hru, fun h => by cases h⟩, Evo.refl _ _ _ _ _⟩
    | true =>
      have hO := hO how
      have hlist : ∃ sz es, (cs.map fun c => c.d)[firstI (cs.map fun c => c.d)]? = some (.list sz es) := by
        obtain ⟨vs, T, g1, g2, g3⟩ := hbox
        obtain ⟨sz, es, x, q1, _, _⟩ := first_cell cs (vs.take cs.length) (by simp; omega) how
        exact ⟨sz, es, by rw [List.getElem?_map, q1]; rfl⟩
      obtain ⟨own', k1, k2, k3, k4⟩ := retag (t := .cell b (firstI (cs.map fun c => c.d))) (t' := .slot s) rfl rfl hG hL0 (fun _ _ _ _ h => by cases h) (fun s' cs' hs' i c' hi hc' heq => by
        simp only [Tag.cell.injEq] at heq
        obtain ⟨rfl, rfl⟩ := heq
        simp only [aget_aset, if_true, Option.some.injEq] at hs'
        subst hs'
        exact (unownF_weaker cs).2 _ c' hi hc' hlist rfl) (fun _ _ _ _ _ _ _ h => by cases h) hO
      exact ⟨_, w, _, fin, .inl ⟨_, rfl, rfl⟩, ι, j, own', lb, k1, by rw [hds]; exact putOver (hd s hds) (k2.forget s) ⟨hru, fun _ => k3⟩, k4.weaken fun _ _ => trivial⟩
theorem putCells_all : ∀ (cs new : List Cell), new.length = cs.length → putCells cs 0 new = new
  | [], [], _ => rfl
  | [], _ :: _, h => by simp at h
  | _ :: _, [], h => by simp at h
  | c :: cs, n :: new, h => by
    simp only [putCells, putCells_all cs new (by simpa using h)]
theorem step_storeA (hG : GSim ι j own σ w) (hL : LSim ι j own lb N e a w) {o : Oper} {t : TypeId} {x y : Operand} {x' y' : AOpd} {k b : Nat} {c : Cell} {cs : List Cell} {ds : List D} (ho : o.op = .store t x y) (hd : ∀ s, o.dst = some s → s < N)
    (hk : okOpd x x' = true) (hk1 : okOpd y y' = true) (hsz : sizeB P t = some k) (hp : addr e x' = some (.loc b 0)) (hc : opd e y' = some c) (hcs : aget e.boxes b = some cs) (hds : c.d = .agg ds) (hl1 : cs.length = k) (hl2 : ds.length = k) :
    Did P N ι j own w o a (Env.put { y'.drop e with boxes := aset e.boxes b (layA c.own ds) } o.dst ⟨false, .undef⟩) σ := by
  obtain ⟨B, hB, hx⟩ := addr_rel hL hk hp
  have hr := opd_rel hL hk1 hc
  obtain ⟨own1, hG1, hL1, hO, hE1⟩ := moveMark hG hL hk1 hc (t' := .cell b (firstI ds)) rfl
  obtain ⟨_, hbx, _⟩ := drop_rest (e := e) y'
  obtain ⟨B', hB', hown, hbox⟩ := hL1.boxes b cs (by rw [hbx]; exact hcs)
  rw [hB] at hB'
  cases hB'
  rw [hds] at hr hO
  have hr' := hr
  simp only [Rep] at hr'
  obtain ⟨us, hus, hrep, hone⟩ := hr'
  have hcells : (a.eval y).cells.toList = us := by rw [hus]; rfl
  have hlen := hrep.length
  obtain ⟨l1, l2⟩ := layA_at c.own ds us hlen
  obtain ⟨cur, T, hcur, hfit, hnew⟩ := boxRel_put hbox (off := 0) (new := layA c.own ds) (us := (a.eval y).cells.toList) (by omega) (by rw [hcells, l1, hlen]) (fun i c' hi => by
    obtain ⟨u, q1, q2, q3⟩ := l2 i c' hi
    obtain ⟨u', hu', hru⟩ := hrep.at i c'.d q2
    rw [q1] at hu'
    cases hu'
    refine ⟨u, by rw [hcells]; exact q1, hone u (List.mem_of_getElem? q1), hru, fun how w' hw' => ?_⟩
    obtain ⟨r1, r2, sz, es, r3, r4⟩ := q3 how
    have hOw := hO r1
    subst r2
    rw [Nat.zero_add]
    refine owned_other (by rw [hown]; intro h; cases h) hw' ?_
    rw [r3]
    unfold Owned at hOw ⊢
    have hpr : prin (.agg ds) (a.eval y) = some (sz, es, u) := by rw [hus]; exact r4
    rw [hpr] at hOw
    exact hOw) (fun i c' u hi how h w' hw' => owned_other (by rw [hown]; intro h; cases h) hw' h)
  rw [putCells_all cs _ (by omega)] at hnew
  have hvs : (a.eval y).cells.size = k := by rw [← Array.length_toList, hcells, hlen, hl2]
  have hrun := run_storeVar_of (P := P) hsz hcur (v := a.eval y) hvs hfit (by rw [hcells]; exact hone)
  generalize hw' : w.setRow B _ = w' at hrun hnew
  have hE2 : Evo ι j own1 w ι j own1 w' (fun u => u = .box b) := hw' ▸ setRow_evo hcur _ hown
  have hG2 : GSim ι j own1 σ w' := by
    refine hG1.evo hE2 (fun b' o' v h => ?_) hG1.noimm (fun b' u h => Nat.lt_of_lt_of_le (hG1.ownlt b' u h) hE2.size) hG1.jlt (fun id cs _ => ⟨(fun h => by cases h), (fun _ _ _ _ h => by cases h)⟩) (fun _ _ _ h => by cases h)
    have hne : b' ≠ B := fun e => by
      rw [e, hG1.noimm B _ hown rfl o'] at h
      cases h
    rw [← hw', cell_setRow_other w B _ _ hne]
    exact hG1.holds b' o' v h
  have hL2 : LSim ι j own1 lb N { y'.drop e with boxes := aset e.boxes b (layA c.own ds) } a w' := by
    have h0 : LSim ι j own1 lb N { y'.drop e with boxes := adel1 e.boxes b } a w :=
      hL1.sub (fun s c h => ⟨c, h, rfl, fun h => h⟩) (fun _ _ h => h) (fun s cs h => by
        simp only [aget_adel1] at h
        split at h
        · cases h
        · exact ⟨cs, by rw [hbx]; exact h, Weaker.refl cs⟩) rfl
    have h1 := (h0.evo hE2 (fun _ _ _ _ h => by cases h) (fun s cs h => ⟨(fun e => by
      cases e
      simp only [aget_adel1, if_true] at h
      cases h), (fun _ _ _ _ h => by cases h)⟩)).addBox hB hown hnew
    refine h1.sub (fun s c h => ⟨c, h, rfl, fun h => h⟩) (fun _ _ h => h) (fun s cs h => ⟨cs, ?_, Weaker.refl cs⟩) rfl
    simp only [aget_aset, aget_adel1] at h ⊢
    split
    · rename_i hs; rw [if_pos hs] at h; exact h
    · rename_i hs; rw [if_neg hs] at h; exact h
  refine ⟨.skip, w', _, ?_, .inr (.inl ⟨rfl, rfl⟩), ι, j, own1, lb, hG2, ?_, hE1.trans (hE2.weaken fun _ _ => trivial)⟩
  · simp only [execOp, ho, hx, Instr.storeAt, Instr.sureAddr, Sem.run_bind, Sem.run_pure, Result.andThen_ok, hrun]
  · cases hds : o.dst with
    | none => exact hL2
    | some s => exact hL2.putC (hd s hds) ⟨by simp only [Rep], fun h => by cases h⟩
end
end Go.Mx

