/-
  Maps of the store: made, written, struck; slices whose room is bounded; stores to objects that take no mark along.
-/
import Derived.Test.YtkgdpcnobfadaaaGreatDoorMzArr
import Derived.Carry
set_option linter.unusedSimpArgs false
set_option linter.unusedVariables false
namespace Go.Mx
open Go
section
variable {P : Program} {ι : Imm} {j : Lay} {own : Own} {lb : Lay} {N : Nat} {e : Env} {a : Go.Act} {w : World} {σ : Store}
theorem zvh (hG : GSim ι j own σ w) (hL : LSim ι j own lb N e a w) {o : Oper} (hd : ∀ s, o.dst = some s → s < N) {d : D} {u : Value} (hrun : (execOp a.eval o).run P w = .ok (.value u) w) (hr : Rep ι j d u) (hO : ∀ (t' : Tag) (own' : Own), Owned ι own' w t' d u) :
    Did P N ι j own w o a (e.put o.dst ⟨true, d⟩) σ := by
  refine ⟨_, _, _, hrun, .inl ⟨_, rfl, rfl⟩, ι, j, own, lb, hG, ?_, Evo.refl _ _ _ _ _⟩
  cases hds : o.dst with
  | none => exact hL
  | some s => exact hL.putC (hd s hds) ⟨hr, fun _ => hO _ _⟩
theorem zvj (hG : GSim ι j own σ w) (hL : LSim ι j own lb N e a w) {o : Oper} {t : TypeId} {x y : Operand} {x' y' : AOpd} {k id off : Nat} {c : Cell} {cs : List Cell} (ho : o.op = .store t x y) (hd : ∀ s, o.dst = some s → s < N)
    (hk : okOpd x x' = true) (hk1 : okOpd y y' = true) (hsz : sizeB P t = some k) (hp : addr e x' = some (.ptr id off)) (hc : opd e y' = some c) (hcs : aget σ.objs id = some cs) (hf : fits ⟨false, c.d⟩ k off cs = true) :
    Did P N ι j own w o a (e.put o.dst ⟨false, .undef⟩) { σ with objs := aset σ.objs id (zap cs off (zbb ⟨false, c.d⟩)) } := by
  obtain ⟨hok, hlen, hle⟩ := zoy hf
  simp only at hok hlen
  obtain ⟨B, hB, hx⟩ := zcq hL hk hp
  have hr := zan hL hk1 hc
  obtain ⟨r1, r2⟩ := hr.cellsRel hok
  have hlay : zbb ⟨false, c.d⟩ = c.d.cells.map Cell.of := by
    unfold zbb
    simp only
    cases h : c.d.one with
    | true =>
      rw [zae]
      cases hcd : c.d <;> rw [hcd] at h <;> simp only [D.one, Bool.false_eq_true] at h <;> rfl
    | false => rw [zac]
  rw [hlay]
  have hul := r1.length
  obtain ⟨cur, T, h2, h3, h4, h5⟩ := za0b hG hcs hB r1 r2 (off := off) (by omega)
  have hvs : (a.eval y).cells.size = k := by rw [← Array.length_toList, r1.length, hlen]
  have hrun := zd5 (P := P) hsz h2 (v := a.eval y) hvs h3 r2
  refine ⟨.skip, _, _, ?_, .inr (.inl ⟨rfl, rfl⟩), ι, j, own, lb, h4, ?_, h5.weaken fun _ _ => trivial⟩
  · simp only [execOp, ho, hx, Instr.storeAt, Instr.sureAddr, Sem.run_bind, Sem.run_pure, Result.andThen_ok, hrun]
  · have hL' := hL.evo h5 (fun _ _ _ _ h => by cases h) (fun _ _ _ => ⟨(fun h => by cases h), (fun _ _ _ _ h => by cases h)⟩)
    cases hds : o.dst with
    | none => exact hL'
    | some s => exact hL'.putC (hd s hds) ⟨by simp only [Rep], fun h => by cases h⟩
theorem zis (hG : GSim ι j own σ w) (hL : LSim ι j own lb N e a w) {o : Oper} (hd : ∀ s, o.dst = some s → s < N) {x : Oth} {ob : Obj} {r : D} {v : Value}
    (hx : ∀ (ι' : Imm) (j' : Lay) (w' : World), w'.heap[w.heap.size]? = some ob → zep ι' j' w' w.heap.size x) (hrun : (execOp a.eval o).run P w = .ok (.value v) (w.alloc ob)) (hv : ∀ j' : Lay, j' σ.next = some w.heap.size → Rep ι j' r v) :
    Did P N ι j own w o a (e.put o.dst ⟨false, r⟩) { σ with oth := (σ.next, x) :: σ.oth, next := σ.next + 1 } := by
  classical
  let j' : Lay := fun i => if i = σ.next then some w.heap.size else j i
  have hjn : ∀ i b, j i = some b → i ≠ σ.next := fun i b h e => by have := hG.jlt i b h; omega
  have hE0 := zed hG ob (.obj σ.next)
  have hE : Evo ι j own w ι j' (fun b => if b = w.heap.size then some (.obj σ.next) else own b) (w.alloc ob) (fun _ => False) :=
    ⟨hE0.os, hE0.tape, hE0.output, hE0.size, hE0.imm, fun i b h => by simp only [j', if_neg (hjn i b h)]; exact h, hE0.block⟩
  have hG0 := zgt hG ob (.obj σ.next)
  have hG' : GSim ι j' (fun b => if b = w.heap.size then some (.obj σ.next) else own b) { σ with oth := (σ.next, x) :: σ.oth, next := σ.next + 1 } (w.alloc ob) := by
    refine ⟨hG0.holds, hG0.noimm, fun id cs h => ?_, fun id t cs h1 h2 b hb => ?_, fun id x' h => ?_, fun id b h => ?_, hG0.ownlt⟩
    · obtain ⟨B, q1, q2, q3⟩ := hG.objs id cs h
      have hlt := hG.ownlt B _ q2
      exact ⟨B, hE.lay _ _ q1, by rw [if_neg (by omega)]; exact q2, hE.boxRel q2 (fun h => h) (fun _ _ _ _ h => h) q3⟩
    · obtain ⟨B, q1, q2, q3⟩ := hG.objs id cs h2
      have hb' := hE.lay _ _ q1
      rw [hb] at hb'
      cases hb'
      have hlt := hG.ownlt b _ q2
      exact (hG.tys id t cs h1 h2 b q1).keep (heap_alloc_old w _ hlt) hE.lay
    · simp only [zay] at h
      by_cases hid : σ.next = id
      · rw [if_pos hid] at h
        cases h
        subst hid
        exact ⟨w.heap.size, if_pos rfl, if_pos rfl, hx _ _ _ (heap_alloc_new w _)⟩
      · rw [if_neg hid] at h
        obtain ⟨B, q1, q2, q3⟩ := hG.oth id x' h
        have hlt := hG.ownlt B _ q2
        exact ⟨B, hE.lay _ _ q1, by rw [if_neg (by omega)]; exact q2, q3.keep (heap_alloc_old w _ hlt) hE.imm hE.lay⟩
    · by_cases hid : id = σ.next
      · simp only; omega
      · simp only [j', if_neg hid] at h
        have := hG.jlt id b h
        simp only; omega
  refine ⟨_, _, _, hrun, .inl ⟨_, rfl, rfl⟩, ι, j', _, lb, hG', ?_, hE.weaken (fun _ h => h.elim)⟩
  have hL' := hL.evo hE (fun _ _ _ _ h => h) (fun _ _ _ => ⟨fun h => h, fun _ _ _ _ h => h⟩)
  cases hds : o.dst with
  | none => exact hL'
  | some d => exact hL'.putC (hd d hds) ⟨hv j' (if_pos rfl), fun h => by cases h⟩
theorem zs6 (hG : GSim ι j own σ w) (hL : LSim ι j own lb N e a w) {o : Oper} {t : TypeId} (ho : o.op = .makeMap t none) (hd : ∀ s, o.dst = some s → s < N) :
    Did P N ι j own w o a (e.put o.dst ⟨false, .map σ.next⟩) { σ with oth := (σ.next, .map [] 0) :: σ.oth, next := σ.next + 1 } := by
  refine zis hG hL hd (ob := .map #[] 0) (v := .map (some w.heap.size)) (fun ι' j' w' h => ⟨[], h, by simp only [zas]⟩) ?_ (fun j' h => by simp only [Rep]; exact ⟨_, h, rfl⟩)
  have hrun : (Instr.makeMap t none).run P w = .ok (.map (some w.heap.size)) (w.alloc (.map #[] 0)) := rfl
  simp only [execOp, ho, Option.map_none, Sem.run_bind, hrun, Result.andThen_ok, Sem.run_pure]
theorem zqw (hG : GSim ι j own σ w) (hL : LSim ι j own lb N e a w) {o : Oper} {t kt el : TypeId} {k : IntKind} {n : Int} (ho : o.op = .makeMap t (some (.const (.int k n)))) (ht : P.underlying t = some (.map kt el)) (hd : ∀ s, o.dst = some s → s < N) :
    Did P N ι j own w o a (e.put o.dst ⟨false, .map σ.next⟩) { σ with oth := (σ.next, .map [] 0) :: σ.oth, next := σ.next + 1 } := by
  refine zis hG hL hd (ob := .map #[] 0) (v := .map (some w.heap.size)) (fun ι' j' w' h => ⟨[], h, by simp only [zas]⟩) ?_ (fun j' h => by simp only [Rep]; exact ⟨_, h, rfl⟩)
  have hc : a.eval (.const (.int k n)) = .int k n := rfl
  have hrun : (Instr.makeMap t (some (.int k n))).run P w = .ok (.map (some w.heap.size)) (w.alloc (.map #[] 0)) := by
    simp only [Instr.makeMap, Sem.run_bind, run_underlying ht, Result.andThen_ok, asInt, asIntOf, Sem.run_pure, run_newObj]
    rfl
  simp only [execOp, ho, Option.map_some, hc, Sem.run_bind, hrun, Result.andThen_ok, Sem.run_pure]
theorem za7b (hG : GSim ι j own σ w) {id B : Nat} {x y : Oth} {ob : Obj} (hid : aget σ.oth id = some x) (hB : j id = some B) (hown : own B = some (.obj id)) (hx : ∀ w' : World, w'.heap[B]? = some ob → zep ι j w' B y) {w' : World} (hw' : w' = { w with heap := w.heap.setIfInBounds B ob }) :
    GSim ι j own { σ with oth := aset σ.oth id y } w' ∧ Evo ι j own w ι j own w' (fun t => t = .obj id) := by
  obtain ⟨B', hB', _, hrel⟩ := hG.oth id x hid
  rw [hB] at hB'
  cases hB'
  have hBlt := hrel.lt
  have hoth : ∀ b, b ≠ B → w'.heap[b]? = w.heap[b]? := fun b hb => by
    rw [hw']
    simp [Array.getElem?_setIfInBounds_ne (Ne.symm hb)]
  have hnew : w'.heap[B]? = some ob := by rw [hw']; simp [hBlt]
  have hE : Evo ι j own w ι j own w' (fun t => t = .obj id) := by
    refine ⟨by rw [hw'], by rw [hw'], by rw [hw'], by rw [hw']; simp, fun _ _ _ h => h, fun _ _ h => h, fun b _ hb => ⟨hoth b (fun e => hb _ (e ▸ hown) rfl), rfl, fun _ => rfl⟩⟩
  refine ⟨?_, hE⟩
  refine ⟨fun b o' v h => ?_, hG.noimm, fun id' cs h => ?_, fun id' t cs h1 h2 b hb => ?_, fun id' x' h => ?_, hG.jlt, fun b t h => Nat.lt_of_lt_of_le (hG.ownlt b t h) hE.size⟩
  · have hne : b ≠ B := fun e => by
      rw [e, hG.noimm B _ hown rfl o'] at h
      cases h
    rw [World.cell?_of_block (w := w) (w' := w') (a := ⟨b, o', none⟩) (hoth b hne)]
    exact hG.holds b o' v h
  · obtain ⟨B2, q1, q2, q3⟩ := hG.objs id' cs h
    have hne : B2 ≠ B := fun e => by
      obtain ⟨vs, T, h1, _⟩ := q3
      rw [e] at h1
      exact hrel.notCells h1
    have hid' : id' ≠ id := fun e => by
      subst e
      rw [hB] at q1
      cases q1
      exact hne rfl
    exact ⟨B2, q1, q2, hE.boxRel q2 (fun h => by cases h; exact hid' rfl) (fun _ _ _ _ h => by cases h) q3⟩
  · have hty := hG.tys id' t cs h1 h2 b hb
    have hne : b ≠ B := fun e => by
      obtain ⟨row, hrow, _⟩ := hty
      rw [e] at hrow
      exact hrel.notCells hrow
    exact hty.keep (hoth b hne) (fun _ _ h => h)
  · simp only [zao] at h
    by_cases hid' : id = id'
    · subst hid'
      rw [if_pos rfl] at h
      cases h
      exact ⟨B, hB, hown, hx w' hnew⟩
    · rw [if_neg hid'] at h
      obtain ⟨B2, q1, q2, q3⟩ := hG.oth id' x' h
      have hne : B2 ≠ B := fun e => by
        rw [e, hown] at q2
        cases q2
        exact hid' rfl
      exact ⟨B2, q1, q2, q3.keep (hoth B2 hne) (fun _ _ _ h => h) (fun _ _ h => h)⟩
theorem zdu {B : Nat} {l l' : List MapEntry} {c c' : Nat} (h : w.heap[B]? = some (.map ⟨l⟩ c)) : (setObj B (.map ⟨l'⟩ c')).run P w = .ok () { w with heap := w.heap.setIfInBounds B (.map ⟨l'⟩ c') } := by
  simp [setObj, Sem.run, h]
theorem zlo {ks : Bool} {k : D} {kv : Value} (hkd : keyD ks k = true) (hk : Rep ι j k kv) : Instr.sameBits 10000 kv kv = true := by
  cases k <;> simp only [keyD, Bool.false_eq_true] at hkd <;> simp only [Rep] at hk <;> subst hk
  · simp [Instr.sameBits]
  · rename_i s
    simp only [Instr.sameBits, zpt, beq_self_eq_true]
theorem zh3 (hG : GSim ι j own σ w) {d : D} {v : Value} {id : Nat} {es : List (D × D × Nat)} {c : Nat} (hr : Rep ι j d v) (h : mapAt σ.oth d = some (id, es, c)) :
    ∃ b l, d = .map id ∧ j id = some b ∧ own b = some (.obj id) ∧ v = .map (some b) ∧ aget σ.oth id = some (.map es c) ∧ w.heap[b]? = some (.map ⟨l⟩ c) ∧ zas ι j es l := by
  cases d <;> simp only [mapAt, reduceCtorEq] at h
  case map id' =>
    obtain ⟨x, h1, h⟩ := zab h
    cases x <;> simp only [reduceCtorEq, Option.some.injEq, Prod.mk.injEq] at h
    obtain ⟨rfl, rfl, rfl⟩ := h
    simp only [Rep] at hr
    obtain ⟨b, hb, hv⟩ := hr
    obtain ⟨b', q1, q2, l, q3, q4⟩ := hG.oth id' _ h1
    rw [hb] at q1
    cases q1
    exact ⟨b, l, rfl, hb, q2, hv, h1, q3, q4⟩
theorem zas.append : ∀ {es : List (D × D × Nat)} {l : List MapEntry} {es' : List (D × D × Nat)} {l' : List MapEntry}, zas ι j es l → zas ι j es' l' → zas ι j (es ++ es') (l ++ l')
  | [], l, es', l', h, h' => by simp only [zas] at h; subst h; exact h'
  | (k, v, b) :: es, l, es', l', h, h' => by
    simp only [zas] at h
    obtain ⟨e0, l0, rfl, h1, h2, h3, h5⟩ := h
    simp only [List.cons_append, zas]
    exact ⟨e0, _, rfl, h1, h2, h3, h5.append h'⟩
theorem zas.at : ∀ {es : List (D × D × Nat)} {l : List MapEntry}, zas ι j es l → ∀ (n : Nat) (x : D × D × Nat), es[n]? = some x → ∃ ent, l[n]? = some ent ∧ Rep ι j x.1 ent.key ∧ Rep ι j x.2.1 ent.val ∧ ent.born = x.2.2
  | [], l, _, n, x, h => by simp at h
  | (k, v, b) :: es, l, h, n, x, hx => by
    simp only [zas] at h
    obtain ⟨e0, l0, rfl, h1, h2, h3, h5⟩ := h
    cases n with
    | zero =>
      simp only [List.getElem?_cons_zero, Option.some.injEq] at hx
      subst hx
      exact ⟨e0, rfl, h1, h2, h3⟩
    | succ n => simpa using zas.at h5 n x (by simpa using hx)
theorem zas.set : ∀ {es : List (D × D × Nat)} {l : List MapEntry}, zas ι j es l → ∀ (n : Nat) (x : D × D × Nat) (ent : MapEntry), Rep ι j x.1 ent.key → Rep ι j x.2.1 ent.val → ent.born = x.2.2 → zas ι j (es.set n x) (l.set n ent)
  | [], l, h, n, x, ent, _, _, _ => by simp only [zas] at h; subst h; simp [zas]
  | (k, v, b) :: es, l, h, n, x, ent, q1, q2, q3 => by
    simp only [zas] at h
    obtain ⟨e0, l0, rfl, h1, h2, h3, h5⟩ := h
    cases n with
    | zero =>
      obtain ⟨x1, x2, x3⟩ := x
      simp only [List.set_cons_zero, zas]
      exact ⟨ent, l0, rfl, q1, q2, q3, h5⟩
    | succ n =>
      simp only [List.set_cons_succ, zas]
      exact ⟨e0, _, rfl, h1, h2, h3, h5.set n x ent q1 q2 q3⟩
theorem zas.erase : ∀ {es : List (D × D × Nat)} {l : List MapEntry}, zas ι j es l → ∀ (n : Nat), zas ι j (es.eraseIdx n) (l.eraseIdx n)
  | [], l, h, n => by simp only [zas] at h; subst h; simp [zas]
  | (k, v, b) :: es, l, h, n => by
    simp only [zas] at h
    obtain ⟨e0, l0, rfl, h1, h2, h3, h5⟩ := h
    cases n with
    | zero => simpa using h5
    | succ n =>
      simp only [List.eraseIdx_cons_succ, zas]
      exact ⟨e0, _, rfl, h1, h2, h3, h5.erase n⟩
theorem zj4 {l : List MapEntry} {n : Nat} {ent : MapEntry} (h : l[n]? = some ent) (f : MapEntry → MapEntry) : (⟨l⟩ : Array MapEntry).modify n f = ⟨l.set n (f ent)⟩ := by
  apply Array.ext'
  simp only [Array.toList_modify]
  apply List.ext_getElem?
  intro i
  rw [List.getElem?_modify, List.getElem?_set]
  by_cases hi : n = i
  · subst hi
    rw [h]
    simp [(List.getElem?_eq_some_iff.1 h).1]
  · simp [hi]
theorem zfq (hG : GSim ι j own σ w) (hL : LSim ι j own lb N e a w) {o : Oper} (hd : ∀ s, o.dst = some s → s < N) {id b : Nat} {es es' : List (D × D × Nat)} {l l' : List MapEntry} {c c' : Nat} {r : D} {nx : Next} {v : Value} (hid : aget σ.oth id = some (.map es c)) (hB : j id = some b) (hown : own b = some (.obj id))
    (hE : zas ι j es' l') (hrun : (execOp a.eval o).run P w = .ok nx { w with heap := w.heap.setIfInBounds b (.map ⟨l'⟩ c') }) (hnx : nx = .value v ∨ nx = .skip ∧ v = Go.undef) (hv : Rep ι j r v) :
    Did P N ι j own w o a (e.put o.dst ⟨false, r⟩) { σ with oth := aset σ.oth id (.map es' c') } := by
  obtain ⟨h4, h5⟩ := za7b hG (y := .map es' c') hid hB hown (fun w' h => ⟨l', h, hE⟩) rfl
  refine ⟨nx, _, a.put o.dst v, hrun, ?_, ι, j, own, lb, h4, ?_, h5.weaken fun _ _ => trivial⟩
  · rcases hnx with rfl | ⟨rfl, rfl⟩
    · exact .inl ⟨_, rfl, rfl⟩
    · exact .inr (.inl ⟨rfl, rfl⟩)
  · have hL' := hL.evo h5 (fun _ _ _ _ h => by cases h) (fun _ _ _ => ⟨(fun h => by cases h), (fun _ _ _ _ h => by cases h)⟩)
    cases hds : o.dst with
    | none => exact hL'
    | some s => exact hL'.putC (hd s hds) ⟨hv, fun h => by cases h⟩
theorem zvk (hG : GSim ι j own σ w) (hL : LSim ι j own lb N e a w) {o : Oper} {ks : Bool} {t kt el : TypeId} {x i y : Operand} {x' i' y' : AOpd} (ho : o.op = .mapUpdate t x i y ∨ o.op = .insert t x i y) (hd : ∀ s, o.dst = some s → s < N)
    (hk : okOpd x x' = true) (hk1 : okOpd i i' = true) (hk2 : okOpd y y' = true) (ht : mapTB P t = some (kt, el)) (hkt : keyB P ks kt = true) {c k v : Cell} {id : Nat} {es : List (D × D × Nat)} {cl : Nat} {r : Option (D × Nat × Nat)}
    (h1 : opd e x' = some c) (h2 : opd e i' = some k) (h3 : opd e y' = some v) (h4 : mapAt σ.oth c.d = some (id, es, cl)) (h5 : keyD ks k.d = true) (h6 : findM k.d es = some r) :
    Did P N ι j own w o a (e.put o.dst ⟨false, .undef⟩) { σ with oth := aset σ.oth id (caseO r (.map (es ++ [(k.d, v.d, cl)]) (cl + 1)) fun p => .map (es.set p.2.2 (k.d, v.d, p.2.1)) cl) } := by
  have hi := zan hL hk1 h2
  have hy := zan hL hk2 h3
  obtain ⟨b, l, _, hB, hown, hv, hid, hh, hE⟩ := zh3 hG (zan hL hk h1) h4
  have hu := ze0 ht
  have hck := zd8 (P := P) (w := w) hkt h5 hi false
  have hfk := zf5 (P := P) (w := w) hkt h5 hi hE h6
  have hexec : ∀ w', (Instr.mapUpdate t (a.eval x) (a.eval i) (a.eval y)).run P w = .ok () w' → (execOp a.eval o).run P w = .ok .skip w' := by
    intro w' h
    rcases ho with ho | ho <;> simp only [execOp, ho, Sem.run_bind, h, Result.andThen_ok, Sem.run_pure]
  cases r with
  | none =>
    simp only at hfk
    rw [zad]
    refine zfq hG hL hd (l := l) (c := cl) (l' := l ++ [{ key := a.eval i, val := a.eval y, born := cl }]) (v := Go.undef) hid hB hown (hE.append (by simp only [zas]; exact ⟨_, _, rfl, hi, hy, rfl, rfl⟩)) (hexec _ ?_) (.inr ⟨rfl, rfl⟩) (by simp only [Rep])
    rw [hv]
    simp only [Instr.mapUpdate, Sem.run_bind, run_underlying hu, Result.andThen_ok, zcj hh, hck, hfk]
    have : (⟨l⟩ : Array MapEntry).push { key := a.eval i, val := a.eval y, born := cl } = ⟨l ++ [{ key := a.eval i, val := a.eval y, born := cl }]⟩ := by
      apply Array.ext'
      simp
    rw [this, zdu hh]
  | some p =>
    obtain ⟨d, bn, n⟩ := p
    obtain ⟨ent, q1, q2, q3, q4, q5, q6⟩ := hfk
    rw [zaa]
    refine zfq hG hL hd (l := l) (c := cl) (l' := l.set n { ent with key := a.eval i, val := a.eval y }) (v := Go.undef) hid hB hown (hE.set n _ _ hi hy q4) (hexec _ ?_) (.inr ⟨rfl, rfl⟩) (by simp only [Rep])
    rw [hv]
    have hst : (Instr.keyThatStays (((((⟨l⟩ : Array MapEntry)[n]?).map (·.key)).getD (a.eval i))) (a.eval i)).run P w = .ok (a.eval i) w := by
      have hq : (⟨l⟩ : Array MapEntry)[n]? = some ent := by simpa using q2
      rw [hq]
      simp only [Option.map_some, Option.getD_some, q5, Instr.keyThatStays, zlo h5 hi, if_true, Sem.run_pure]
    simp only [Instr.mapUpdate, Sem.run_bind, run_underlying hu, Result.andThen_ok, zcj hh, hck, q1, hst]
    rw [zj4 q2, zdu hh]
theorem zve (hG : GSim ι j own σ w) (hL : LSim ι j own lb N e a w) {o : Oper} {ks : Bool} {t tk kt el : TypeId} {x i : Operand} {x' i' : AOpd} (ho : o.op = .call { callee := .builtin .delete, args := ⟨[x, i]⟩, argTypes := ⟨[t, tk]⟩ }) (hd : ∀ s, o.dst = some s → s < N)
    (hk : okOpd x x' = true) (hk1 : okOpd i i' = true) (ht : mapTB P t = some (kt, el)) (hkt : keyB P ks kt = true) {c k : Cell} {id : Nat} {es : List (D × D × Nat)} {cl : Nat} {r : Option (D × Nat × Nat)}
    (h1 : opd e x' = some c) (h2 : opd e i' = some k) (h4 : mapAt σ.oth c.d = some (id, es, cl)) (h5 : keyD ks k.d = true) (h6 : findM k.d es = some r) :
    Did P N ι j own w o a (e.put o.dst ⟨false, .tup []⟩) { σ with oth := aset σ.oth id (.map (caseO r es fun p => es.eraseIdx p.2.2) cl) } := by
  have hi := zan hL hk1 h2
  obtain ⟨b, l, _, hB, hown, hv, hid, hh, hE⟩ := zh3 hG (zan hL hk h1) h4
  have hu := ze0 ht
  have hck := zd8 (P := P) (w := w) hkt h5 hi l.isEmpty
  have hfk := zf5 (P := P) (w := w) hkt h5 hi hE h6
  have hexec : ∀ w', (Builtin.delete_ #[t, tk] o.type #[a.eval x, a.eval i]).run P w = .ok (.tuple #[]) w' → (execOp a.eval o).run P w = .ok (.value (.tuple #[])) w' := by
    intro w' h
    simp only [execOp, ho, resolve, invoke, builtin, Sem.run_bind, Sem.run_pure, Result.andThen_ok, List.map_toArray, List.map_cons, List.map_nil, h]
  have hrep : Rep ι j (.tup []) (.tuple #[]) := by simp [Rep, RepL]
  cases r with
  | none =>
    simp only at hfk
    rw [zad]
    refine zfq hG hL hd (l := l) (c := cl) (l' := l) hid hB hown hE (hexec _ ?_) (.inl rfl) hrep
    rw [hv]
    simp [Builtin.delete_, run_underlying hu, zcj hh, hck, hfk, zdu hh]
  | some p =>
    obtain ⟨d, bn, n⟩ := p
    obtain ⟨ent, q1, q2, q3, q4, q5, q6⟩ := hfk
    rw [zaa]
    refine zfq hG hL hd (l := l) (c := cl) (l' := l.eraseIdx n) hid hB hown (hE.erase n) (hexec _ ?_) (.inl rfl) hrep
    rw [hv]
    have : (⟨l⟩ : Array MapEntry).eraseIdxIfInBounds n = ⟨l.eraseIdx n⟩ := by
      apply Array.ext'
      simp [Array.eraseIdxIfInBounds, (List.getElem?_eq_some_iff.1 q2).1]
    simp [Builtin.delete_, run_underlying hu, zcj hh, hck, q1, this, zdu hh]
theorem zs0 {α : Type} : ∀ (l : List α) (n : Nat) (x : α), l[n]? = some x → l.set n x = l
  | [], n, _, h => by simp at h
  | y :: l, 0, x, h => by simp at h; subst h; rfl
  | y :: l, n + 1, x, h => by simp only [List.set_cons_succ, zs0 l n x (by simpa using h)]
theorem zyq (hG : GSim ι j own σ w) (hL : LSim ι j own lb N e a w) {o : Oper} {ks : Bool} {z : D} {zv : Value} {t kt el : TypeId} {x i : Operand} {x' i' : AOpd} (ho : o.op = .mapEntry t x i) (hd : ∀ s, o.dst = some s → s < N)
    (hk : okOpd x x' = true) (hk1 : okOpd i i' = true) (ht : mapTB P t = some (kt, el)) (hkt : keyB P ks kt = true) (hz : (P.info? el).bind (·.zero) = some zv) (hzc : zba z zv = true) {c k : Cell} {id : Nat} {es : List (D × D × Nat)} {cl : Nat} {r : Option (D × Nat × Nat)}
    (h1 : opd e x' = some c) (h2 : opd e i' = some k) (h4 : mapAt σ.oth c.d = some (id, es, cl)) (h5 : keyD ks k.d = true) (h6 : findM k.d es = some r) :
    Did P N ι j own w o a (e.put o.dst ⟨false, caseO r (.tup [z, .int .i64 cl]) (fun p => .tup [p.1, .int .i64 p.2.1])⟩) { σ with oth := aset σ.oth id (caseO r (.map (es ++ [(k.d, z, cl)]) (cl + 1)) fun _ => .map es cl) } := by
  have hi := zan hL hk1 h2
  obtain ⟨b, l, _, hB, hown, hv, hid, hh, hE⟩ := zh3 hG (zan hL hk h1) h4
  have hu := ze0 ht
  have hzrep := zeu ι j z zv hzc
  have hzrun : (zeroValue el).run P w = .ok zv w := by
    cases hie : P.info? el with
    | none => rw [hie] at hz; cases hz
    | some ie =>
      rw [hie] at hz
      simp only [Option.bind_some] at hz
      simp [zeroValue, typeInfo, hie, hz]
  have hck := zd8 (P := P) (w := w) hkt h5 hi false
  have hfk := zf5 (P := P) (w := w) hkt h5 hi hE h6
  have hexec : ∀ v w', (Instr.mapEntry t (a.eval x) (a.eval i)).run P w = .ok v w' → (execOp a.eval o).run P w = .ok (.value v) w' := by
    intro v w' h
    simp only [execOp, ho, Sem.run_bind, h, Result.andThen_ok, Sem.run_pure]
  cases r with
  | none =>
    simp only at hfk
    rw [zad, zad]
    refine zfq hG hL hd (l := l) (c := cl) (l' := l ++ [{ key := a.eval i, val := zv, born := cl }]) (v := .tuple #[zv, .int .i64 cl]) hid hB hown (hE.append (by simp only [zas]; exact ⟨_, _, rfl, hi, hzrep, rfl, rfl⟩)) (hexec _ _ ?_) (.inl rfl) (by simp only [Rep, RepL]; exact ⟨_, rfl, _, _, rfl, hzrep, _, _, rfl, rfl, rfl⟩)
    rw [hv]
    have hp : (⟨l⟩ : Array MapEntry).push { key := a.eval i, val := zv, born := cl } = ⟨l ++ [{ key := a.eval i, val := zv, born := cl }]⟩ := by
      apply Array.ext'
      simp
    simp only [Instr.mapEntry, Sem.run_bind, run_underlying hu, Result.andThen_ok, zcj hh, hck, hfk, hzrun, hp, zdu hh, Sem.run_pure, goInt]
  | some p =>
    obtain ⟨d, bn, n⟩ := p
    obtain ⟨ent, q1, q2, q3, q4, q5, q6⟩ := hfk
    rw [zaa, zaa]
    have hq : (⟨l⟩ : Array MapEntry)[n]? = some ent := by simpa using q2
    have hent : ({ ent with key := a.eval i } : MapEntry) = ent := by rw [← q5]
    refine zfq hG hL hd (l := l) (c := cl) (l' := l) (v := .tuple #[ent.val, .int .i64 bn]) hid hB hown hE (hexec _ _ ?_) (.inl rfl) (by simp only [Rep, RepL]; exact ⟨_, rfl, _, _, rfl, q3, _, _, rfl, rfl, rfl⟩)
    rw [hv]
    have hst : (Instr.keyThatStays ent.key (a.eval i)).run P w = .ok (a.eval i) w := by
      simp only [q5, Instr.keyThatStays, zlo h5 hi, if_true, Sem.run_pure]
    have hm : (⟨l⟩ : Array MapEntry).modify n (fun e => { e with key := a.eval i }) = ⟨l⟩ := by
      rw [zj4 q2, hent, zs0 l n ent q2]
    simp only [Instr.mapEntry, Sem.run_bind, run_underlying hu, Result.andThen_ok, zcj hh, hck, q1, hq, Option.map_some, Option.getD_some, hst, hm, zdu hh, q4, Sem.run_pure, goInt]
theorem zsz {b : Nat} {d : D} {v : Value} (hv : Rep ι j d v) : ∀ {es : List (D × D × Nat)} {l : List MapEntry}, zas ι j es l → hasM b es = true → ∃ n ent, l.findIdx? (fun e => (e.born : Int) == (b : Int)) = some n ∧ l[n]? = some ent ∧ zas ι j (setM b d es) (l.set n { ent with val := v })
  | [], l, _, h => by simp only [hasM, Bool.false_eq_true] at h
  | (k, x, b') :: es, l, hE, h => by
    simp only [zas] at hE
    obtain ⟨e0, l0, rfl, h1, h2, h3, h5⟩ := hE
    simp only [hasM] at h
    cases hb : b' == b with
    | true =>
      have hbb : b' = b := by simpa using hb
      refine ⟨0, e0, by simp [List.findIdx?_cons, h3, hbb], rfl, ?_⟩
      simp only [setM, hb, zae, List.set_cons_zero, zas]
      exact ⟨_, l0, rfl, h1, hv, h3, h5⟩
    | false =>
      rw [hb, zac] at h
      obtain ⟨n, ent, q1, q2, q3⟩ := zsz hv h5 h
      have hne : ((e0.born : Int) == (b : Int)) = false := by
        rw [h3]
        simp only [beq_eq_false_iff_ne, ne_eq] at hb ⊢
        omega
      refine ⟨n + 1, ent, by simp [List.findIdx?_cons, hne, q1], by simpa using q2, ?_⟩
      simp only [setM, hb, zac, List.set_cons_succ, zas]
      exact ⟨e0, _, rfl, h1, h2, h3, q3⟩
theorem zop (hG : GSim ι j own σ w) (hL : LSim ι j own lb N e a w) {o : Oper} {t : TypeId} {x s y : Operand} {x' s' y' : AOpd} (ho : o.op = .entryStore t x s y) (hd : ∀ s, o.dst = some s → s < N)
    (hk : okOpd x x' = true) (hk1 : okOpd s s' = true) (hk2 : okOpd y y' = true) {c b v : Cell} {id bn : Nat} {es : List (D × D × Nat)} {cl : Nat}
    (h1 : opd e x' = some c) (h2 : opd e s' = some b) (h3 : b.d.nat? = some bn) (h4 : opd e y' = some v) (h5 : mapAt σ.oth c.d = some (id, es, cl)) (h6 : hasM bn es = true) :
    Did P N ι j own w o a (e.put o.dst ⟨false, .undef⟩) { σ with oth := aset σ.oth id (.map (setM bn v.d es) cl) } := by
  obtain ⟨k, hs⟩ := zfi h3 (zan hL hk1 h2)
  have hy := zan hL hk2 h4
  obtain ⟨B, l, _, hB, hown, hv, hid, hh, hE⟩ := zh3 hG (zan hL hk h1) h5
  obtain ⟨n, ent, q1, q2, q3⟩ := zsz hy hE h6
  refine zfq hG hL hd (l := l) (c := cl) (l' := l.set n { ent with val := a.eval y }) (nx := .skip) (v := Go.undef) hid hB hown q3 ?_ (.inr ⟨rfl, rfl⟩) (by simp only [Rep])
  have hf : (⟨l⟩ : Array MapEntry).findIdx? (fun e => (e.born : Int) == (bn : Int)) = some n := by
    have : (l.toArray).findIdx? (fun e => (e.born : Int) == (bn : Int)) = l.findIdx? (fun e => (e.born : Int) == (bn : Int)) := by simp
    exact this.trans q1
  simp only [execOp, ho, hv, hs, Instr.entryStore, Sem.run_bind, zcj hh, Result.andThen_ok, asInt, asIntOf, Sem.run_pure, hf, zj4 q2, zdu hh]
end
end Go.Mx
