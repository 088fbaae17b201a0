/-
  Stores that only grow; rows of texts that lie in them.
-/
import Derived.Test.YtkgdpcnobfadaaaGreatDoorFnAp
set_option linter.unusedSimpArgs false
set_option linter.unusedVariables false
namespace Go.Fu
open Go Go.Mx
set_option maxRecDepth 10000
theorem zbw {body : Env → Store → XRes} (P : Nat → Env → Store → Prop) (Q : AExit × Env × Store → Prop) (k : Nat) (hstep : ∀ i e σ, i < k → P i e σ → ∃ e' σ', body e σ = some (.normal, e', σ') ∧ P (i + 1) e' σ')
    (hend : ∀ e σ, P k e σ → ∃ r, body e σ = some r ∧ (∀ e σ, r ≠ (.normal, e, σ)) ∧ Q r) : ∀ (j n : Nat) (e : Env) (σ : Store), j ≤ k → k < n + j → P j e σ → ∃ r, loopN body n e σ = some r ∧ Q r
  | j, 0, e, σ, h1, h2, _ => by omega
  | j, n + 1, e, σ, h1, h2, hp => by
    rw [loopN]
    by_cases hj : j = k
    · subst hj
      obtain ⟨r, hr, hn, hq⟩ := hend e σ hp
      rw [hr]
      obtain ⟨x, e', σ'⟩ := r
      cases x with
      | normal => exact absurd rfl (hn e' σ')
      | _ => exact ⟨_, rfl, hq⟩
    · obtain ⟨e', σ', hb, hp'⟩ := hstep j e σ (by omega) hp
      rw [hb]
      exact zbw P Q k hstep hend (j + 1) n e' σ' (by omega) (by omega) hp'
theorem zar {α : Type} : ∀ (l : List (Nat × α)) (i j : Nat), i ≠ j → aget (adel1 l j) i = aget l i
  | [], _, _, _ => rfl
  | (k, x) :: l, i, j, h => by
    have ih := zar l i j h
    simp only [adel1, aget]
    cases hkj : k == j with
    | true =>
      have : k = j := by simpa using hkj
      have hki : (k == i) = false := beq_false_of_ne (by omega)
      rw [zae, hki, zac, ih]
    | false => rw [zac, aget, ih]
theorem zdq {α : Type} : ∀ (l : List (Nat × α)) (j : Nat) (p : Nat × α), p ∈ adel1 l j → p ∈ l
  | [], _, _, h => h
  | (k, x) :: l, j, p, h => by
    simp only [adel1] at h
    cases hkj : k == j with
    | true => rw [hkj, zae] at h; exact List.mem_cons_of_mem _ (zdq l j p h)
    | false =>
      rw [hkj, zac] at h
      rcases List.mem_cons.1 h with rfl | h
      · simp
      · exact List.mem_cons_of_mem _ (zdq l j p h)
theorem zao {α : Type} : ∀ (l : List (Nat × α)) (i j : Nat) (x : α), aget (aset l j x) i = if i = j then some x else aget l i
  | [], i, j, x => by
    simp only [aset, aget]
    by_cases h : i = j
    · subst h; simp [ifB]
    · have : (j == i) = false := beq_false_of_ne (by omega)
      rw [this, zac, if_neg h]
  | (k, y) :: l, i, j, x => by
    have ih := zao l i j x
    simp only [aset]
    cases hkj : k == j with
    | true =>
      have : k = j := by simpa using hkj
      subst this
      rw [zae, aget]
      by_cases h : i = k
      · subst h; simp [ifB]
      · have h2 : (k == i) = false := beq_false_of_ne (by omega)
        rw [h2, zac, if_neg h, aget, h2, zac]
    | false =>
      have hne : k ≠ j := by simpa using hkj
      rw [zac]
      cases hb : Nat.ble j k with
      | true =>
        rw [zae, aget]
        by_cases h : i = j
        · subst h; simp [ifB]
        · have h2 : (j == i) = false := beq_false_of_ne (by omega)
          rw [h2, zac, if_neg h]
      | false =>
        rw [zac, aget, aget, ih]
        cases h2 : k == i with
        | true =>
          have : k = i := by simpa using h2
          rw [zae, if_neg (by omega), zae]
        | false => rw [zac, zac]
theorem zr5 {α : Type} : ∀ (l : List (Nat × α)) (j : Nat) (x : α) (p : Nat × α), p ∈ aset l j x → p.1 = j ∨ p ∈ l
  | [], j, x, p, h => by simp only [aset, List.mem_singleton] at h; rw [h]; exact .inl rfl
  | (k, y) :: l, j, x, p, h => by
    simp only [aset] at h
    cases hkj : k == j with
    | true =>
      have : k = j := by simpa using hkj
      rw [hkj, zae] at h
      rcases List.mem_cons.1 h with rfl | h
      · exact .inl this
      · exact .inr (List.mem_cons_of_mem _ h)
    | false =>
      rw [hkj, zac] at h
      cases hb : Nat.ble j k with
      | true =>
        rw [hb, zae] at h
        rcases List.mem_cons.1 h with rfl | h
        · exact .inl rfl
        · exact .inr h
      | false =>
        rw [hb, zac] at h
        rcases List.mem_cons.1 h with rfl | h
        · exact .inr (by simp)
        · rcases zr5 l j x p h with h | h
          · exact .inl h
          · exact .inr (List.mem_cons_of_mem _ h)
structure Ext (σ σ' : Store) : Prop where
  wf : WF σ'
  next : σ.next ≤ σ'.next
  objs : ∀ id, id < σ.next → aget σ'.objs id = aget σ.objs id
  tys : ∀ id, id < σ.next → aget σ'.tys id = aget σ.tys id
  oth : σ'.oth = σ.oth
theorem Ext.refl {σ : Store} (h : WF σ) : Ext σ σ := ⟨h, Nat.le_refl _, fun _ _ => rfl, fun _ _ => rfl, rfl⟩
theorem Ext.trans {a b c : Store} (h : Ext a b) (h' : Ext b c) : Ext a c :=
  ⟨h'.wf, Nat.le_trans h.next h'.next, fun id hi => (h'.objs id (Nat.lt_of_lt_of_le hi h.next)).trans (h.objs id hi), fun id hi => (h'.tys id (Nat.lt_of_lt_of_le hi h.next)).trans (h.tys id hi), h'.oth.trans h.oth⟩
theorem zey {σ : Store} (h : WF σ) (cs : List Cell) (ty : Ty) (k : Nat) (hk : 1 ≤ k) : Ext σ { objs := (σ.next, cs) :: σ.objs, tys := (σ.next, ty) :: σ.tys, oth := σ.oth, next := σ.next + k } := by
  refine ⟨⟨fun p hp => ?_, fun p hp => ?_, fun p hp => ?_⟩, Nat.le_add_right _ _, fun id hi => ?_, fun id hi => ?_, rfl⟩
  · rcases List.mem_cons.1 hp with rfl | hp
    · simp only; omega
    · have := h.objs p hp; simp only; omega
  · rcases List.mem_cons.1 hp with rfl | hp
    · simp only; omega
    · have := h.tys p hp; simp only; omega
  · have := h.oth p hp; simp only; omega
  · have : (σ.next == id) = false := beq_false_of_ne (by omega)
    simp only [aget, this, zac]
  · have : (σ.next == id) = false := beq_false_of_ne (by omega)
    simp only [aget, this, zac]
def ArrIn (σ : Store) (r : D) (ls : List (List UInt8)) : Prop := (ls = [] ∧ r = .nils) ∨ ∃ id, r = .arr k_0 id 0 ls.length ∧ aget σ.objs id = some (cellsOf (ls.map D.str)) ∧ aget σ.tys id = some ⟨k_0.el, k_0.sz⟩ ∧ id < σ.next
def ArrOf (σ0 σ : Store) (r : D) (ls : List (List UInt8)) : Prop := Ext σ0 σ ∧ ((ls = [] ∧ r = .nils) ∨ ∃ id, r = .arr k_0 id 0 ls.length ∧ aget σ.objs id = some (cellsOf (ls.map D.str)) ∧ aget σ.tys id = some ⟨k_0.el, k_0.sz⟩ ∧ σ0.next ≤ id ∧ id < σ.next ∧ ls ≠ [])
theorem ArrOf.isIn {σ0 σ : Store} {r : D} {ls : List (List UInt8)} (h : ArrOf σ0 σ r ls) : ArrIn σ r ls := by
  rcases h.2 with h | ⟨id, h1, h2, h3, _, h5⟩
  · exact .inl h
  · exact .inr ⟨id, h1, h2, h3, h5.1⟩
theorem ArrOf.ext {σ0 σ σ' : Store} {r : D} {ls : List (List UInt8)} (h : ArrOf σ0 σ r ls) (hx : Ext σ σ') : ArrOf σ0 σ' r ls := by
  refine ⟨h.1.trans hx, ?_⟩
  rcases h.2 with h | ⟨id, h1, h2, h3, h4, h5⟩
  · exact .inl h
  · exact .inr ⟨id, h1, (hx.objs id h5.1).trans h2, (hx.tys id h5.1).trans h3, h4, Nat.lt_of_lt_of_le h5.1 hx.next, h5.2⟩
theorem ArrOf.len {σ0 σ : Store} {r : D} {ls : List (List UInt8)} (h : ArrOf σ0 σ r ls) : lenOf r = some ls.length := by
  rcases h.2 with ⟨rfl, rfl⟩ | ⟨id, rfl, _⟩ <;> rfl
theorem ArrIn.len {σ : Store} {r : D} {ls : List (List UInt8)} (h : ArrIn σ r ls) : lenOf r = some ls.length := by
  rcases h with ⟨rfl, rfl⟩ | ⟨id, rfl, _⟩ <;> rfl
theorem zem (ls : List (List UInt8)) : ∀ d ∈ ls.map D.str, d.cells.length = k_0.sz ∧ packD k_0 d.cells = d := fun d hd => by
  obtain ⟨x, _, rfl⟩ := List.mem_map.1 hd
  exact ⟨rfl, rfl⟩
theorem apA {σ0 σ σ1 : Store} {r : D} {ls ys : List (List UInt8)} (h : ArrOf σ0 σ r ls) (hx : Ext σ σ1) (hy : ys ≠ []) (hl : ls.length + ys.length < 1048576) : ∃ r' σ', zb9 σ1 k_0 16 r (ys.map D.str) = some (r', σ') ∧ ArrOf σ0 σ' r' (ls ++ ys) := by
  have h' := h.ext hx
  have hall : zau k_0.sz (ys.map D.str) = true := by
    clear hy hl
    induction ys with
    | nil => rfl
    | cons y ys ih => simp only [List.map_cons, zau, ih]; rfl
  have hwf := h'.1.wf
  have hlen : (ys.map D.str).length = ys.length := by simp
  rcases h'.2 with ⟨rfl, rfl⟩ | ⟨id, rfl, h1, h2, h3, h4⟩
  · refine ⟨.arr k_0 σ1.next 0 ys.length, za4 σ1 k_0 (cellsOf (ys.map D.str)), ?_, ?_⟩
    · have e : (ys.map D.str).isEmpty = false := by cases ys with
        | nil => exact absurd rfl hy
        | cons a b => rfl
      simp only [List.length_nil, Nat.zero_add] at hl
      have e1 : decide (ys.length * 16 ≤ bound) = true := decide_eq_true (show ys.length * 16 ≤ 1099511627776 by omega)
      have e2 : decide (ys.length ≤ bound) = true := decide_eq_true (show ys.length ≤ 1099511627776 by omega)
      simp only [zb9, hall, zae, e, zac, hlen, e1, e2, Bool.and_self]
    · refine ⟨h'.1.trans (zey hwf _ _ 2 (by omega)), .inr ⟨σ1.next, ?_, ?_, ?_, h'.1.next, ?_, by simp [hy]⟩⟩
      · simp
      · simp [za4, aget, ifB]
      · simp [za4, aget, ifB]
      · simp only [za4]; omega
  · refine ⟨.arr k_0 σ1.next 0 (ls.length + ys.length), za4 { σ1 with objs := adel1 σ1.objs id } k_0 (cellsOf ((ls ++ ys).map D.str)), ?_, ?_⟩
    · have hc := zb8 (ls.map D.str) fun d hd => (zem ls d hd).1
      rw [List.length_map] at hc
      have ht : (cellsOf (ls.map D.str)).take (ls.length * k_0.sz) = cellsOf (ls.map D.str) := List.take_of_length_le (by omega)
      have e0 : decide (ls.length * k_0.sz ≤ (cellsOf (ls.map D.str)).length) = true := by simp; omega
      have e1 : decide ((ls.length + ys.length) * 16 ≤ bound) = true := decide_eq_true (show (ls.length + ys.length) * 16 ≤ 1099511627776 by omega)
      have e2 : decide (ls.length + ys.length ≤ bound) = true := decide_eq_true (show ls.length + ys.length ≤ 1099511627776 by omega)
      have ek : k_0.same k_0 = true := by simp [RowK.same]
      have en : (cellsOf (ls.map D.str)).map (fun c => Cell.of c.d) ++ cellsOf (ys.map D.str) = cellsOf ((ls ++ ys).map D.str) := by rw [zg2, List.map_append, zdm]
      simp only [zb9, hall, zae, h1, h2, bindO, zaa, ek, beq_self_eq_true, hlen, e0, e1, e2, Bool.and_self, ht, en]
    · have hd : Ext σ0 { σ1 with objs := adel1 σ1.objs id } := by
        refine ⟨⟨fun p hp => hwf.objs p (zdq _ _ _ hp), hwf.tys, hwf.oth⟩, h'.1.next, fun i hi => ?_, h'.1.tys, h'.1.oth⟩
        rw [← h'.1.objs i hi]
        exact zar _ _ _ (by omega)
      refine ⟨hd.trans (zey hd.wf _ _ 2 (by omega)), .inr ⟨σ1.next, ?_, ?_, ?_, h'.1.next, ?_, by simp [hy]⟩⟩
      · simp
      · simp [za4, aget, ifB]
      · simp [za4, aget, ifB]
      · simp only [za4]; omega
theorem zdg : ∀ (l : List (List UInt8)) (i : Nat) (h : i < l.length), nth (cellsOf (l.map D.str)) i = some ⟨false, .str l[i]⟩
  | [], i, h => by simp at h
  | s :: l, 0, h => rfl
  | s :: l, i + 1, h => by
    have := zdg l i (by simpa using h)
    simpa [cellsOf, nth, D.cells] using this
theorem zd7b (σ : Store) (y : List UInt8) : zbm (za4 σ k_0 (cellsOf [.str y])).objs (.arr k_0 σ.next 0 1) = some [.str y] := by
  have h : aget (za4 σ k_0 (cellsOf [.str y])).objs σ.next = some (cellsOf [.str y]) := by simp [za4, aget, ifB]
  have e := zid (k := k_0) (ds := [D.str y]) (fun d hd => by
    simp only [List.mem_singleton] at hd
    subst hd
    exact ⟨rfl, rfl⟩)
  have hc : (k_0.ag || k_0.sz == 1) = true := rfl
  have hd : decide ((0 + 1) * k_0.sz ≤ (cellsOf [D.str y]).length) = true := rfl
  simp only [List.length_cons, List.length_nil, Nat.zero_add] at e hd
  simp only [zbm, h, bindO, zaa, hc, hd, Nat.zero_add, Bool.and_self, zae, e]
theorem zwc {σ : Store} (h : WF σ) (k : RowK) (cs : List Cell) : Ext σ (za4 σ k cs) := zey h cs _ 2 (by omega)
theorem zjz {σ0 σ : Store} {r : D} {ls : List (List UInt8)} (h : ArrOf σ0 σ r ls) (s : Nat) (e : Env) (hs : aget e.slots s = some ⟨false, r⟩) : ∃ σ', zcz [.slot s] e σ = some ({ e with slots := aset e.slots s ⟨false, dSs ls⟩ }, σ') ∧ Ext σ0 σ' := by
  rcases h.2 with ⟨rfl, rfl⟩ | ⟨id, rfl, h1, h2, h3, h4, h5⟩
  · refine ⟨σ, ?_, h.1⟩
    simp only [zcz, zej, hs, bindO, zaa]
    rfl
  · refine ⟨{ objs := adel1 σ.objs id, tys := σ.tys, oth := σ.oth, next := σ.next }, ?_, ⟨⟨fun p hp => h.1.wf.objs p (zdq _ _ _ hp), h.1.wf.tys, h.1.wf.oth⟩, h.1.next, fun i hi => ?_, h.1.tys, h.1.oth⟩⟩
    · have hr := zuf (k := k_0) (id := id) (n := 39) (ds := ls.map D.str) (os := σ.objs) (os' := adel1 σ.objs id) h1 rfl rfl (zem ls) (fun d hd => by obtain ⟨x, _, rfl⟩ := List.mem_map.1 hd; rfl)
      rw [List.length_map] at hr
      have hd : dSs ls = .list k_0 (ls.map D.str) := by
        cases ls with
        | nil => exact absurd rfl h5
        | cons a b => rfl
      simp only [zcz, zej, hs, bindO, zaa, hr, hd, Cell.keeps]
    · rw [← h.1.objs i hi]
      exact zar _ _ _ (by omega)
end Go.Fu
namespace Go.Fu
open Go Go.Mx
set_option maxRecDepth 10000
section
variable {C : CallF} {n : Nat} {σ : Store}
def EiA (id : Nat) (l : List (List UInt8)) (s : List UInt8) (i : Nat) : Env := { slots := [(0, ⟨false, .arr k_0 id 0 l.length⟩), (1, ⟨false, .str s⟩), (7, ⟨false, .int .i64 l.length⟩), (8, ⟨false, .int .i64 i⟩)], locs := [], boxes := [], defers := [] }
theorem zd4b (id : Nat) (l : List (List UInt8)) (s : List UInt8) (i : Nat) (h : i < l.length) (hl : l.length < 1048576) (ha : aget σ.objs id = some (cellsOf (l.map D.str))) (hp : (s == l[i]) = false) : exec C n a_12 (EiA id l s i) σ = some (.normal, EiA id l s (i + 1), σ) := by
  have hi : ((i : Int) < (l.length : Int)) := by omega
  have hx := zdg l i h
  simp only [a_12, EiA, de0, de1, de2, szQ, szB, szL, sy0, sy1, sy2, sy3, sy4, sy5, zad, zaa, zac, zae, adel, zah, zag, zai, zaf, evalV, aget, aset, adel1, nth, AOp.kind, Nat.reduceAdd, Nat.reduceSub, Nat.reduceMul, Nat.reduceBEq, Nat.ble, bindO, Nat.reduceLeDiff, Int.reduceBEq, Int.reduceBNe, Int.reduceLE, Int.reduceLT, Int.reduceGE, Int.reduceGT, Int.reduceNeg, ks, lz, memE, memOp, zb0, Nat.mul_one, hi, h, ha, hx, hp, zam (i := i) (by omega)]
theorem zd5b (id : Nat) (l : List (List UInt8)) (s : List UInt8) (i : Nat) (h : i < l.length) (hl : l.length < 1048576) (ha : aget σ.objs id = some (cellsOf (l.map D.str))) (hp : (s == l[i]) = true) : exec C n a_12 (EiA id l s i) σ = some (.ret, { slots := [(4, ⟨false, .int .i64 i⟩)], locs := [], boxes := [], defers := [] }, σ) := by
  have hi : ((i : Int) < (l.length : Int)) := by omega
  have hx := zdg l i h
  simp only [a_12, EiA, de0, de1, de2, szQ, szB, szL, sy0, sy1, sy2, sy3, sy4, sy5, zad, zaa, zac, zae, adel, zah, zag, zai, zaf, evalV, aget, aset, adel1, nth, AOp.kind, Nat.reduceAdd, Nat.reduceSub, Nat.reduceMul, Nat.reduceBEq, Nat.ble, bindO, Nat.reduceLeDiff, Int.reduceBEq, Int.reduceBNe, Int.reduceLE, Int.reduceLT, Int.reduceGE, Int.reduceGT, Int.reduceNeg, ks, lz, memE, memOp, zb0, Nat.mul_one, hi, h, ha, hx, hp]
theorem zgrb (id : Nat) (l : List (List UInt8)) (s : List UInt8) : exec C n a_12 (EiA id l s l.length) σ = some (.exit 0, { EiA id l s l.length with slots := [(0, ⟨false, .arr k_0 id 0 l.length⟩), (1, ⟨false, .str s⟩), (7, ⟨false, .int .i64 l.length⟩), (8, ⟨false, .int .i64 l.length⟩), (9, ⟨false, .bool false⟩)] }, σ) := by
  have hi : ¬ ((l.length : Int) < (l.length : Int)) := by omega
  simp only [a_12, EiA, de0, de1, de2, szQ, szB, szL, sy0, sy1, sy2, sy3, sy4, sy5, zad, zaa, zac, zae, adel, zah, zag, zai, zaf, evalV, aget, aset, adel1, nth, AOp.kind, Nat.reduceAdd, Nat.reduceSub, Nat.reduceMul, Nat.reduceBEq, Nat.ble, bindO, Nat.reduceLeDiff, Int.reduceBEq, Int.reduceBNe, Int.reduceLE, Int.reduceLT, Int.reduceGE, Int.reduceGT, Int.reduceNeg, ks, hi]
theorem zgsb (s : List UInt8) : exec C n a_12 { slots := [(0, ⟨false, .nils⟩), (1, ⟨false, .str s⟩), (7, ⟨false, .int .i64 0⟩), (8, ⟨false, .int .i64 0⟩)], locs := [], boxes := [], defers := [] } σ = some (.exit 0, { slots := [(0, ⟨false, .nils⟩), (1, ⟨false, .str s⟩), (7, ⟨false, .int .i64 0⟩), (8, ⟨false, .int .i64 0⟩), (9, ⟨false, .bool false⟩)], locs := [], boxes := [], defers := [] }, σ) := by
  simp only [a_12, de0, de1, de2, szQ, szB, szL, sy0, sy1, sy2, sy3, sy4, sy5, zad, zaa, zac, zae, adel, zah, zag, zai, zaf, evalV, aget, aset, adel1, nth, AOp.kind, Nat.reduceAdd, Nat.reduceSub, Nat.reduceMul, Nat.reduceBEq, Nat.ble, bindO, Nat.reduceLeDiff, Int.reduceBEq, Int.reduceBNe, Int.reduceLE, Int.reduceLT, Int.reduceGE, Int.reduceGT, Int.reduceNeg, ks, lz]
end
theorem zxm (l : List (List UInt8)) (s : List UInt8) (hl : l.length < 1048576) : Evly fun n => ∀ σ r, ArrIn σ r l → T n n_64 [r, .str s] σ = some (.ret ⟨false, .int .i64 (posI s l)⟩, σ) :=
  (zh2 l s hl).step (l.length + 2) fun m hm h0 σ r hr => by
  rw [T_fun (af := a_23) rfl rfl]
  rcases hr with ⟨rfl, rfl⟩ | ⟨id, rfl, ha, _, _⟩
  · have hloop := za7 (k := m - 1) (zgsb (C := T m) (n := m) (σ := σ) s)
    rw [show m - 1 + 1 = m by omega] at hloop
    have hv : posI s [] = -1 := rfl
    simp only [a_23, de0, de1, de2, szQ, szB, szL, sy0, sy1, sy2, sy3, sy4, sy5, zad, zaa, zac, zae, adel, zah, zag, zai, zaf, evalV, aget, aset, adel1, nth, AOp.kind, Nat.reduceAdd, Nat.reduceSub, Nat.reduceMul, Nat.reduceBEq, Nat.ble, bindO, Nat.reduceLeDiff, Int.reduceBEq, Int.reduceBNe, Int.reduceLE, Int.reduceLT, Int.reduceGE, Int.reduceGT, Int.reduceNeg, ks, lz, hloop, hv]
  · have hloop := zdi (body := exec (T m) m a_12) (EiA id l s) (fun _ => σ) l.length (atF l s) (stop := fun i => (.ret, { slots := [(4, ⟨false, .int .i64 i⟩)], locs := [], boxes := [], defers := [] }, σ)) (fun _ _ h => by cases h) (fun _ _ _ h => by cases h)
      (fun i hi hp => zd4b id l s i hi hl ha (by rw [zcf hi] at hp; simpa using hp)) (fun i hi hp => zd5b id l s i hi hl ha (by rw [zcf hi] at hp; simpa using hp)) (zgrb id l s) m 0 (by omega) (by omega)
    simp only [EiA, zeroI] at hloop
    rcases hloop with ⟨i, _, hi, hp, hb, hrest⟩ | ⟨hp, hrest⟩
    · have hv : posI s l = i := by
        unfold posI
        rw [zh5 hi (fun k hk hki => by have := hb k (Nat.zero_le _) hki; rw [zcf hk] at this; simpa using this) (by rw [zcf hi] at hp; simpa using hp)]
      simp only [a_23, de0, de1, de2, szQ, szB, szL, sy0, sy1, sy2, sy3, sy4, sy5, zad, zaa, zac, zae, adel, zah, zag, zai, zaf, evalV, aget, aset, adel1, nth, AOp.kind, Nat.reduceAdd, Nat.reduceSub, Nat.reduceMul, Nat.reduceBEq, Nat.ble, bindO, Nat.reduceLeDiff, Int.reduceBEq, Int.reduceBNe, Int.reduceLE, Int.reduceLT, Int.reduceGE, Int.reduceGT, Int.reduceNeg, ks, hrest, hv]
    · have hv : posI s l = -1 := by
        unfold posI
        rw [zh4 fun k hk => by have := hp k (Nat.zero_le _) hk; rw [zcf hk] at this; simpa using this]
      simp only [a_23, de0, de1, de2, szQ, szB, szL, sy0, sy1, sy2, sy3, sy4, sy5, zad, zaa, zac, zae, adel, zah, zag, zai, zaf, evalV, aget, aset, adel1, nth, AOp.kind, Nat.reduceAdd, Nat.reduceSub, Nat.reduceMul, Nat.reduceBEq, Nat.ble, bindO, Nat.reduceLeDiff, Int.reduceBEq, Int.reduceBNe, Int.reduceLE, Int.reduceLT, Int.reduceGE, Int.reduceGT, Int.reduceNeg, ks, hrest, hv]
theorem zj6 {s : List UInt8} : ∀ {l : List (List UInt8)}, (posS s l).isSome = l.contains s
  | [] => rfl
  | x :: l => by
    have ih := zj6 (s := s) (l := l)
    simp only [posS, List.contains_cons]
    cases h : s == x with
    | true => simp
    | false => simp [ih]
theorem zftb (s : List UInt8) (l : List (List UInt8)) : (posI s l ≥ 0) ↔ l.contains s = true := by
  rw [← zj6]
  unfold posI
  cases h : posS s l with
  | none => simp
  | some k => simp
theorem zk5 (l : List (List UInt8)) (s : List UInt8) (m : Nat) (d : D) (σ : Store) (h : T m n_64 [d, .str s] σ = some (.ret ⟨false, .int .i64 (posI s l)⟩, σ)) : T (m + 1) n_10 [d, .str s] σ = some (.ret ⟨false, .bool (l.contains s)⟩, σ) := by
  have hg := zftb s l
  rw [T_fun (af := a_57) rfl rfl]
  cases hc : l.contains s with
  | true =>
    have h0 := hg.2 hc
    simp only [a_57, de0, de1, de2, szQ, szB, szL, sy0, sy1, sy2, sy3, sy4, sy5, zad, zaa, zac, zae, adel, zah, zag, zai, zaf, evalV, aget, aset, adel1, nth, AOp.kind, Nat.reduceAdd, Nat.reduceSub, Nat.reduceMul, Nat.reduceBEq, Nat.ble, bindO, Nat.reduceLeDiff, Int.reduceBEq, Int.reduceBNe, Int.reduceLE, Int.reduceLT, Int.reduceGE, Int.reduceGT, Int.reduceNeg, ks, lz, h, h0]
  | false =>
    have h0 : ¬ (posI s l ≥ 0) := fun e => by rw [hg.1 e] at hc; cases hc
    simp only [a_57, de0, de1, de2, szQ, szB, szL, sy0, sy1, sy2, sy3, sy4, sy5, zad, zaa, zac, zae, adel, zah, zag, zai, zaf, evalV, aget, aset, adel1, nth, AOp.kind, Nat.reduceAdd, Nat.reduceSub, Nat.reduceMul, Nat.reduceBEq, Nat.ble, bindO, Nat.reduceLeDiff, Int.reduceBEq, Int.reduceBNe, Int.reduceLE, Int.reduceLT, Int.reduceGE, Int.reduceGT, Int.reduceNeg, ks, lz, h, h0]
theorem zrr (l : List (List UInt8)) (s : List UInt8) (hl : l.length < 1048576) : Evly fun n => ∀ σ r, ArrIn σ r l → T n n_10 [r, .str s] σ = some (.ret ⟨false, .bool (l.contains s)⟩, σ) :=
  (zxm l s hl).step 0 fun m _ h σ r hr => zk5 l s m r σ (h σ r hr)
theorem zly (l : List (List UInt8)) (s : List UInt8) (hl : l.length < 1048576) : Evly fun n => ∀ σ, T n n_10 [dSs l, .str s] σ = some (.ret ⟨false, .bool (l.contains s)⟩, σ) :=
  (zh2 l s hl).step 0 fun m _ h σ => zk5 l s m _ σ (h σ)
end Go.Fu
namespace Go.Fu
open Go Go.Mx
set_option maxRecDepth 10000
def nT : Tp → Nat
  | .app f a => nT f + nT a + 1
  | _ => 1
def arrS0 : List UInt8 := [45, 62]
def brS (b : Bool) (s : List UInt8) : List UInt8 := if b then 40 :: s ++ [41] else s
def prT : Tp → Nat → List UInt8
  | .hole x, _ => 63 :: [UInt8.ofNat (48 + x.toNat)]
  | .var s, _ => s
  | .con c, _ => brS (c == arrS0) c
  | .app (.app (.con c) a) b, k => if c == arrS0 then brS (k != 0) (prT a 1 ++ [32, 45, 62, 32] ++ prT b 0) else brS (k == 3) (prT (.app (.con c) a) 2 ++ [32] ++ prT b 3)
  | .app f a, k => brS (k == 3) (prT f 2 ++ [32] ++ prT a 3)
def okV (s : List UInt8) : Bool := match s with
  | [c] => decide (97 ≤ c.toNat) && decide (c.toNat ≤ 122)
  | _ => false
def conL : List (List UInt8) := [[73, 110, 116], [66, 111, 111, 108], [76], [80]]
def okA : Tp → Bool
  | .hole x => decide (0 ≤ x) && decide (x < 6)
  | .var s => okV s
  | .con c => conL.contains c
  | .app f a => okA f && okA a
theorem zox {c : List UInt8} (h : conL.contains c = true) : (c == arrS0) = false := by
  have : c ∈ conL := by simpa using h
  simp only [conL, List.mem_cons, List.not_mem_nil, or_false] at this
  rcases this with rfl | rfl | rfl | rfl <;> rfl
theorem zi5 (f a : Tp) (k : Nat) (h : okA f = true) : prT (.app f a) k = brS (k == 3) (prT f 2 ++ [32] ++ prT a 3) := by
  cases f with
  | hole x => rfl
  | var s => rfl
  | con c => rfl
  | app g b =>
    cases g with
    | hole x => rfl
    | var s => rfl
    | app g b => rfl
    | con c =>
      simp only [okA, Bool.and_eq_true] at h
      have hc := zox h.1
      rw [prT, hc]
      rfl
def atT : Tp → List UInt8
  | .hole x => 63 :: [UInt8.ofNat (48 + x.toNat)]
  | .var s => s
  | .con c => c
  | .app _ _ => []
def isApp : Tp → Bool
  | .app _ _ => true
  | _ => false
def headT : Tp → Tp
  | .app f _ => headT f
  | t => t
def argsT : Tp → List Tp
  | .app f a => argsT f ++ [a]
  | _ => []
def argS : List Tp → List UInt8
  | [] => []
  | a :: r => 32 :: prT a 3 ++ argS r
theorem zl6 : ∀ a b, argS (a ++ b) = argS a ++ argS b
  | [], b => rfl
  | x :: a, b => by simp [argS, zl6 a b]
theorem zlk : ∀ t : Tp, okA t = true → prT t 2 = atT (headT t) ++ argS (argsT t)
  | .hole x, _ => by simp [prT, headT, argsT, atT, argS]
  | .var s, _ => by simp [prT, headT, argsT, atT, argS]
  | .con c, h => by
    have hc := zox (by simpa [okA] using h)
    simp [prT, headT, argsT, atT, argS, hc, brS]
  | .app f a, h => by
    simp only [okA, Bool.and_eq_true] at h
    rw [zi5 f a 2 h.1, zlk f h.1]
    simp [headT, argsT, zl6, argS, brS]
theorem zng (t : Tp) (k : Nat) (h : okA t = true) (ha : isApp t = false) : prT t k = atT t := by
  cases t with
  | hole x => rfl
  | var s => rfl
  | con c =>
    have hc := zox (by simpa [okA] using h)
    simp [prT, atT, hc, brS]
  | app f a => cases ha
theorem zsv (t : Tp) (h : okA t = true) : prT t 0 = prT t 2 := by
  cases t with
  | hole x => rfl
  | var s => rfl
  | con c => rfl
  | app f a =>
    simp only [okA, Bool.and_eq_true] at h
    rw [zi5 f a 0 h.1, zi5 f a 2 h.1]
    rfl
theorem zll (t : Tp) (h : okA t = true) (ha : isApp t = true) : prT t 3 = 40 :: prT t 2 ++ [41] := by
  cases t with
  | app f a =>
    simp only [okA, Bool.and_eq_true] at h
    rw [zi5 f a 3 h.1, zi5 f a 2 h.1]
    rfl
  | _ => cases ha
theorem zm5 : ∀ t : Tp, okA t = true → okA (headT t) = true ∧ isApp (headT t) = false
  | .hole x, h => ⟨h, rfl⟩
  | .var s, h => ⟨h, rfl⟩
  | .con c, h => ⟨h, rfl⟩
  | .app f a, h => by
    simp only [okA, Bool.and_eq_true] at h
    exact zm5 f h.1
theorem zmz : ∀ t : Tp, okA t = true → ∀ a ∈ argsT t, okA a = true ∧ nT a < nT t
  | .hole x, h, a, ha => by simp [argsT] at ha
  | .var s, h, a, ha => by simp [argsT] at ha
  | .con c, h, a, ha => by simp [argsT] at ha
  | .app f b, h, a, ha => by
    simp only [okA, Bool.and_eq_true] at h
    simp only [argsT, List.mem_append, List.mem_singleton] at ha
    rcases ha with ha | rfl
    · have := zmz f h.1 a ha
      refine ⟨this.1, ?_⟩
      simp only [nT]; omega
    · refine ⟨h.2, ?_⟩
      simp only [nT]; omega
theorem znm : ∀ t : Tp, (argsT t).foldl Tp.app (headT t) = t
  | .hole x => rfl
  | .var s => rfl
  | .con c => rfl
  | .app f a => by simp only [argsT, headT, List.foldl_append, znm f, List.foldl]
def zi3 (c : UInt8) : Bool := c != 32 && (c != 40 && c != 41)
theorem zj0 {x : Int} (h : okA (.hole x) = true) : x = 0 ∨ x = 1 ∨ x = 2 ∨ x = 3 ∨ x = 4 ∨ x = 5 := by
  simp only [okA, Bool.and_eq_true, decide_eq_true_eq] at h
  omega
theorem zha {s : List UInt8} (h : okV s = true) : ∃ c, s = [c] ∧ 97 ≤ c.toNat ∧ c.toNat ≤ 122 := by
  unfold okV at h
  split at h
  · simp only [Bool.and_eq_true, decide_eq_true_eq] at h
    exact ⟨_, rfl, h⟩
  · cases h
theorem ze2 {c : List UInt8} (h : okA (.con c) = true) : c = [73, 110, 116] ∨ c = [66, 111, 111, 108] ∨ c = [76] ∨ c = [80] := by
  have : c ∈ conL := by simpa [okA] using h
  simpa [conL] using this
theorem zsu {c : UInt8} (h : 97 ≤ c.toNat) : zi3 c = true := by
  unfold zi3
  have h1 : c ≠ 32 := fun e => by subst e; simp at h
  have h2 : c ≠ 40 := fun e => by subst e; simp at h
  have h3 : c ≠ 41 := fun e => by subst e; simp at h
  simp [h1, h2, h3]
theorem zhj (t : Tp) (h : okA t = true) (ha : isApp t = false) : atT t ≠ [] ∧ ∀ c ∈ atT t, zi3 c = true := by
  cases t with
  | app f a => cases ha
  | hole x =>
    refine ⟨by simp [atT], ?_⟩
    rcases zj0 h with rfl | rfl | rfl | rfl | rfl | rfl <;> decide
  | var s =>
    obtain ⟨c, rfl, h1, h2⟩ := zha (by simpa [okA] using h)
    refine ⟨by simp [atT], fun d hd => ?_⟩
    simp only [atT, List.mem_singleton] at hd
    subst hd
    exact zsu h1
  | con c =>
    rcases ze2 h with rfl | rfl | rfl | rfl <;> exact ⟨by simp [atT], by decide⟩
theorem zze (t u : Tp) (h : okA t = true) (ha : isApp t = false) (h' : okA u = true) (ha' : isApp u = false) (he : atT t = atT u) : t = u := by
  have letter : ∀ {c d : UInt8} {r : List UInt8}, 97 ≤ c.toNat → [c] = d :: r → 97 ≤ d.toNat := fun h e => by
    simp only [List.cons.injEq] at e
    rw [← e.1]; exact h
  cases t with
  | app f a => cases ha
  | hole x =>
    cases u with
    | app f a => cases ha'
    | hole y =>
      rcases zj0 h with rfl | rfl | rfl | rfl | rfl | rfl <;> rcases zj0 h' with rfl | rfl | rfl | rfl | rfl | rfl <;> first | rfl | (exact absurd he (by decide))
    | var s =>
      obtain ⟨c, rfl, h1, h2⟩ := zha (by simpa [okA] using h')
      simp [atT] at he
    | con c => rcases ze2 h' with rfl | rfl | rfl | rfl <;> simp [atT] at he
  | var s =>
    obtain ⟨c, rfl, h1, h2⟩ := zha (by simpa [okA] using h)
    cases u with
    | app f a => cases ha'
    | hole y => simp [atT] at he
    | var s => simp only [atT] at he; rw [he]
    | con d => rcases ze2 h' with rfl | rfl | rfl | rfl <;> (simp only [atT] at he; exact absurd (letter h1 he) (by decide))
  | con d =>
    cases u with
    | app f a => cases ha'
    | hole y => rcases ze2 h with rfl | rfl | rfl | rfl <;> simp [atT] at he
    | var s =>
      obtain ⟨c, rfl, h1, h2⟩ := zha (by simpa [okA] using h')
      rcases ze2 h with rfl | rfl | rfl | rfl <;> (simp only [atT] at he; exact absurd (letter h1 he.symm) (by decide))
    | con c => simp only [atT] at he; rw [he]
def stopB (u : List UInt8) : Prop := u = [] ∨ ∃ c r, u = c :: r ∧ zi3 c = false
theorem zke : ∀ (a b u v : List UInt8), (∀ c ∈ a, zi3 c = true) → (∀ c ∈ b, zi3 c = true) → stopB u → stopB v → a ++ u = b ++ v → a = b ∧ u = v
  | [], [], u, v, _, _, _, _, h => ⟨rfl, h⟩
  | [], y :: b, u, v, _, hb, hu, _, h => by
    have hy := hb y (by simp)
    simp only [List.nil_append, List.cons_append] at h
    rcases hu with rfl | ⟨c, r, rfl, hc⟩
    · cases h
    · simp only [List.cons.injEq] at h
      rw [h.1, hy] at hc; cases hc
  | x :: a, [], u, v, ha, _, _, hv, h => by
    have hx := ha x (by simp)
    simp only [List.nil_append, List.cons_append] at h
    rcases hv with rfl | ⟨c, r, rfl, hc⟩
    · cases h
    · simp only [List.cons.injEq] at h
      rw [← h.1, hx] at hc; cases hc
  | x :: a, y :: b, u, v, ha, hb, hu, hv, h => by
    simp only [List.cons_append, List.cons.injEq] at h
    obtain ⟨h1, h2⟩ := zke a b u v (fun c hc => ha c (by simp [hc])) (fun c hc => hb c (by simp [hc])) hu hv h.2
    exact ⟨by rw [h.1, h1], h2⟩
theorem zkb (l : List Tp) (u : List UInt8) (hu : stopB u) : stopB (argS l ++ u) := by
  cases l with
  | nil => exact hu
  | cons a r => exact .inr ⟨32, prT a 3 ++ argS r ++ u, by simp [argS], by decide⟩
def endB (u : List UInt8) : Prop := u = [] ∨ ∃ r, u = 41 :: r
theorem zjt {u : List UInt8} (h : endB u) : stopB u := by
  rcases h with rfl | ⟨r, rfl⟩
  · exact .inl rfl
  · exact .inr ⟨41, r, rfl, by decide⟩
theorem zbcb : ∀ (n : Nat) (t t' : Tp), nT t ≤ n → okA t = true → okA t' = true →
    (∀ u u', endB u → endB u' → prT t 2 ++ u = prT t' 2 ++ u' → t = t' ∧ u = u') ∧ (∀ v v', stopB v → stopB v' → prT t 3 ++ v = prT t' 3 ++ v' → t = t' ∧ v = v')
  | 0, t, t', hn, _, _ => by cases t <;> simp [nT] at hn
  | n + 1, t, t', hn, h, h' => by
    have hA : ∀ (l l' : List Tp), (∀ a ∈ l, okA a = true ∧ nT a ≤ n) → (∀ a ∈ l', okA a = true) → ∀ u u', endB u → endB u' → argS l ++ u = argS l' ++ u' → l = l' ∧ u = u' := by
      intro l
      induction l with
      | nil =>
        intro l' _ _ u u' hu hu' he
        cases l' with
        | nil => exact ⟨rfl, he⟩
        | cons a r =>
          simp only [argS, List.nil_append, List.cons_append] at he
          rcases hu with rfl | ⟨r, rfl⟩
          · cases he
          · simp at he
      | cons a r ih =>
        intro l' hl hl' u u' hu hu' he
        cases l' with
        | nil =>
          simp only [argS, List.nil_append, List.cons_append] at he
          rcases hu' with rfl | ⟨r, rfl⟩
          · cases he
          · simp at he
        | cons b s =>
          simp only [argS, List.cons_append, List.append_assoc, List.cons.injEq, true_and] at he
          have ha := hl a (by simp)
          have hq := (zbcb n a b ha.2 ha.1 (hl' b (by simp))).2 _ _ (zkb r u (zjt hu)) (zkb s u' (zjt hu')) he
          have := ih s (fun x hx => hl x (by simp [hx])) (fun x hx => hl' x (by simp [hx])) u u' hu hu' hq.2
          exact ⟨by rw [hq.1, this.1], this.2⟩
    have hP : ∀ u u', endB u → endB u' → prT t 2 ++ u = prT t' 2 ++ u' → t = t' ∧ u = u' := by
      intro u u' hu hu' he
      rw [zlk t h, zlk t' h', List.append_assoc, List.append_assoc] at he
      obtain ⟨h1, h2⟩ := zm5 t h
      obtain ⟨h1', h2'⟩ := zm5 t' h'
      have hw := zke _ _ _ _ (zhj _ h1 h2).2 (zhj _ h1' h2').2 (zkb _ u (zjt hu)) (zkb _ u' (zjt hu')) he
      have ha := hA _ _ (fun a ha => by have := zmz t h a ha; exact ⟨this.1, by omega⟩) (fun a ha => (zmz t' h' a ha).1) u u' hu hu' hw.2
      have hh := zze _ _ h1 h2 h1' h2' hw.1
      refine ⟨?_, ha.2⟩
      rw [← znm t, ← znm t', ha.1, hh]
    refine ⟨hP, ?_⟩
    intro v v' hv hv' he
    cases hi : isApp t with
    | false =>
      have hp := zhj t h hi
      rw [zng t 3 h hi] at he
      cases hi' : isApp t' with
      | false =>
        have hp' := zhj t' h' hi'
        rw [zng t' 3 h' hi'] at he
        have hw := zke _ _ _ _ hp.2 hp'.2 hv hv' he
        exact ⟨zze _ _ h hi h' hi' hw.1, hw.2⟩
      | true =>
        rw [zll t' h' hi'] at he
        cases hs : atT t with
        | nil => exact absurd hs hp.1
        | cons c r =>
          have hc := hp.2 c (by rw [hs]; simp)
          rw [hs] at he
          simp only [List.cons_append, List.cons.injEq] at he
          rw [he.1] at hc
          exact absurd hc (by decide)
    | true =>
      rw [zll t h hi] at he
      cases hi' : isApp t' with
      | false =>
        have hp' := zhj t' h' hi'
        rw [zng t' 3 h' hi'] at he
        cases hs : atT t' with
        | nil => exact absurd hs hp'.1
        | cons c r =>
          have hc := hp'.2 c (by rw [hs]; simp)
          rw [hs] at he
          simp only [List.cons_append, List.cons.injEq] at he
          rw [← he.1] at hc
          exact absurd hc (by decide)
      | true =>
        rw [zll t' h' hi'] at he
        simp only [List.cons_append, List.append_assoc, List.cons.injEq, true_and] at he
        have := hP (41 :: v) (41 :: v') (.inr ⟨v, rfl⟩) (.inr ⟨v', rfl⟩) (by simpa using he)
        refine ⟨this.1, ?_⟩
        have := this.2
        simpa using this
theorem print_inj' (t t' : Tp) (h : okA t = true) (h' : okA t' = true) (he : prT t 0 = prT t' 0) : t = t' := by
  rw [zsv t h, zsv t' h'] at he
  exact ((zbcb (nT t) t t' (Nat.le_refl _) h h').1 [] [] (.inl rfl) (.inl rfl) (by simpa using he)).1
end Go.Fu
namespace Go.Fu
open Go Go.Mx
set_option maxRecDepth 10000
def addA (out l : List (List UInt8)) : List (List UInt8) := l.foldl (fun o s => if o.contains s then o else o ++ [s]) out
def freeT : Tp → List (List UInt8)
  | .var s => [s]
  | .app f a => addA (addA [] (freeT f)) (freeT a)
  | _ => []
theorem zd7 : ∀ (l out : List (List UInt8)), (addA out l).length ≤ out.length + l.length
  | [], out => Nat.le_refl _
  | s :: l, out => by
    have := zd7 l (if out.contains s then out else out ++ [s])
    show (addA (if out.contains s then out else out ++ [s]) l).length ≤ _
    split at this
    · rename_i h; rw [if_pos h]; simp only [List.length_cons]; omega
    · rename_i h; rw [if_neg h]; simp only [List.length_append, List.length_cons, List.length_nil] at this ⊢; omega
theorem zcl : ∀ t : Tp, (freeT t).length ≤ nT t
  | .var s => by simp [freeT, nT]
  | .con c => by simp [freeT, nT]
  | .hole x => by simp [freeT, nT]
  | .app f a => by
    have h1 := zcl f
    have h2 := zcl a
    have h3 := zd7 (freeT f) []
    have h4 := zd7 (freeT a) (addA [] (freeT f))
    simp only [freeT, nT, List.length_nil] at *
    omega
theorem zza (out l : List (List UInt8)) (j : Nat) (h : j < l.length) : addA out (l.take (j + 1)) = if (addA out (l.take j)).contains l[j] then addA out (l.take j) else addA out (l.take j) ++ [l[j]] := by
  rw [← za8 l j h]
  unfold addA
  rw [List.foldl_append]
  rfl
section
variable {C : CallF} {n : Nat}
def bA (f a : Tp) : List Cell := [⟨false, .int .i64 4⟩, ⟨false, .int .i64 0⟩, ⟨false, .str []⟩, ⟨false, .list k_3 [dT f, dT a]⟩]
def EF0 (f a : Tp) (r : D) (i : Nat) (L : List (List UInt8)) (j : Nat) : Env := { slots := [(3, ⟨false, r⟩), (15, ⟨false, .list k_3 [dT f, dT a]⟩), (16, ⟨false, .int .i64 2⟩), (17, ⟨false, .int .i64 i⟩), (22, ⟨false, dSs L⟩), (23, ⟨false, .int .i64 L.length⟩), (24, ⟨false, .int .i64 j⟩)], locs := [(1, 1, 0)], boxes := [(1, bA f a)], defers := [] }
theorem zc4b (f a : Tp) (i : Nat) (out L : List (List UInt8)) (σ0 : Store) (hout : out.length + L.length < 1048576) (hc : ∀ j, ∀ h : j < L.length, ∀ σ r, ArrIn σ r (addA out (L.take j)) → C n_10 [r, .str L[j]] σ = some (.ret ⟨false, .bool ((addA out (L.take j)).contains L[j])⟩, σ)) :
    ∀ (j : Nat) (e : Env) (σ : Store), j < L.length → (∃ r, e = EF0 f a r i L j ∧ ArrOf σ0 σ r (addA out (L.take j))) → ∃ e' σ', exec C n a_51 e σ = some (.normal, e', σ') ∧ ∃ r, e' = EF0 f a r i L (j + 1) ∧ ArrOf σ0 σ' r (addA out (L.take (j + 1))) := by
  rintro j e σ hj ⟨r, rfl, hr⟩
  have hx : zav 1 (dSs L) j = some (.eptr (.str L[j])) := idx_S L j hj
  have hi : ((j : Int) < (L.length : Int)) := by omega
  have w1 := zam (i := j) (by omega)
  have hcc := hc j hj σ r hr.isIn
  have hlen := zd7 (L.take j) out
  have htl : (L.take j).length = j := by simp; omega
  rw [zza out L j hj]
  cases hb : (addA out (L.take j)).contains L[j] with
  | true =>
    rw [hb] at hcc
    refine ⟨EF0 f a r i L (j + 1), σ, ?_, r, rfl, by rw [if_pos rfl]; exact hr⟩
    simp only [a_51, EF0, bA, de0, de1, de2, szQ, szB, szL, sy0, sy1, sy2, sy3, sy4, sy5, zad, zaa, zac, zae, adel, zah, zag, zai, zaf, evalV, aget, aset, adel1, nth, AOp.kind, Nat.reduceAdd, Nat.reduceSub, Nat.reduceMul, Nat.reduceBEq, Nat.ble, bindO, Nat.reduceLeDiff, Int.reduceBEq, Int.reduceBNe, Int.reduceLE, Int.reduceLT, Int.reduceGE, Int.reduceGT, Int.reduceNeg, ks, lz, hi, hx, hcc, w1]
  | false =>
    rw [hb] at hcc
    obtain ⟨r', σ', ha, hr'⟩ := apA (ys := [L[j]]) hr (zwc hr.1.wf k_0 (cellsOf [.str L[j]])) (by simp) (by simp only [List.length_cons, List.length_nil]; omega)
    refine ⟨EF0 f a r' i L (j + 1), σ', ?_, r', rfl, by rw [if_neg (by simp)]; exact hr'⟩
    have hls := zd7b σ L[j]
    simp only [List.map_cons, List.map_nil] at ha
    simp only [a_51, EF0, bA, de0, de1, de2, szQ, szB, szL, sy0, sy1, sy2, sy3, sy4, sy5, zad, zaa, zac, zae, adel, zah, zag, zai, zaf, evalV, aget, aset, adel1, nth, AOp.kind, Nat.reduceAdd, Nat.reduceSub, Nat.reduceMul, Nat.reduceBEq, Nat.ble, bindO, Nat.reduceLeDiff, Int.reduceBEq, Int.reduceBNe, Int.reduceLE, Int.reduceLT, Int.reduceGE, Int.reduceGT, Int.reduceNeg, ks, lz, memE, memOp, hi, hx, hcc, hls, ha, w1]
theorem zf1b (f a : Tp) (i : Nat) (L : List (List UInt8)) (r : D) (σ : Store) : exec C n a_51 (EF0 f a r i L L.length) σ = some (.exit 2, { EF0 f a r i L L.length with slots := [(3, ⟨false, r⟩), (15, ⟨false, .list k_3 [dT f, dT a]⟩), (16, ⟨false, .int .i64 2⟩), (17, ⟨false, .int .i64 i⟩), (22, ⟨false, dSs L⟩), (23, ⟨false, .int .i64 L.length⟩), (24, ⟨false, .int .i64 L.length⟩), (25, ⟨false, .bool false⟩)] }, σ) := by
  have hi : ¬ ((L.length : Int) < (L.length : Int)) := by omega
  simp only [a_51, EF0, bA, de0, de1, de2, szQ, szB, szL, sy0, sy1, sy2, sy3, sy4, sy5, zad, zaa, zac, zae, adel, zah, zag, zai, zaf, evalV, aget, aset, adel1, nth, AOp.kind, Nat.reduceAdd, Nat.reduceSub, Nat.reduceMul, Nat.reduceBEq, Nat.ble, bindO, Nat.reduceLeDiff, Int.reduceBEq, Int.reduceBNe, Int.reduceLE, Int.reduceLT, Int.reduceGE, Int.reduceGT, Int.reduceNeg, ks, hi]
end
end Go.Fu
