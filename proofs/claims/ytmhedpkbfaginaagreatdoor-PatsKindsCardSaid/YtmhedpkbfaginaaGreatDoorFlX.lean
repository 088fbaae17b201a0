/-
  The signature is laid: its object, its map.
-/
import Derived.Test.YtmhedpkbfaginaaGreatDoorFlM
import Derived.Test.YtmhedpkbfaginaaGreatDoorFlD
set_option maxHeartbeats 4000000
set_option linter.unusedSimpArgs false
set_option linter.unusedVariables false
set_option linter.unusedSectionVars false
namespace Go.Fu
open Go Go.Mx
set_option maxRecDepth 10000
set_option maxHeartbeats 4000000
theorem agA {α : Type} (k : Nat) (v : α) : ∀ l : List (Nat × α), aget (aset l k v) k = some v
  | [] => by simp [aset, aget, ifB]
  | (a, x) :: r => by
    rw [aset]
    cases h : a == k with
    | true => simp [aget, ifB, h]
    | false =>
      cases h2 : Nat.ble k a with
      | true => simp [aget, ifB]
      | false => simp only [ifB_false, aget, h, agA k v r]
theorem agB {α : Type} (k j : Nat) (v : α) (hj : (k == j) = false) : ∀ l : List (Nat × α), aget (aset l k v) j = aget l j
  | [] => by simp [aset, aget, ifB, hj]
  | (a, x) :: r => by
    rw [aset]
    cases h : a == k with
    | true =>
      have : a = k := by simpa using h
      subst this
      simp [aget, ifB, hj]
    | false =>
      cases h2 : Nat.ble k a with
      | true => simp [aget, ifB, hj]
      | false => simp only [ifB_false, aget, agB k j v hj r]
theorem aset_aset {α : Type} (k : Nat) (v w : α) : ∀ l : List (Nat × α), aset (aset l k v) k w = aset l k w
  | [] => by simp [aset, ifB]
  | (i, x) :: l => by
    simp only [aset]
    cases h : i == k with
    | true => simp [aset, ifB, h]
    | false =>
      cases h2 : Nat.ble k i with
      | true => simp [aset, ifB]
      | false => simp [aset, ifB, h, h2, aset_aset k v w l]
def SM (σ : Store) (id : Nat) (x : Oth) : Store := { σ with oth := aset σ.oth id x }
def GM (σ : Store) (x : Oth) : Store := { σ with oth := (σ.next, x) :: σ.oth, next := σ.next + 1 }
theorem mUpd {ks : Bool} {x i y : AOpd} {e : Env} {σ : Store} : memOp (.update ks x i y) e σ = bindO (opd e x) fun c => bindO (opd e i) fun k => bindO (opd e y) fun v => bindO (mapAt σ.oth c.d) fun m => ifB (keyD ks k.d && v.d.ok) (bindO (findM k.d m.2.1) fun r =>
      some (.undef, SM σ m.1 (caseO r (.map (m.2.1 ++ [(k.d, v.d, m.2.2)]) (m.2.2 + 1)) fun p => .map (m.2.1.set p.2.2 (k.d, v.d, p.2.1)) m.2.2))) none := rfl
theorem mMake {e : Env} {σ : Store} : memOp .makeMap e σ = some (.map σ.next, GM σ (.map [] 0)) := rfl
theorem SM_self {σ : Store} {id : Nat} {x : Oth} : aget (SM σ id x).oth id = some x := agA _ _ _
theorem SM_SM {σ : Store} {id : Nat} {x y : Oth} : SM (SM σ id x) id y = SM σ id y := by
  simp only [SM, aset_aset]
structure PN (σ : Store) (p m : Nat) (L : List Da) (es : List (Tx × Nat × Nat)) : Prop where
  obj : aget σ.objs p = some [⟨false, dDl L⟩, ⟨false, .map m⟩]
  map : aget σ.oth m = some (.map (esOf es 0) es.length)
  lt : p < σ.next
def SF (σ : Store) (m : Nat) (es : List (Tx × Nat × Nat)) : Store := SM σ m (.map (esOf es 0) es.length)
theorem SF_objs {σ : Store} {m : Nat} {es : List (Tx × Nat × Nat)} : (SF σ m es).objs = σ.objs := rfl
theorem SF_self {σ : Store} {m : Nat} {es : List (Tx × Nat × Nat)} : aget (SF σ m es).oth m = some (.map (esOf es 0) es.length) := SM_self
theorem SF_snoc {σ : Store} {m : Nat} {es : List (Tx × Nat × Nat)} {x : Tx × Nat × Nat} : SM (SF σ m es) m (.map (esOf es 0 ++ [entM x es.length]) (es.length + 1)) = SF σ m (es ++ [x]) := by
  rw [SF, SM_SM, SF, esOf_snoc, List.length_append, Nat.zero_add]
  rfl
theorem conAt_snoc (i : Nat) : ∀ (l : List Cn) (c : Cn) (k : Nat), conAt i (l ++ [c]) k = conAt i l k ++ [(c.name, i, k + l.length)]
  | [], c, k => rfl
  | x :: r, c, k => by
    simp only [List.cons_append, conAt, conAt_snoc i r c (k + 1), List.length_cons]
    rw [show k + 1 + r.length = k + (r.length + 1) by omega]
theorem conAt_app (i : Nat) : ∀ (a b : List Cn) (k : Nat), conAt i (a ++ b) k = conAt i a k ++ conAt i b (k + a.length)
  | [], b, k => rfl
  | x :: r, b, k => by
    simp only [List.cons_append, conAt, conAt_app i r b (k + 1), List.length_cons]
    rw [show k + 1 + r.length = k + (r.length + 1) by omega]
theorem conAts_app : ∀ (a b : List Da) (i : Nat), conAts (a ++ b) i = conAts a i ++ conAts b (i + a.length)
  | [], b, i => by simp [conAts]
  | x :: r, b, i => by
    simp only [List.cons_append, conAts, conAts_app r b (i + 1), List.length_cons, List.append_assoc]
    rw [show i + 1 + r.length = i + (r.length + 1) by omega]
theorem conAts_snoc (l : List Da) (d : Da) (i : Nat) : conAts (l ++ [d]) i = conAts l i ++ conAt (i + l.length) d.cons 0 := by
  rw [conAts_app]
  simp [conAts]
theorem once_ne {a b : List (Tx × Nat × Nat)} {x : Tx × Nat × Nat} (h : ((a ++ x :: b).map fun x => x.1).Nodup) : ∀ y ∈ a, y.1 ≠ x.1 := by
  intro y hy e
  rw [List.map_append, List.nodup_append] at h
  exact h.2.2 y.1 (List.mem_map_of_mem hy) x.1 (by simp) e
section
variable {C : CallF} {n : Nat} {σ : Store}
def En0 (L : List Da) (p i : Nat) (d : Da) (k : Nat) : Env := { slots := [(3, ⟨false, .ptr p 0⟩), (4, ⟨false, .int .i64 i⟩), (14, ⟨false, .ptr p 0⟩), (19, ⟨false, .int .i64 L.length⟩), (20, ⟨false, .int .i64 i⟩), (30, ⟨false, dCl d.cons⟩), (31, ⟨false, .int .i64 d.cons.length⟩), (32, ⟨false, .int .i64 k⟩)], locs := [], boxes := [], defers := [] }
theorem n0_step (L : List Da) (p m i : Nat) (d : Da) (es : List (Tx × Nat × Nat)) (ho : aget σ.objs p = some [⟨false, dDl L⟩, ⟨false, .map m⟩]) (k : Nat) (hk : k < d.cons.length) (hl : d.cons.length ≤ 1000) (hn : ∀ x ∈ es, x.1 ≠ (d.cons[k]).name) : exec C n none a_42 (En0 L p i d k) (SF σ m es) = some (.normal, En0 L p i d (k + 1), SF σ m (es ++ [((d.cons[k]).name, i, k)])) := by
  have hx := idx_C d.cons k hk
  have hlt : ((k : Int) < d.cons.length) := by omega
  have w := wrap64_succ (i := k) (by omega)
  rw [← SF_objs (m := m) (es := es)] at ho
  have hm := SF_self (σ := σ) (m := m) (es := es)
  have hf := findM_none _ es 0 hn
  rw [← SF_snoc]
  generalize d.cons[k] = c at *
  generalize SF σ m es = τ at *
  have dx : dCn c = .agg [.str c.name, .int .i64 c.pos, dTl c.fs] := rfl
  rw [dx] at hx
  have hma : mapAt τ.oth (.map m) = some (m, esOf es 0, es.length) := by simp only [mapAt, hm, bindO, caseO_some]
  have hkd : keyD true (.str c.name) = true := rfl
  simp only [a_42, En0, sA, Nat.reduceAdd, Nat.reduceSub, Nat.reduceMul, Nat.reduceBEq, Nat.reduceLeDiff, Int.reduceBEq, Int.reduceBNe, Int.reduceLE, Int.reduceLT, Int.reduceGE, Int.reduceGT, Int.reduceNeg, kn, onel, hx, hlt, w, memE, mUpd, ho, hma, hf, hkd, entM]
theorem n0_end (L : List Da) (p i : Nat) (d : Da) : exec C n none a_42 (En0 L p i d d.cons.length) σ = some (.exit 2, { slots := [(3, ⟨false, .ptr p 0⟩), (4, ⟨false, .int .i64 i⟩), (14, ⟨false, .ptr p 0⟩), (19, ⟨false, .int .i64 L.length⟩), (20, ⟨false, .int .i64 i⟩), (30, ⟨false, dCl d.cons⟩), (31, ⟨false, .int .i64 d.cons.length⟩), (32, ⟨false, .int .i64 d.cons.length⟩), (33, ⟨false, .bool false⟩)], locs := [], boxes := [], defers := [] }, σ) := by
  have hlt : ¬ ((d.cons.length : Int) < d.cons.length) := by omega
  simp only [a_42, En0, sA, Nat.reduceAdd, Nat.reduceSub, Nat.reduceMul, Nat.reduceBEq, Nat.reduceLeDiff, Int.reduceBEq, Int.reduceBNe, Int.reduceLE, Int.reduceLT, Int.reduceGE, Int.reduceGT, Int.reduceNeg, kn, onel, hlt]
def En1 (L : List Da) (p i : Nat) : Env := { slots := [(3, ⟨false, .ptr p 0⟩), (14, ⟨false, .ptr p 0⟩), (19, ⟨false, .int .i64 L.length⟩), (20, ⟨false, .int .i64 i⟩)], locs := [], boxes := [], defers := [] }
theorem n1_step (L : List Da) (p m i : Nat) (ho : aget σ.objs p = some [⟨false, dDl L⟩, ⟨false, .map m⟩]) (hi : i < L.length) (hL : L.length ≤ 1000) (hl : L[i].cons.length ≤ 1000) (hn : 2000 ≤ n) (h1 : ((conAts L 0).map fun x => x.1).Nodup) : exec C n none a_43 (En1 L p i) (SF σ m (conAts (L.take i) 0)) = some (.normal, En1 L p (i + 1), SF σ m (conAts (L.take (i + 1)) 0)) := by
  have hx := idx_D L i hi
  have hlt : ((i : Int) < L.length) := by omega
  have w := wrap64_succ (i := i) (by omega)
  have hs : conAts (L.take (i + 1)) 0 = conAts (L.take i) 0 ++ conAt i L[i].cons 0 := by
    rw [← take_snoc L i hi, conAts_snoc, List.length_take, Nat.min_eq_left (by omega), Nat.zero_add]
  have h2 : ((conAts (L.take (i + 1)) 0).map fun x => x.1).Nodup := by
    have e : conAts L 0 = conAts (L.take (i + 1)) 0 ++ conAts (L.drop (i + 1)) (0 + (L.take (i + 1)).length) := by rw [← conAts_app, List.take_append_drop]
    rw [e, List.map_append] at h1
    exact (List.nodup_append.1 h1).1
  rw [hs] at h2
  generalize conAts (L.take i) 0 = es at *
  rw [hs]
  generalize L[i] = d at *
  have hr := loopN_run (body := exec C n none a_42) (En0 L p i d) (fun k => SF σ m (es ++ conAt i (d.cons.take k) 0)) d.cons.length (r := _) (fun _ _ h => by cases h) (fun k hk => by
    have es2 : conAt i (d.cons.take (k + 1)) 0 = conAt i (d.cons.take k) 0 ++ [(d.cons[k].name, i, k)] := by
      rw [← take_snoc d.cons k hk, conAt_snoc, List.length_take, Nat.min_eq_left (by omega), Nat.zero_add]
    show _ = some (AExit.normal, _, SF σ m (es ++ conAt i (d.cons.take (k + 1)) 0))
    rw [es2, ← List.append_assoc]
    refine n0_step L p m i d _ ho k hk hl ?_
    have e : conAt i d.cons 0 = (conAt i (d.cons.take k) 0 ++ [(d.cons[k].name, i, k)]) ++ conAt i (d.cons.drop (k + 1)) (0 + (d.cons.take (k + 1)).length) := by rw [← es2, ← conAt_app, List.take_append_drop]
    rw [e, List.append_assoc, ← List.append_assoc, List.singleton_append] at h2
    exact once_ne h2) (n0_end L p i d) 0 n (by omega) (by omega)
  have dd0 : Mx.nth (cDa d) 4 = some (dCl d.cons) := rfl
  have dx : dDa d = .agg (cDa d) := rfl
  have hlen := len_C d.cons
  have l5 : ((cDa d).length == 5) = true := rfl
  rw [dx] at hx
  simp only [List.take_zero, conAt, List.append_nil, List.take_length] at hr
  rw [← SF_objs (m := m) (es := es)] at ho
  generalize SF σ m es = τ at *
  generalize SF σ m (es ++ conAt i d.cons 0) = τ' at *
  simp only [En0, zeroI] at hr
  simp only [a_43, En1, sA, Nat.reduceAdd, Nat.reduceSub, Nat.reduceMul, Nat.reduceBEq, Nat.reduceLeDiff, Int.reduceBEq, Int.reduceBNe, Int.reduceLE, Int.reduceLT, Int.reduceGE, Int.reduceGT, Int.reduceNeg, kn, onel, hx, hlt, natI, hlen, ho, dd0, l5, hr, w]
theorem n1_end (L : List Da) (p : Nat) : exec C n none a_43 (En1 L p L.length) σ = some (.exit 0, { slots := [(3, ⟨false, .ptr p 0⟩), (14, ⟨false, .ptr p 0⟩), (19, ⟨false, .int .i64 L.length⟩), (20, ⟨false, .int .i64 L.length⟩), (21, ⟨false, .bool false⟩)], locs := [], boxes := [], defers := [] }, σ) := by
  have hlt : ¬ ((L.length : Int) < L.length) := by omega
  simp only [a_43, En1, sA, Nat.reduceAdd, Nat.reduceSub, Nat.reduceMul, Nat.reduceBEq, Nat.reduceLeDiff, Int.reduceBEq, Int.reduceBNe, Int.reduceLE, Int.reduceLT, Int.reduceGE, Int.reduceGT, Int.reduceNeg, kn, onel, hlt]
end
end Go.Fu
namespace Go.Fu
open Go Go.Mx
set_option maxRecDepth 10000
set_option maxHeartbeats 4000000
def sp_prelude : List D → Cell → Prop := fun _ c => c = ⟨false, dDl pre3⟩
def sp_cat : List D → Cell → Prop := fun ds c => ∀ a b : List Da, ds = [dd a b] → c = ⟨false, dDl (a ++ b)⟩
theorem dd_inj {a b a' b' : List Da} (h : dd a b = dd a' b') : a = a' ∧ b = b' := by
  simp only [dd, D.list.injEq, List.cons.injEq, true_and, and_true] at h
  exact ⟨dDl_inj h.1, dDl_inj h.2⟩
theorem call_prelude {S : Specs} (hS : aget S n_11 = some sp_prelude) (n : Nat) (σ : Store) : T S (n + 1) n_11 [] σ = some (.ret ⟨false, dDl pre3⟩, σ) := by
  obtain ⟨c, g1, g2⟩ := T_orc (S := S) hS rfl (s := sp_prelude) rfl prelude_pure
  rw [g2, g1]
theorem call_cat {S : Specs} (hS : aget S n_10 = some sp_cat) (a b : List Da) (h0 : a ≠ []) (hl : a.length + b.length < 1000000) (n : Nat) (σ : Store) : T S (n + 1) n_10 [dd a b] σ = some (.ret ⟨false, dDl (a ++ b)⟩, σ) := by
  obtain ⟨c, g1, g2⟩ := T_orc (S := S) hS rfl (s := sp_cat) (c := ⟨false, dDl (a ++ b)⟩) (fun a' b' e => by
    obtain ⟨rfl, rfl⟩ := dd_inj (List.cons.inj e).1
    rfl) (call_concat 0 (S := []) rfl a b h0 hl)
  rw [g2, g1 a b rfl]
theorem pureC_prelude {S : Specs} (hS : aget S n_11 = some sp_prelude) (n : Nat) : pureC (T S (n + 1)) n_11 [] = some (.c ⟨false, dDl pre3⟩) := by
  have := call_prelude hS n { objs := [], tys := [], oth := [], next := 0 }
  have h2 := noPtr_dDl pre3
  simp only [pureC, noPtrL, ifB_true, this, bindO, caseO_some, h2]
theorem pureC_cat {S : Specs} (hS : aget S n_10 = some sp_cat) (a b : List Da) (h0 : a ≠ []) (hl : a.length + b.length < 1000000) (n : Nat) : pureC (T S (n + 1)) n_10 [dd a b] = some (.c ⟨false, dDl (a ++ b)⟩) := by
  have := call_cat hS a b h0 hl n { objs := [], tys := [], oth := [], next := 0 }
  have h2 := noPtr_dDl (a ++ b)
  have hn2 : noPtrL [dd a b] = true := by simp [noPtrL, noPtr, dd, noPtr_dDl]
  simp only [pureC, hn2, ifB_true, this, bindO, caseO_some, h2]
def GO (τ : Store) (cs : List Cell) : Store := { τ with objs := (τ.next, cs.map fun c => Cell.of c.d) :: τ.objs, tys := adel1 τ.tys τ.next, next := τ.next + 1 }
theorem prom {τ : Store} {cs : List Cell} : freezes [.promote 14] { slots := [], locs := [(3, 14, 0), (14, 14, 0)], boxes := [(14, cs)], defers := [] } τ = some ({ slots := [(3, ⟨false, .ptr τ.next 0⟩), (14, ⟨false, .ptr τ.next 0⟩)], locs := [], boxes := [], defers := [] }, GO τ cs) := rfl
end Go.Fu
namespace Go.Fu
open Go Go.Mx
set_option maxRecDepth 10000
set_option maxHeartbeats 4000000
theorem con_run {S : Specs} (hS0 : has S n_61 = false) {σ : Store} {p m : Nat} {L : List Da} (h : PN σ p m L (conAts L 0)) (hL : L.length ≤ 1000) (s : Tx) (n : Nat) : T S (n + 1) n_61 [.ptr p 0, .str s] σ = some (.ret ⟨false, conR (conM s L)⟩, σ) := by
  rw [T_fun (af := a_70) hS0 rfl rfl]
  have ho := h.obj
  have hma : mapOf σ.oth (.map m) = some (esOf (conAts L 0) 0) := by simp only [mapOf, h.map, bindO, caseO_some]
  have hkd : keyD true (.str s) = true := rfl
  have hf := conAts_find s L 0
  cases hc : conM s L with
  | none =>
    rw [hc] at hf
    have h1 := findM_none s _ 0 hf
    have ez : dDa zDa = .agg [.str [], .int .i64 0, .nils, .nils, .nils] := rfl
    simp only [conR, ez]
    generalize esOf (conAts L 0) 0 = es at *
    simp only [a_70, sA, Nat.reduceAdd, Nat.reduceSub, Nat.reduceMul, Nat.reduceBEq, Nat.reduceLeDiff, Int.reduceBEq, Int.reduceBNe, Int.reduceLE, Int.reduceLT, Int.reduceGE, Int.reduceGT, Int.reduceNeg, kn, onel, ho, hma, hkd, h1]
  | some q =>
    rw [hc] at hf
    obtain ⟨i, e1, e2⟩ := hf
    obtain ⟨b, j, h1⟩ := findM_some s _ 0 _ e2
    obtain ⟨hi, e3⟩ := List.getElem?_eq_some_iff.1 e1
    have hx := idx_D L i hi
    rw [e3] at hx
    simp only [Nat.zero_add] at h1
    obtain ⟨d, k⟩ := q
    simp only [conR] at hx h1 ⊢
    generalize esOf (conAts L 0) 0 = es at *
    simp only [a_70, sA, Nat.reduceAdd, Nat.reduceSub, Nat.reduceMul, Nat.reduceBEq, Nat.reduceLeDiff, Int.reduceBEq, Int.reduceBNe, Int.reduceLE, Int.reduceLT, Int.reduceGE, Int.reduceGT, Int.reduceNeg, kn, onel, ho, hma, hkd, h1, hx, natI, dDa_eq]
def GA (σ : Store) (t : Nat) (cs : List Cell) : Store := { objs := (σ.next, cs) :: σ.objs, tys := (σ.next, ⟨t, 0⟩) :: σ.tys, oth := σ.oth, next := σ.next + 1 }
theorem mGbox {σ : Store} {t : Nat} {y : AOpd} {e : Env} : memOp (.gbox t y) e σ = bindO (opd e y) fun c => ifB c.d.ok (some (.ptr σ.next 0, GA σ t (c.d.cells.map Cell.of))) none := rfl
theorem agC {α : Type} (k j : Nat) (v : α) (l : List (Nat × α)) (hj : k ≠ j) : aget ((k, v) :: l) j = aget l j := by
  have : (k == j) = false := by simpa using hj
  simp [aget, ifB, this]
section
variable {C : CallF} {n : Nat} {σ : Store}
end
end Go.Fu
namespace Go.Fu
open Go Go.Mx
set_option maxRecDepth 10000
set_option maxHeartbeats 4000000
def SO (σ : Store) (id : Nat) (cs : List Cell) : Store := { σ with objs := aset σ.objs id cs }
def asgF : ACode := .region [⟨(some 10), .mov (.tmp 35), none⟩] none [3, 5, 6, 7, 14, 15, 16, 21, 22, 23, 33, 34, 35]
def slF (a : Nat) (x3 x6 x14 x15 x16 x21 x22 x23 x33 : D) : List (Nat × Cell) := [(3, ⟨false, x3⟩), (6, ⟨false, x6⟩), (8, ⟨false, .ptr a 0⟩), (14, ⟨false, x14⟩), (15, ⟨false, x15⟩), (16, ⟨false, x16⟩), (21, ⟨false, x21⟩), (22, ⟨false, x22⟩), (23, ⟨false, x23⟩), (33, ⟨false, x33⟩)]
def IsF (a : Nat) (sl : List (Nat × Cell)) : Prop := ∀ (C : CallF) (n : Nat) (ro : Option Nat) (i : Int) (s : Tx) (σ : Store), exec C n ro asgF { slots := putArgs [34, 35] [.int .i64 i, .str s] sl, locs := [], boxes := [], defers := [] } σ = some (.normal, { slots := [(8, ⟨false, .ptr a 0⟩), (10, ⟨false, .str s⟩)], locs := [], boxes := [], defers := [] }, σ)
theorem isF (a : Nat) (x3 x6 x14 x15 x16 x21 x22 x23 x33 : D) : IsF a (slF a x3 x6 x14 x15 x16 x21 x22 x23 x33) := by
  intro C n ro i s σ
  simp only [asgF, slF, putArgs, sA, Nat.reduceAdd, Nat.reduceSub, Nat.reduceMul, Nat.reduceBEq, Nat.reduceLeDiff, Int.reduceBEq, Int.reduceBNe, Int.reduceLE, Int.reduceLT, Int.reduceGE, Int.reduceGT, Int.reduceNeg, kn]
def RF (sl : List (Nat × Cell)) (s : LSt) : LRec := { slots := sl, params := [34, 35], assign := asgF, body := a_41, st := s }
structure YS (τ τ' : Store) (a c : Nat) (t : Ty) (sl : List (Nat × Cell)) (s : LSt) : Prop where
  oa : aget τ'.objs a = some (bT t)
  rl : aget τ'.oth c = some (.loop (RF sl s))
  fo : ∀ j, j ≠ a → aget τ'.objs j = aget τ.objs j
  ft : ∀ j, j ≠ c → aget τ'.oth j = aget τ.oth j
  nx : τ'.next = τ.next
theorem YS.set {τ σ : Store} {a c : Nat} {t : Ty} {sl : List (Nat × Cell)} {s : LSt} (h : YS τ σ a c t sl s) (u : LSt) : YS τ (setLoop σ c (RF sl s) u) a c t sl u := by
  refine ⟨h.oa, agA _ _ _, h.fo, fun j hj => ?_, h.nx⟩
  exact (agB _ _ _ (beq_false_of_ne fun e => hj e.symm) _).trans (h.ft j hj)
theorem YS.so {τ σ : Store} {a c : Nat} {t u : Ty} {sl : List (Nat × Cell)} {s : LSt} (h : YS τ σ a c t sl s) : YS τ (SO σ a (bT u)) a c u sl s := by
  refine ⟨agA _ _ _, h.rl, fun j hj => ?_, h.ft, h.nx⟩
  exact (agB _ _ _ (beq_false_of_ne fun e => hj e.symm) _).trans (h.fo j hj)
theorem T_yld {S : Specs} {n c : Nat} {ds : List D} {σ : Store} : T S (n + 1) (yldBase + c) ds σ = runY (T S n) n c ds σ := by
  have hY : isY (yldBase + c) = true := Nat.ble_eq_true_of_le (by omega)
  have h0 : Γa (yldBase + c) = none := by
    cases h : Γa (yldBase + c) with
    | none => rfl
    | some af =>
      have := (Γa_holds _ _ h).1
      rw [hY] at this
      cases this
  have h : (fun f => ifB (has S f) none (Γa f)) (yldBase + c) = none := by
    simp only [h0]
    cases has S (yldBase + c) <;> rfl
  have e := runQ_yld (Γ := fun f => ifB (has S f) none (Γa f)) (R := Ra) (X := fun f ds σ => ifB (has S f) (orc Go.Proofs.Tryz.prog κ (PostOf S) f ds σ) (Xa f ds σ)) (n := n) (ds := ds) (σ := σ) h hY
  rw [Nat.add_sub_cancel_left] at e
  exact e
theorem yield_run {S : Specs} (hS : aget S n_25 = some sp_All) {τ σ : Store} {a c : Nat} {t : Ty} {sl : List (Nat × Cell)} (hsl : IsF a sl) (h : YS τ σ a c t sl .ready) (ht : Fine t) (i : Int) (s : Tx) (N : Nat) : ∃ σ', T S (N + 2) (yldBase + c) [.int .i64 i, .str s] σ = some (.ret ⟨false, .bool true⟩, σ') ∧ YS τ σ' a c (tAll s t) sl .ready := by
  have hb := h.set .busy
  obtain ⟨σb, hσb⟩ : ∃ σb, σb = setLoop σ c (RF sl .ready) .busy := ⟨_, rfl⟩
  rw [← hσb] at hb
  have hc := hb.so (u := tAll s t)
  have hf := hc.set .ready
  have hbody : exec (T S (N + 1)) (N + 1) (some c) a_41 { slots := [(8, ⟨false, .ptr a 0⟩), (10, ⟨false, .str s⟩)], locs := [], boxes := [], defers := [] } σb = some (.normal, { slots := [], locs := [], boxes := [], defers := [] }, SO σb a (bT (tAll s t))) := by
    have o1 := hb.oa
    have h1 := call_All hS s t ht N σb
    generalize tAll s t = u at *
    simp only [bT] at o1 ⊢
    simp only [dTy_eq, cTy_eq] at h1
    simp only [a_41, sA, Nat.reduceAdd, Nat.reduceSub, Nat.reduceMul, Nat.reduceBEq, Nat.reduceLeDiff, Int.reduceBEq, Int.reduceBNe, Int.reduceLE, Int.reduceLT, Int.reduceGE, Int.reduceGT, Int.reduceNeg, kn, onel, o1, h1]
    rfl
  refine ⟨_, ?_, hf⟩
  rw [T_yld]
  have l1 : loopAt σ c = some (RF sl .ready) := by simp only [loopAt, h.rl, bindO, caseO_some]
  have l2 : loopAt (SO σb a (bT (tAll s t))) c = some (RF sl .busy) := by simp only [loopAt, hc.rl, bindO, caseO_some]
  unfold runY
  simp only [l1, bindO, caseO_some]
  show ifB true (roundA (T S (N + 1)) (N + 1) c a_41 (exec (T S (N + 1)) (N + 1) (some c) asgF { slots := putArgs [34, 35] [.int .i64 i, .str s] sl, locs := [], boxes := [], defers := [] } σ)) none = _
  rw [hsl, ifB_true]
  unfold roundA
  simp only [l1, bindO, caseO_some]
  show ifB true (roundB (T S (N + 1)) (N + 1) c (exec (T S (N + 1)) (N + 1) (some c) a_41 { slots := [(8, ⟨false, .ptr a 0⟩), (10, ⟨false, .str s⟩)], locs := [], boxes := [], defers := [] } (setLoop σ c (RF sl .ready) .busy))) none = _
  rw [← hσb, hbody, ifB_true]
  unfold roundB
  simp only [l2, bindO, caseO_some]
end Go.Fu
namespace Go.Fu
open Go Go.Mx
set_option maxRecDepth 10000
set_option maxHeartbeats 4000000
theorem loopN_inv {body : Env → Store → XRes} (P : Nat → Env → Store → Prop) (Q : AExit × Env × Store → Prop) (k : Nat) (hstep : ∀ i e σ, i < k → P i e σ → ∃ e' σ', body e σ = some (.normal, e', σ') ∧ P (i + 1) e' σ')
    (hend : ∀ e σ, P k e σ → ∃ r, body e σ = some r ∧ (∀ e σ, r ≠ (.normal, e, σ)) ∧ Q r) : ∀ (j n : Nat) (e : Env) (σ : Store), j ≤ k → k < n + j → P j e σ → ∃ r, loopN body n e σ = some r ∧ Q r
  | j, 0, e, σ, h1, h2, _ => by omega
  | j, n + 1, e, σ, h1, h2, hp => by
    rw [loopN]
    by_cases hj : j = k
    · subst hj
      obtain ⟨r, hr, hn, hq⟩ := hend e σ hp
      rw [hr]
      obtain ⟨x, e', σ'⟩ := r
      cases x with
      | normal => exact absurd rfl (hn e' σ')
      | _ => exact ⟨_, rfl, hq⟩
    · obtain ⟨e', σ', hb, hp'⟩ := hstep j e σ (by omega) hp
      rw [hb]
      exact loopN_inv P Q k hstep hend (j + 1) n e' σ' (by omega) (by omega) hp'
section
variable {n : Nat}
def Ebk (b c : Nat) (l : List Tx) (m : Nat) : Env := { slots := [(0, ⟨false, .yld c⟩), (1, ⟨false, .ptr b 0⟩), (3, ⟨false, .int .i64 ((l.length : Int) - 1 - (m : Nat))⟩)], locs := [], boxes := [], defers := [] }
theorem bk_step {C : CallF} (b c : Nat) (l : List Tx) (m : Nat) (h : m < l.length) (hl : l.length ≤ 1000) (σ σ' : Store) (hb : aget σ.objs b = some [⟨false, dSs l⟩]) (h1 : C (yldBase + c) [.int .i64 ((l.length - 1 - m : Nat) : Int), .str (l[l.length - 1 - m]'(by omega))] σ = some (.ret ⟨false, .bool true⟩, σ')) : exec C n none a_50 (Ebk b c l m) σ = some (.normal, Ebk b c l (m + 1), σ') := by
  have hy := idx_S l (l.length - 1 - m) (by omega)
  have hz : (l.length : Int) - 1 - (m : Nat) = ((l.length - 1 - m : Nat) : Int) := by omega
  have hp : (0 : Int) ≤ ((l.length - 1 - m : Nat) : Int) := by omega
  have w : IntKind.i64.wrap (((l.length - 1 - m : Nat) : Int) - 1) = (l.length : Int) - 1 - ((m + 1 : Nat) : Int) := by rw [wrap64 (by omega) (by omega)]; omega
  have hfn : D.fn? (.yld c) = some (yldBase + c, [], []) := rfl
  unfold Ebk
  rw [hz]
  generalize l[l.length - 1 - m]'(by omega) = x at *
  simp only [a_50, sA, Nat.reduceAdd, Nat.reduceSub, Nat.reduceMul, Nat.reduceBEq, Nat.reduceLeDiff, Int.reduceBEq, Int.reduceBNe, Int.reduceLE, Int.reduceLT, Int.reduceGE, Int.reduceGT, Int.reduceNeg, kn, onel, hp, natI, hy, hb, hfn, h1, w]
theorem bk_end {C : CallF} (b c : Nat) (l : List Tx) (σ : Store) : exec C n none a_50 (Ebk b c l l.length) σ = some (.exit 0, { slots := [(0, ⟨false, .yld c⟩), (1, ⟨false, .ptr b 0⟩), (3, ⟨false, .int .i64 (-1)⟩), (8, ⟨false, .bool false⟩)], locs := [], boxes := [], defers := [] }, σ) := by
  have hz : (l.length : Int) - 1 - (l.length : Nat) = -1 := by omega
  unfold Ebk
  rw [hz]
  simp only [a_50, sA, Nat.reduceAdd, Nat.reduceSub, Nat.reduceMul, Nat.reduceBEq, Nat.reduceLeDiff, Int.reduceBEq, Int.reduceBNe, Int.reduceLE, Int.reduceLT, Int.reduceGE, Int.reduceGT, Int.reduceNeg, kn, onel]
end
theorem fine_allD (t : Ty) (ht : Fine t) (l : List Tx) (m : Nat) : Fine (allM (l.drop (l.length - m)) t) := fine_allM t ht _
theorem backward_run {S : Specs} (hS0 : has S n_64 = false) (hS : aget S n_25 = some sp_All) {τ σ : Store} {a b c : Nat} {t : Ty} {sl : List (Nat × Cell)} (hsl : IsF a sl) (l : List Tx) (hab : b ≠ a) (hb : aget τ.objs b = some [⟨false, dSs l⟩]) (h : YS τ σ a c t sl .ready) (ht : Fine t) (hl : l.length ≤ 1000) (N : Nat) (hN : 1001 ≤ N) : ∃ σ', T S (N + 3) n_64 [.yld c, .ptr b 0] σ = some (.ret ⟨false, .tup []⟩, σ') ∧ YS τ σ' a c (allM l t) sl .ready := by
  have d0 : l.drop (l.length - 0) = [] := by simp
  have d1 : l.drop (l.length - l.length) = l := by simp
  obtain ⟨r, hr, σ', rfl, hw⟩ := loopN_inv (body := exec (T S (N + 2)) (N + 2) none a_50)
    (fun m e σ => e = Ebk b c l m ∧ YS τ σ a c (allM (l.drop (l.length - m)) t) sl .ready)
    (fun r => ∃ σ', r = (.exit 0, { slots := [(0, ⟨false, .yld c⟩), (1, ⟨false, .ptr b 0⟩), (3, ⟨false, .int .i64 (-1)⟩), (8, ⟨false, .bool false⟩)], locs := [], boxes := [], defers := [] }, σ') ∧ YS τ σ' a c (allM (l.drop (l.length - l.length)) t) sl .ready) l.length
    (fun m e σ hi ⟨he, hw⟩ => by
      subst he
      have e : l.drop (l.length - (m + 1)) = l[l.length - 1 - m]'(by omega) :: l.drop (l.length - m) := by
        rw [show l.length - (m + 1) = l.length - 1 - m by omega, List.drop_eq_getElem_cons (by omega), show l.length - 1 - m + 1 = l.length - m by omega]
      obtain ⟨σ', h1, h2⟩ := yield_run hS hsl hw (fine_allD t ht l m) ((l.length - 1 - m : Nat) : Int) (l[l.length - 1 - m]'(by omega)) N
      refine ⟨_, _, bk_step b c l m hi hl σ σ' ((hw.fo b hab).trans hb) h1, rfl, ?_⟩
      rw [e]
      exact h2)
    (fun e σ ⟨he, hw⟩ => by
      subst he
      exact ⟨_, bk_end b c l σ, fun _ _ h => (by cases h), σ, rfl, hw⟩) 0 (N + 2) (Ebk b c l 0) σ (by omega) (by omega) ⟨rfl, by rw [d0]; exact h⟩
  rw [d1] at hw
  refine ⟨σ', ?_, hw⟩
  rw [T_fun (af := a_112) hS0 rfl rfl]
  have ob := (h.fo b hab).trans hb
  have hlen := len_S l
  have w : IntKind.i64.wrap ((l.length : Int) - 1) = (l.length : Int) - 1 := wrap64 (by omega) (by omega)
  have n0 : ((0 : Nat) : Int) = 0 := rfl
  simp only [Ebk, n0, Int.sub_zero] at hr
  simp only [a_112, sA, Nat.reduceAdd, Nat.reduceSub, Nat.reduceMul, Nat.reduceBEq, Nat.reduceLeDiff, Int.reduceBEq, Int.reduceBNe, Int.reduceLE, Int.reduceLT, Int.reduceGE, Int.reduceGT, Int.reduceNeg, kn, onel, ob, hlen, w, hr]
structure DS (σ : Store) (ids : List Nat) : Prop where
  all : ∀ x ∈ ids, aget σ.oth x = some .dfr ∧ x < σ.next
  once : ids.Nodup
def dfs (ids : List Nat) : List (FuncId × List D) := ids.map fun x => (yldBase + x, [])
end Go.Fu
namespace Go.Fu
open Go Go.Mx
set_option maxRecDepth 10000
set_option maxHeartbeats 4000000
structure FgS (S : Specs) : Prop where
  ty : aget S n_24 = some sp_typeOf
  al : aget S n_25 = some sp_All
  b0 : has S n_137 = false
  b1 : has S n_64 = false
  f0 : has S n_154 = false
theorem enterLoop_none {r : LRec} {e : Env} {σ : Store} : enterLoop none r e σ = some (σ.next + 1, { e with defers := (yldBase + σ.next, []) :: e.defers }, { σ with oth := (σ.next + 1, .loop r) :: (σ.next, .dfr) :: σ.oth, next := σ.next + 2 }) := rfl
theorem fold_SO {σ : Store} {id : Nat} {cs : List Cell} : ({ objs := aset σ.objs id cs, tys := σ.tys, oth := σ.oth, next := σ.next } : Store) = SO σ id cs := rfl
theorem GA_self {σ : Store} {t : Nat} {cs : List Cell} : aget (GA σ t cs).objs σ.next = some cs := agS _ _ _
theorem mGalloc {σ : Store} {t : Nat} {z : List D} {e : Env} : memOp (.galloc t z) e σ = some (.ptr σ.next 0, GA σ t (z.map Cell.of)) := rfl
def fnB (b : Nat) : D := .fn (.func n_64) [] [.ptr b 0]
theorem mkB_run {S : Specs} (hS : has S n_137 = false) (l : List Tx) (n : Nat) (σ : Store) : T S (n + 1) n_137 [dSs l] σ = some (.ret ⟨false, fnB σ.next⟩, GA σ t_35 [⟨false, dSs l⟩]) := by
  rw [T_fun (af := a_111) hS rfl rfl]
  have hg : ∀ e, memOp (.gbox t_35 (.tmp 0)) { slots := (0, ⟨false, dSs l⟩) :: e, locs := [], boxes := [], defers := [] } σ = some (.ptr σ.next 0, GA σ t_35 [⟨false, dSs l⟩]) := fun e => by
    cases l <;> rfl
  simp only [a_111, sA, Nat.reduceAdd, Nat.reduceSub, Nat.reduceMul, Nat.reduceBEq, Nat.reduceLeDiff, Int.reduceBEq, Int.reduceBNe, Int.reduceLE, Int.reduceLT, Int.reduceGE, Int.reduceGT, Int.reduceNeg, kn, onel, memE, hg, fnB]
def Efg (L : List Da) (acc : List Fi) (i : Nat) (d : Da) (k : Nat) (ids : List Nat) : Env := { slots := [(3, ⟨fl (acc ++ fieldsD d (d.cons.take k) 0), dFl (acc ++ fieldsD d (d.cons.take k) 0)⟩), (14, ⟨false, dDl L⟩), (15, ⟨false, .int .i64 L.length⟩), (16, ⟨false, .int .i64 i⟩), (21, ⟨false, dCl d.cons⟩), (22, ⟨false, .int .i64 d.cons.length⟩), (23, ⟨false, .int .i64 k⟩)], locs := [(5, 5, 0)], boxes := [(5, bD d)], defers := dfs ids }
theorem fg_end {C : CallF} {n : Nat} (L : List Da) (acc : List Fi) (i : Nat) (d : Da) (ids : List Nat) (σ : Store) : exec C n none a_39 (Efg L acc i d d.cons.length ids) σ = some (.exit 2, { slots := [(3, ⟨fl (acc ++ fieldsD d d.cons 0), dFl (acc ++ fieldsD d d.cons 0)⟩), (14, ⟨false, dDl L⟩), (15, ⟨false, .int .i64 L.length⟩), (16, ⟨false, .int .i64 i⟩), (21, ⟨false, dCl d.cons⟩), (22, ⟨false, .int .i64 d.cons.length⟩), (23, ⟨false, .int .i64 d.cons.length⟩), (24, ⟨false, .bool false⟩)], locs := [(5, 5, 0)], boxes := [(5, bD d)], defers := dfs ids }, σ) := by
  have hlt : ¬ ((d.cons.length : Int) < (d.cons.length : Int)) := by omega
  unfold Efg
  rw [List.take_length]
  generalize acc ++ fieldsD d d.cons 0 = A
  simp only [a_39, bD, sA, Nat.reduceAdd, Nat.reduceSub, Nat.reduceMul, Nat.reduceBEq, Nat.reduceLeDiff, Int.reduceBEq, Int.reduceBNe, Int.reduceLE, Int.reduceLT, Int.reduceGE, Int.reduceGT, Int.reduceNeg, kn, onel, hlt]
def Efh (L : List Da) (i : Nat) (ids : List Nat) : Env := { slots := [(3, ⟨fl (fieldsM (L.take i)), dFl (fieldsM (L.take i))⟩), (14, ⟨false, dDl L⟩), (15, ⟨false, .int .i64 L.length⟩), (16, ⟨false, .int .i64 i⟩)], locs := [], boxes := [], defers := dfs ids }
theorem fh_end {C : CallF} {n : Nat} (L : List Da) (ids : List Nat) (σ : Store) : exec C n none a_40 (Efh L L.length ids) σ = some (.exit 0, { slots := [(3, ⟨fl (fieldsM L), dFl (fieldsM L)⟩), (14, ⟨false, dDl L⟩), (15, ⟨false, .int .i64 L.length⟩), (16, ⟨false, .int .i64 L.length⟩), (17, ⟨false, .bool false⟩)], locs := [], boxes := [], defers := dfs ids }, σ) := by
  have hlt : ¬ ((L.length : Int) < (L.length : Int)) := by omega
  unfold Efh
  rw [List.take_length]
  simp only [a_40, sA, Nat.reduceAdd, Nat.reduceSub, Nat.reduceMul, Nat.reduceBEq, Nat.reduceLeDiff, Int.reduceBEq, Int.reduceBNe, Int.reduceLE, Int.reduceLT, Int.reduceGE, Int.reduceGT, Int.reduceNeg, kn, onel, hlt]
end Go.Fu
namespace Go.Fu
open Go Go.Mx
set_option maxRecDepth 10000
set_option maxHeartbeats 4000000
theorem append_new {r : RowK} {by_ : Nat} {ys : List D} (hy : ∀ d ∈ ys, d.ok = true ∧ d.cells.length = r.sz) (h1 : ys.length * by_ ≤ bound) (h2 : ys.length ≤ bound) : appendD r by_ ⟨true, .list r []⟩ ys = some ⟨true, .list r ys⟩ := by
  have hm : mayAppend r ⟨true, .list r []⟩ = true := by simp [mayAppend, RowK.same]
  have ha : asList (.list r []) = some [] := rfl
  have hj : joined r (.list r []) ys = .list r ys := rfl
  have h1' : ((([] : List D).length + ys.length) * by_ ≤ bound) := by simpa using h1
  have h2' : (([] : List D).length + ys.length ≤ bound) := by simpa using h2
  simp only [appendD, ha, hm, hj, allSize_all hy, bindO, caseO_some, decide_eq_true h1', decide_eq_true h2', Bool.and_self, ifB_true]
theorem cloneS_pure (l : List Tx) (hl : l.length ≤ 1000) : OkP n_65 [dSs l] ⟨false, dSs l⟩ := by
  cases l with
  | nil =>
    refine pure_fun (af := a_52) (n := 1) (σ' := σ0) (T_sound [] 0) rfl rfl rfl rfl ?_
    simp only [a_52, sA, Nat.reduceAdd, Nat.reduceSub, Nat.reduceMul, Nat.reduceBEq, Nat.reduceLeDiff, Int.reduceBEq, Int.reduceBNe, Int.reduceLE, Int.reduceLT, Int.reduceGE, Int.reduceGT, Int.reduceNeg, kn, onel, show dSs [] = .nils from rfl]
  | cons x r =>
    refine OkP.weak (o := true) rfl (pure_fun (af := a_52) (n := 1) (σ' := σ0) (T_sound [] 0) rfl rfl (by simp [noPtrL, noPtr_dSs]) (noPtr_dSs (x :: r)) ?_)
    have h := append_new (r := k_2) (by_ := 16) (ys := (x :: r).map D.str) (fun d hd => by
      obtain ⟨y, _, rfl⟩ := List.mem_map.1 hd
      exact ⟨rfl, rfl⟩) (by simp [bound] at hl ⊢; omega) (by simp [bound] at hl ⊢; omega)
    have e : dSs (x :: r) = .list k_2 ((x :: r).map D.str) := rfl
    rw [e]
    have hn : (D.list k_2 ((x :: r).map D.str)).isNilS? = some false := rfl
    have ha : asList (D.list k_2 ((x :: r).map D.str)) = some ((x :: r).map D.str) := rfl
    generalize (x :: r).map D.str = q at *
    simp only [a_52, sA, Nat.reduceAdd, Nat.reduceSub, Nat.reduceMul, Nat.reduceBEq, Nat.reduceLeDiff, Int.reduceBEq, Int.reduceBNe, Int.reduceLE, Int.reduceLT, Int.reduceGE, Int.reduceGT, Int.reduceNeg, kn, onel, hn, ha, h]
theorem cloneK_pure (k : Nat) (hl : k ≤ 1000) : OkP n_33 [dKl k] ⟨false, dKl k⟩ := by
  cases k with
  | zero =>
    refine pure_fun (af := a_51) (n := 1) (σ' := σ0) (T_sound [] 0) rfl rfl rfl rfl ?_
    simp only [a_51, sA, Nat.reduceAdd, Nat.reduceSub, Nat.reduceMul, Nat.reduceBEq, Nat.reduceLeDiff, Int.reduceBEq, Int.reduceBNe, Int.reduceLE, Int.reduceLT, Int.reduceGE, Int.reduceGT, Int.reduceNeg, kn, onel, show dKl 0 = .nils from rfl]
  | succ r =>
    refine OkP.weak (o := true) rfl (pure_fun (af := a_51) (n := 1) (σ' := σ0) (T_sound [] 0) rfl rfl (by simp [noPtrL, noPtr_dKl]) (noPtr_dKl (r + 1)) ?_)
    have h := append_new (r := k_4) (by_ := 24) (ys := List.replicate (r + 1) dKi) (fun d hd => by
      rw [List.eq_of_mem_replicate hd]
      exact ⟨rfl, rfl⟩) (by simp [bound] at hl ⊢; omega) (by simp [bound] at hl ⊢; omega)
    have e : dKl (r + 1) = .list k_4 (List.replicate (r + 1) dKi) := rfl
    rw [e]
    have hn : (D.list k_4 (List.replicate (r + 1) dKi)).isNilS? = some false := rfl
    have ha : asList (D.list k_4 (List.replicate (r + 1) dKi)) = some (List.replicate (r + 1) dKi) := rfl
    generalize List.replicate (r + 1) dKi = q at *
    simp only [a_51, sA, Nat.reduceAdd, Nat.reduceSub, Nat.reduceMul, Nat.reduceBEq, Nat.reduceLeDiff, Int.reduceBEq, Int.reduceBNe, Int.reduceLE, Int.reduceLT, Int.reduceGE, Int.reduceGT, Int.reduceNeg, kn, onel, hn, ha, h]
def sp_cloneS : List D → Cell → Prop := fun ds c => ∀ l, ds = [dSs l] → c = ⟨false, dSs l⟩
def sp_cloneK : List D → Cell → Prop := fun ds c => ∀ k, ds = [dKl k] → c = ⟨false, dKl k⟩
theorem dKl_inj {a b : Nat} (h : dKl a = dKl b) : a = b := by
  have := congrArg lenOf h
  rw [len_K, len_K] at this
  simpa using this
theorem call_cloneS {S : Specs} (hS : aget S n_65 = some sp_cloneS) (l : List Tx) (hl : l.length ≤ 1000) (n : Nat) (σ : Store) : T S (n + 1) n_65 [dSs l] σ = some (.ret ⟨false, dSs l⟩, σ) := by
  obtain ⟨c, g1, g2⟩ := T_orc (S := S) hS rfl (c := ⟨false, dSs l⟩) (fun l' e => by
    simp only [List.cons.injEq, and_true] at e
    rw [dSs_inj e]) (cloneS_pure l hl)
  rw [g2, g1 _ rfl]
theorem call_cloneK {S : Specs} (hS : aget S n_33 = some sp_cloneK) (k : Nat) (hl : k ≤ 1000) (n : Nat) (σ : Store) : T S (n + 1) n_33 [dKl k] σ = some (.ret ⟨false, dKl k⟩, σ) := by
  obtain ⟨c, g1, g2⟩ := T_orc (S := S) hS rfl (c := ⟨false, dKl k⟩) (fun l' e => by
    simp only [List.cons.injEq, and_true] at e
    rw [dKl_inj e]) (cloneK_pure k hl)
  rw [g2, g1 _ rfl]
theorem conM_mem {s : Tx} {L : List Da} {d : Da} {k : Nat} (h : conM s L = some (d, k)) : d ∈ L := by
  have := conAts_find s L 0
  rw [h] at this
  obtain ⟨n, h1, _⟩ := this
  exact List.mem_of_getElem? h1
def schR (s : Tx) (L : List Da) : D := match conM s L with
  | none => .tup [.agg [.nils, .nils, .nils, .int .i64 0, .int .i64 0, .str [], .nils], .bool false]
  | some p => .tup [.agg ([dSs p.1.vars, dKl p.1.vars.length, .nils] ++ cTy (typM p.1 (p.1.cons.getD p.2 zCn))), .bool true]
theorem scheme_run {S : Specs} (hS0 : has S n_75 = false) (hS1 : has S n_61 = false) (hS2 : aget S n_65 = some sp_cloneS) (hS3 : aget S n_33 = some sp_cloneK) (hS4 : aget S n_24 = some sp_typeOf) {σ : Store} {p m : Nat} {L : List Da} (h : PN σ p m L (conAts L 0)) (hL : L.length ≤ 1000) (hd : ∀ d ∈ L, FineD d) (s : Tx) (n : Nat) : T S (n + 2) n_75 [.ptr p 0, .str s] σ = some (.ret ⟨false, schR s L⟩, σ) := by
  have hc := con_run hS1 h hL s n
  rw [T_fun (af := a_71) hS0 rfl rfl]
  unfold schR
  cases hm : conM s L with
  | none =>
    rw [hm] at hc
    have ez : dDa zDa = .agg [.str [], .int .i64 0, .nils, .nils, .nils] := rfl
    simp only [conR, ez] at hc
    simp only [a_71, sA, Nat.reduceAdd, Nat.reduceSub, Nat.reduceMul, Nat.reduceBEq, Nat.reduceLeDiff, Int.reduceBEq, Int.reduceBNe, Int.reduceLE, Int.reduceLT, Int.reduceGE, Int.reduceGT, Int.reduceNeg, kn, onel, hc]
  | some q =>
    obtain ⟨d, k⟩ := q
    rw [hm] at hc
    have hdl := hd d (conM_mem hm)
    obtain ⟨c, hck⟩ := conM_at hm
    obtain ⟨hk, _⟩ := List.getElem?_eq_some_iff.1 hck
    have h1 := call_cloneS hS2 d.vars hdl.vars n σ
    have h2 := call_cloneK hS3 d.vars.length hdl.vars n σ
    have h3 := call_typeOf hS4 d hdl k hk n σ
    simp only [conR, getD_eq _ _ _ hk] at hc ⊢
    generalize typM d d.cons[k] = t at *
    simp only [dDa_eq, dTy_eq, cTy_eq] at hc h3
    simp only [a_71, sA, Nat.reduceAdd, Nat.reduceSub, Nat.reduceMul, Nat.reduceBEq, Nat.reduceLeDiff, Int.reduceBEq, Int.reduceBNe, Int.reduceLE, Int.reduceLT, Int.reduceGE, Int.reduceGT, Int.reduceNeg, kn, onel, hc, h1, h2, h3, cTy_eq, List.cons_append, List.nil_append]
end Go.Fu
