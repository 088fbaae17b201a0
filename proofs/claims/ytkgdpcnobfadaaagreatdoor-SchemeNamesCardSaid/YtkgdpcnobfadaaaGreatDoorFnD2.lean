/-
  DeleteFunc, run, as the program uses it.
-/
import Derived.Test.YtkgdpcnobfadaaaGreatDoorFnX4
import Derived.Test.YtkgdpcnobfadaaaGreatDoorFnAp
set_option linter.unusedSimpArgs false
set_option linter.unusedVariables false
namespace Go.Fu
open Go Go.Mx
set_option maxRecDepth 10000
structure DelR (vs l : List (List UInt8)) (id : Nat) (σ σ' : Store) : Prop where
  ex : ∃ A : List (List UInt8), aget σ'.objs id = some (cellsOf (A.map D.str)) ∧ A.take (keepV vs l).length = keepV vs l ∧ (keepV vs l).length ≤ A.length
  objs : ∀ k, k ≠ id → aget σ'.objs k = aget σ.objs k
  wf : WF σ'
  tys : σ'.tys = σ.tys
  oth : σ'.oth = σ.oth
  next : σ'.next = σ.next
theorem zpx (vs l : List (List UInt8)) (i : Nat) (h : ∀ j, ∀ h : j < l.length, j < i → vs.contains l[j] = false) : keepV vs (l.take i) = l.take i := by
  unfold keepV
  rw [List.filter_eq_self]
  intro s hs
  obtain ⟨j, hj, rfl⟩ := List.getElem_of_mem hs
  have hj' : j < l.length ∧ j < i := by simp only [List.length_take] at hj; omega
  have := h j hj'.1 hj'.2
  rw [List.getElem_take, this]
  rfl
theorem zfpb (vs l : List (List UInt8)) (hl : l.length < 1000000) (m : Nat) (hm : l.length + 5 ≤ m) (σ : Store) (id cap : Nat) (rest : List Cell) (hw : WF σ) (hid : id < σ.next) (hne : cap ≠ id) (hcap : aget σ.objs cap = some (⟨false, dSs vs⟩ :: rest)) (ha : aget σ.objs id = some (cellsOf (l.map D.str)))
    (hc : ∀ s ∈ l, ∀ σ', aget σ'.objs cap = some (⟨false, dSs vs⟩ :: rest) → DelC (T (m + 1)) vs cap σ' s ∧ DelC (T m) vs cap σ' s) :
    ∃ σ', T (m + 2) n_96 [.arr k_0 id 0 l.length, .fn (.func n_21) [] [.ptr cap 0]] σ = some (.ret ⟨false, .arr k_0 id 0 (keepV vs l).length⟩, σ') ∧ DelR vs l id σ σ' := by
  rw [T_fun (af := a_58) rfl rfl]
  rcases ixf m vs l σ id cap (by omega) (by omega) ha (fun s hs => (hc s hs σ hcap).2) with ⟨i, hi, h1, h2, h3⟩ | ⟨h2, h3⟩
  · have hk0 : keepV vs (l.take (i + 1)) = l.take i := by
      rw [← za8 l i hi]
      unfold keepV
      rw [List.filter_append]
      have := zpx vs l i h2
      unfold keepV at this
      rw [this]
      simp only [List.filter_cons, h1, Bool.not_true, Bool.false_eq_true, if_false, List.filter_nil, List.append_nil]
    obtain ⟨⟨x, e, σ1⟩, hloop, hx1, i', A, hx2, hA, ht, hD, ho, hwf, hty, hot, hnx⟩ := zbw (body := exec (T (m + 1)) (m + 1) a_37) (DInv vs l id cap σ)
      (fun x => x.1 = .exit 0 ∧ ∃ (i' : Nat) (A : List (List UInt8)), x.2.1 = { EDf id cap l.length i' l.length with slots := [(0, ⟨false, .arr k_0 id 0 l.length⟩), (1, ⟨false, .fn (.func n_21) [] [.ptr cap 0]⟩), (5, ⟨false, .int .i64 i'⟩), (6, ⟨false, .int .i64 l.length⟩), (19, ⟨false, .bool false⟩)] } ∧ A.length = l.length ∧ (A.take i' = keepV vs l ∧ i' ≤ l.length) ∧ aget x.2.2.objs id = some (cellsOf (A.map D.str)) ∧ (∀ k, k ≠ id → aget x.2.2.objs k = aget σ.objs k) ∧ WF x.2.2 ∧ x.2.2.tys = σ.tys ∧ x.2.2.oth = σ.oth ∧ x.2.2.next = σ.next) l.length
      (fun j e σ' hj h => zzs vs l σ id cap rest hcap hne hid (by omega) (fun s hs σ' ho => (hc s hs σ' ho).1) j e σ' hj h)
      (fun e σ' h => by
        obtain ⟨i', A, rfl, hij, hA, ht, _, ha'⟩ := h.ex
        rw [List.take_length] at ht
        exact ⟨_, zfyb σ' id cap l.length i', fun _ _ h => (by cases h), rfl, i', A, rfl, hA, ⟨ht, hij⟩, ha', h.objs, h.wf, h.tys, h.oth, h.next⟩)
      (i + 1) (m + 1) (EDf id cap l.length i (i + 1)) σ (by omega) (by omega) ⟨⟨i, l, rfl, by omega, rfl, hk0.symm, rfl, ha⟩, fun _ _ => rfl, hw, rfl, rfl, rfl⟩
    simp only at hx1 hx2 hD ho hwf hty hot hnx
    subst hx1 hx2
    have hi' : (keepV vs l).length = i' := by
      rw [← ht.1, List.length_take]; omega
    rw [hi']
    have w1 := zam (i := i) (by omega)
    have hne1 : (((i : Nat) : Int) == -1) = false := beq_false_of_ne (by omega)
    have hsl : zbd 1 (.arr k_0 id 0 l.length) i' none = some (.arr k_0 id (0 + i') (l.length - i')) := by
      have d1 : decide (i' ≤ l.length) = true := decide_eq_true ht.2
      rw [zfl]
      simp only [Option.getD_none, d1, decide_eq_true (Nat.le_refl l.length), k_60, beq_self_eq_true, Bool.and_self, zae]
    have hsl2 : zbd 1 (.arr k_0 id 0 l.length) 0 (some i') = some (.arr k_0 id 0 i') := by
      have d1 : decide (i' ≤ l.length) = true := decide_eq_true ht.2
      rw [zfl]
      simp only [Option.getD_some, d1, decide_eq_true (Nat.zero_le i'), k_60, beq_self_eq_true, Bool.and_self, zae, Nat.sub_zero, Nat.add_zero]
    have hcl : zfp σ1 1 [.str []] (.arr k_0 id (0 + i') (l.length - i')) = some (setO σ1 id (cellsOf ((A.take i' ++ List.replicate (A.length - i') []).map D.str))) := by
      have hlen := zb8 (z := 1) (A.map D.str) fun d hd => (zem A d hd).1
      rw [List.length_map, Nat.mul_one] at hlen
      have d1 : decide ((0 + i' + (l.length - i')) * 1 ≤ (cellsOf (A.map D.str)).length) = true := decide_eq_true (by omega)
      have hp := zj7 A i' (by omega)
      rw [← row_S] at hp
      rw [← hA] at d1 ⊢
      simp only [zfp, hD, bindO, zaa, k_60, beq_self_eq_true, List.length_cons, List.length_nil, Nat.zero_add, Nat.mul_one, Bool.and_self, Bool.true_and] at d1 ⊢
      rw [d1, zae, hp]
      rfl
    refine ⟨setO σ1 id (cellsOf ((A.take i' ++ List.replicate (A.length - i') []).map D.str)), ?_, ⟨⟨A.take i' ++ List.replicate (A.length - i') [], by rw [zbv, if_pos rfl], ?_, ?_⟩, fun k hk => ?_, zlr hwf _ _ (by rw [hnx]; exact hid), hty, hot, hnx⟩⟩
    · simp only [EDf, zeroI] at hloop
      rw [Nat.zero_add] at hcl
      simp only [a_58, de0, de1, de2, szQ, szB, szL, sy0, sy1, sy2, sy3, sy4, sy5, zad, zaa, zac, zae, adel, zah, zag, zai, zaf, evalV, aget, aset, adel1, nth, AOp.kind, Nat.reduceAdd, Nat.reduceSub, Nat.reduceMul, Nat.reduceBEq, Nat.ble, bindO, Nat.reduceLeDiff, Int.reduceBEq, Int.reduceBNe, Int.reduceLE, Int.reduceLT, Int.reduceGE, Int.reduceGT, Int.reduceNeg, ks, lz, memE, memOp, h3, hne1, w1, hloop, hsl, hsl2, hcl]
    · have hlt : (A.take i').length = i' := by rw [List.length_take]; omega
      rw [hi', List.take_left' hlt]
      exact ht.1
    · simp only [List.length_append, List.length_take, List.length_replicate]; omega
    · rw [zbv, if_neg hk]
      exact ho k hk
  · have hk : keepV vs l = l := by
      have := zpx vs l l.length (fun j hj _ => h2 j hj)
      rwa [List.take_length] at this
    refine ⟨σ, ?_, ⟨⟨l, ha, by rw [hk, List.take_length], by rw [hk]; exact Nat.le_refl _⟩, fun _ _ => rfl, hw, rfl, rfl, rfl⟩⟩
    rw [hk]
    simp only [a_58, de0, de1, de2, szQ, szB, szL, sy0, sy1, sy2, sy3, sy4, sy5, zad, zaa, zac, zae, adel, zah, zag, zai, zaf, evalV, aget, aset, adel1, nth, AOp.kind, Nat.reduceAdd, Nat.reduceSub, Nat.reduceMul, Nat.reduceBEq, Nat.ble, bindO, Nat.reduceLeDiff, Int.reduceBEq, Int.reduceBNe, Int.reduceLE, Int.reduceLT, Int.reduceGE, Int.reduceGT, Int.reduceNeg, ks, lz, h3]
theorem zfob (m : Nat) (f : D) (σ : Store) : T (m + 3) n_96 [.nils, f] σ = some (.ret ⟨false, .nils⟩, σ) := by
  have h : T (m + 2) n_167 [.nils, f] σ = some (.ret ⟨false, .int .i64 (-1)⟩, σ) := by
    have hl : loopN (exec (T (m + 1)) (m + 1) a_28) (m + 1) { slots := [(0, ⟨false, .nils⟩), (1, ⟨false, f⟩), (7, ⟨false, .int .i64 0⟩), (8, ⟨false, .int .i64 0⟩)], locs := [], boxes := [], defers := [] } σ = some (.exit 0, { slots := [(0, ⟨false, .nils⟩), (1, ⟨false, f⟩), (7, ⟨false, .int .i64 0⟩), (8, ⟨false, .int .i64 0⟩), (9, ⟨false, .bool false⟩)], locs := [], boxes := [], defers := [] }, σ) := za7 (by
      simp only [a_28, de0, de1, de2, szQ, szB, szL, sy0, sy1, sy2, sy3, sy4, sy5, zad, zaa, zac, zae, adel, zah, zag, zai, zaf, evalV, aget, aset, adel1, nth, AOp.kind, Nat.reduceAdd, Nat.reduceSub, Nat.reduceMul, Nat.reduceBEq, Nat.ble, bindO, Nat.reduceLeDiff, Int.reduceBEq, Int.reduceBNe, Int.reduceLE, Int.reduceLT, Int.reduceGE, Int.reduceGT, Int.reduceNeg, ks, lz])
    rw [T_fun (af := a_59) rfl rfl]
    simp only [a_59, de0, de1, de2, szQ, szB, szL, sy0, sy1, sy2, sy3, sy4, sy5, zad, zaa, zac, zae, adel, zah, zag, zai, zaf, evalV, aget, aset, adel1, nth, AOp.kind, Nat.reduceAdd, Nat.reduceSub, Nat.reduceMul, Nat.reduceBEq, Nat.ble, bindO, Nat.reduceLeDiff, Int.reduceBEq, Int.reduceBNe, Int.reduceLE, Int.reduceLT, Int.reduceGE, Int.reduceGT, Int.reduceNeg, ks, lz, hl]
  rw [T_fun (af := a_58) rfl rfl]
  simp only [a_58, de0, de1, de2, szQ, szB, szL, sy0, sy1, sy2, sy3, sy4, sy5, zad, zaa, zac, zae, adel, zah, zag, zai, zaf, evalV, aget, aset, adel1, nth, AOp.kind, Nat.reduceAdd, Nat.reduceSub, Nat.reduceMul, Nat.reduceBEq, Nat.ble, bindO, Nat.reduceLeDiff, Int.reduceBEq, Int.reduceBNe, Int.reduceLE, Int.reduceLT, Int.reduceGE, Int.reduceGT, Int.reduceNeg, ks, lz, h]
end Go.Fu
namespace Go.Fu
open Go Go.Mx
set_option maxRecDepth 10000
theorem zic {k : RowK} {rest : List D} : ∀ ds : List D, (∀ d ∈ ds, d.cells.length = k.sz ∧ packD k d.cells = d) → zcs k ds.length (((cellsOf ds).map fun c => c.d) ++ rest) = ds
  | [], _ => rfl
  | d :: ds, h => by
    obtain ⟨h1, h2⟩ := h d (by simp)
    have h3 := zic (rest := rest) ds fun x hx => h x (List.mem_cons_of_mem _ hx)
    have e1 : (d.cells.map Cell.of).map (fun c => c.d) = d.cells := by
      rw [List.map_map]
      exact List.map_id'' (fun _ => rfl) _
    simp only [List.length_cons, zcs, cellsOf, List.map_append, e1, List.append_assoc]
    rw [List.take_left' h1, List.drop_left' h1, h2, h3]
theorem zue {id n k : Nat} {A : List (List UInt8)} {os : Objs} (ho : aget os id = some (cellsOf (A.map D.str))) (hk : k ≤ A.length) : za1 (n + 2) (.arr k_0 id 0 k) os = some (.list k_0 ((A.take k).map D.str), adel1 os id) := by
  have hl := zb8 (z := 1) (A.map D.str) fun d hd => (zem A d hd).1
  rw [List.length_map, Nat.mul_one] at hl
  have hag : (k_0.ag || k_0.sz == 1) = true := rfl
  have e0 : decide ((0 + k) * k_0.sz ≤ (cellsOf (A.map D.str)).length) = true := decide_eq_true (by rw [k_60]; omega)
  have hsp : A.map D.str = (A.take k).map D.str ++ (A.drop k).map D.str := by rw [← List.map_append, List.take_append_drop]
  have hel : elems k_0 (cellsOf (A.map D.str)) 0 k = (A.take k).map D.str := by
    have := zic (k := k_0) (rest := (cellsOf ((A.drop k).map D.str)).map fun c => c.d) ((A.take k).map D.str) (zem _)
    rw [List.length_map, List.length_take, Nat.min_eq_left hk] at this
    unfold elems
    rw [hsp, zdm, List.map_append, Nat.zero_mul, List.drop_zero]
    exact this
  have hf := zg4 (n := n + 1) (os := adel1 os id) ((A.take k).map D.str) (fun d hd => by obtain ⟨x, _, rfl⟩ := List.mem_map.1 hd; rfl)
  simp only [zie, ho, bindO, zaa, hag, e0, Bool.and_self, zae, hel, hf]
theorem zbq {α : Type} : ∀ (l : List (Nat × α)) (n i : Nat), i < n → aget (l.filter fun p => decide (p.1 < n)) i = aget l i
  | [], _, _, _ => rfl
  | (k, x) :: l, n, i, h => by
    have ih := zbq l n i h
    rw [List.filter_cons]
    by_cases hk : k < n
    · rw [if_pos (by simpa using hk), aget, aget, ih]
    · rw [if_neg (by simpa using hk), ih]
      have : (k == i) = false := beq_false_of_ne (by omega)
      rw [aget, this, zac]
theorem zpv {σ σ' : Store} (hw : WF σ) (h : Ext σ σ') : Ext σ (σ'.trunc σ.next) := by
  refine ⟨⟨fun p hp => ?_, fun p hp => ?_, fun p hp => ?_⟩, h.next, fun id hi => ?_, fun id hi => ?_, ?_⟩
  · exact h.wf.objs p (List.mem_filter.1 hp).1
  · exact h.wf.tys p (List.mem_filter.1 hp).1
  · exact h.wf.oth p (List.mem_filter.1 hp).1
  · exact (zbq _ _ _ hi).trans (h.objs id hi)
  · exact (zbq _ _ _ hi).trans (h.tys id hi)
  · show (σ'.oth.filter fun p => decide (p.1 < σ.next)) = σ.oth
    rw [h.oth]
    exact zpw _ _ hw.oth
def ListD (l : List (List UInt8)) (d : D) : Prop := d = dSs l ∨ (l = [] ∧ d = .list k_0 [])
theorem apAny {σ0 σ σ1 : Store} {r : D} {ls ys : List (List UInt8)} (h : ArrOf σ0 σ r ls) (hx : Ext σ σ1) (hl : ls.length + ys.length < 1048576) : ∃ r' σ', zb9 σ1 k_0 16 r (ys.map D.str) = some (r', σ') ∧ ArrOf σ0 σ' r' (ls ++ ys) := by
  cases ys with
  | nil =>
    rw [List.append_nil]
    simp only [List.length_nil] at hl
    exact apA0 h hx (by omega)
  | cons y ys => exact apA h hx (by simp) hl
def othA (t : Tp) (ps : List Pr) : List (List UInt8) := freeT t ++ ps.flatMap fun p => freeT p.ty
theorem za6b (t : Tp) (ps : List Pr) (i : Nat) (h : i < ps.length) : othA t (ps.take (i + 1)) = othA t (ps.take i) ++ freeT ps[i].ty := by
  rw [← za8 ps i h]
  unfold othA
  rw [List.flatMap_append, ← List.append_assoc]
  simp
section
variable {C : CallF} {n : Nat}
def EOt (cap : Nat) (r : D) (ps : List Pr) (i : Nat) : Env := { slots := [(1, ⟨false, .ptr cap 0⟩), (3, ⟨false, r⟩), (10, ⟨false, dPs ps⟩), (11, ⟨false, .int .i64 ps.length⟩), (12, ⟨false, .int .i64 i⟩)], locs := [], boxes := [], defers := [] }
theorem zdkb (t : Tp) (ps : List Pr) (cap : Nat) (σ0 : Store) (hp : ps.length < 1000) (hf : ∀ i, ∀ h : i < ps.length, FreeC C ps[i].ty) (hlen : ∀ i, i ≤ ps.length → (othA t (ps.take i)).length < 1048576) :
    ∀ (i : Nat) (e : Env) (σ : Store), i < ps.length → (∃ r, e = EOt cap r ps i ∧ ArrOf σ0 σ r (othA t (ps.take i))) → ∃ e' σ', exec C n a_84 e σ = some (.normal, e', σ') ∧ ∃ r, e' = EOt cap r ps (i + 1) ∧ ArrOf σ0 σ' r (othA t (ps.take (i + 1))) := by
  rintro i e σ hi ⟨r, rfl, hr⟩
  obtain ⟨q, σ1, h1, hq⟩ := hf i hi σ hr.1.wf
  have hl := hlen (i + 1) (by omega)
  rw [za6b t ps i hi] at hl ⊢
  rw [List.length_append] at hl
  obtain ⟨r', σ', h2, hr'⟩ := apAny hr hq.1 hl
  refine ⟨EOt cap r' ps (i + 1), σ', ?_, r', rfl, hr'⟩
  have hx : zav 5 (dPs ps) i = some (.eptr (dP ps[i])) := idx_P ps i hi
  have hii : ((i : Int) < (ps.length : Int)) := by omega
  have w1 := zam (i := i) (by omega)
  have hls := zapb hq.isIn
  rw [dT_eq] at h1
  simp only [cT] at h1
  simp only [dP, cT] at hx
  simp only [a_84, EOt, de0, de1, de2, szQ, szB, szL, sy0, sy1, sy2, sy3, sy4, sy5, zad, zaa, zac, zae, adel, zah, zag, zai, zaf, evalV, aget, aset, adel1, nth, AOp.kind, Nat.reduceAdd, Nat.reduceSub, Nat.reduceMul, Nat.reduceBEq, Nat.ble, bindO, Nat.reduceLeDiff, Int.reduceBEq, Int.reduceBNe, Int.reduceLE, Int.reduceLT, Int.reduceGE, Int.reduceGT, Int.reduceNeg, ks, lz, memE, memOp, Mx.part, hx, hii, h1, hls, h2, w1]
theorem zgcb (cap : Nat) (r : D) (ps : List Pr) (σ : Store) : exec C n a_84 (EOt cap r ps ps.length) σ = some (.exit 0, { EOt cap r ps ps.length with slots := [(1, ⟨false, .ptr cap 0⟩), (3, ⟨false, r⟩), (10, ⟨false, dPs ps⟩), (11, ⟨false, .int .i64 ps.length⟩), (12, ⟨false, .int .i64 ps.length⟩), (13, ⟨false, .bool false⟩)] }, σ) := by
  have hi : ¬ ((ps.length : Int) < (ps.length : Int)) := by omega
  simp only [a_84, EOt, de0, de1, de2, szQ, szB, szL, sy0, sy1, sy2, sy3, sy4, sy5, zad, zaa, zac, zae, adel, zah, zag, zai, zaf, evalV, aget, aset, adel1, nth, AOp.kind, Nat.reduceAdd, Nat.reduceSub, Nat.reduceMul, Nat.reduceBEq, Nat.ble, bindO, Nat.reduceLeDiff, Int.reduceBEq, Int.reduceBNe, Int.reduceLE, Int.reduceLT, Int.reduceGE, Int.reduceGT, Int.reduceNeg, ks, hi]
end
end Go.Fu
namespace Go.Fu
open Go Go.Mx
set_option maxRecDepth 10000
theorem zrq {e : Env} {σ : Store} {s : Nat} {d d' : D} {os' : Objs} (h0 : aget e.slots s = some ⟨false, d⟩) (h1 : za1 40 d σ.objs = some (d', os')) :
    zcz [.slot s] e σ = some ({ e with slots := aset e.slots s ⟨false, d'⟩ }, { objs := os', tys := σ.tys, oth := σ.oth, next := σ.next }) := by
  have hk : Cell.keeps ⟨false, d⟩ = false := by
    unfold Cell.keeps
    split <;> rfl
  simp only [zcz, zej, h0, bindO, zaa, h1, hk]
def scO (vs : List (List UInt8)) (ps : List Pr) (t : Tp) : List Cell := ⟨false, dSs vs⟩ :: ⟨false, .nils⟩ :: ⟨false, dPs ps⟩ :: bT t
def scD (vs : List (List UInt8)) (ps : List Pr) (t : Tp) : D := .agg (dSs vs :: .nils :: dPs ps :: cT t)
theorem zlw {σ : Store} (h : WF σ) (cs : List Cell) (ty : Ty) : Ext σ { objs := (σ.next, cs) :: σ.objs, tys := (σ.next, ty) :: σ.tys, oth := σ.oth, next := σ.next + 1 } := zey h cs ty 1 (Nat.le_refl _)
theorem zyc (vs : List (List UInt8)) (ps : List Pr) (t : Tp) (hv : vs.length < 1048576) (hp : ps.length < 1000) (hn : nT t < 100000) (hns : ∀ p ∈ ps, nT p.ty < 100000) (hlen : ∀ i, i ≤ ps.length → (othA t (ps.take i)).length < 1000000) :
    Evly fun n => ∀ σ, WF σ → ∃ d σ', T n n_206 [scD vs ps t] σ = some (.ret ⟨false, d⟩, σ') ∧ ListD (keepV vs (othA t ps)) d ∧ Ext σ σ' := by
  have hfs : Evly fun n => ∀ i, i < ps.length → ∀ h : i < ps.length, FreeC (T n) ps[i].ty := Evly.below _ fun i hi => (zhn ps[i].ty (hns _ (List.getElem_mem hi))).mono fun n h _ => h
  have hall : (othA t ps).length < 1000000 := by have := hlen ps.length (Nat.le_refl _); rwa [List.take_length] at this
  have hds : Evly fun n => ∀ i, i < (othA t ps).length → ∀ h : i < (othA t ps).length, ∀ σ cap rest, aget σ.objs cap = some (⟨false, dSs vs⟩ :: rest) → DelC (T n) vs cap σ (othA t ps)[i] := Evly.below _ fun i hi => (zyb vs hv (othA t ps)[i]).mono fun n h _ => h
  have hd2 : Evly fun n => ∀ σ cap id rest, WF σ → id < σ.next → cap ≠ id → aget σ.objs cap = some (⟨false, dSs vs⟩ :: rest) → aget σ.objs id = some (cellsOf ((othA t ps).map D.str)) → ∃ σ', T n n_96 [.arr k_0 id 0 (othA t ps).length, .fn (.func n_21) [] [.ptr cap 0]] σ = some (.ret ⟨false, .arr k_0 id 0 (keepV vs (othA t ps)).length⟩, σ') ∧ DelR vs (othA t ps) id σ σ' := by
    obtain ⟨N, hN⟩ := hds
    refine ⟨N + (othA t ps).length + 10, fun n hn σ cap id rest hw hid hne hcap ha => ?_⟩
    obtain ⟨m, rfl⟩ : ∃ m, n = m + 2 := ⟨n - 2, by omega⟩
    refine zfpb vs (othA t ps) hall m (by omega) σ id cap rest hw hid hne hcap ha fun s hs σ' ho => ?_
    obtain ⟨i, hi, rfl⟩ := List.getElem_of_mem hs
    exact ⟨hN (m + 1) (by omega) i hi hi σ' cap rest ho, hN m (by omega) i hi hi σ' cap rest ho⟩
  have hd0 : Evly fun n => ∀ f σ, T n n_96 [.nils, f] σ = some (.ret ⟨false, .nils⟩, σ) := ⟨3, fun n hn f σ => by
    obtain ⟨m, rfl⟩ : ∃ m, n = m + 3 := ⟨n - 3, by omega⟩
    exact zfob m f σ⟩
  refine ((zhn t hn).and (hfs.and (hd2.and hd0))).step (ps.length + 4) fun m hm h σ hw => ?_
  obtain ⟨e1, e2, e3, e4⟩ := h
  have hxb := zlw hw (scO vs ps t) ⟨t_117, 0⟩
  obtain ⟨r1, σ1, h1, hr1⟩ := e1 _ hxb.wf
  have hr1' : ArrOf { objs := (σ.next, scO vs ps t) :: σ.objs, tys := (σ.next, ⟨t_117, 0⟩) :: σ.tys, oth := σ.oth, next := σ.next + 1 } σ1 r1 (othA t (ps.take 0)) := by
    simp only [othA, List.take_zero, List.flatMap_nil, List.append_nil]
    exact hr1
  obtain ⟨⟨x, e, σ2⟩, hloop, hx1, r2, hx2, hr2⟩ := zbw (body := exec (T m) m a_84) (fun i e σ' => ∃ r, e = EOt σ.next r ps i ∧ ArrOf { objs := (σ.next, scO vs ps t) :: σ.objs, tys := (σ.next, ⟨t_117, 0⟩) :: σ.tys, oth := σ.oth, next := σ.next + 1 } σ' r (othA t (ps.take i)))
    (fun x => x.1 = .exit 0 ∧ ∃ r, x.2.1 = { EOt σ.next r ps ps.length with slots := [(1, ⟨false, .ptr σ.next 0⟩), (3, ⟨false, r⟩), (10, ⟨false, dPs ps⟩), (11, ⟨false, .int .i64 ps.length⟩), (12, ⟨false, .int .i64 ps.length⟩), (13, ⟨false, .bool false⟩)] } ∧ ArrOf { objs := (σ.next, scO vs ps t) :: σ.objs, tys := (σ.next, ⟨t_117, 0⟩) :: σ.tys, oth := σ.oth, next := σ.next + 1 } x.2.2 r (othA t ps)) ps.length
    (zdkb t ps σ.next _ hp (fun i hi => e2 i hi hi) (fun i hi => by have := hlen i hi; omega))
    (fun e σ' h => by
      obtain ⟨r, rfl, hr⟩ := h
      rw [List.take_length] at hr
      exact ⟨_, zgcb σ.next r ps σ', fun _ _ h => (by cases h), rfl, r, rfl, hr⟩) 0 m (EOt σ.next r1 ps 0) σ1 (by omega) (by omega) ⟨r1, rfl, hr1'⟩
  simp only at hx1 hx2 hr2
  subst hx1 hx2
  have ho1 : aget σ1.objs σ.next = some (scO vs ps t) := (hr1.1.objs σ.next (by simp)).trans (by simp [aget, ifB])
  have ho2 : aget σ2.objs σ.next = some (scO vs ps t) := (hr2.1.objs σ.next (by simp)).trans (by simp [aget, ifB])
  have hlp : lenOf (dPs ps) = some ps.length := by simp only [dPs, zax, List.length_map]
  have key : ∃ d0 d σ3 os, T m n_96 [r2, .fn (.func n_21) [] [.ptr σ.next 0]] σ2 = some (.ret ⟨false, d0⟩, σ3) ∧ za1 40 d0 σ3.objs = some (d, os) ∧ ListD (keepV vs (othA t ps)) d ∧ d.ok = true ∧ Ext σ { objs := os, tys := σ3.tys, oth := σ3.oth, next := σ3.next } := by
    have hx2 := hxb.trans hr2.1
    rcases hr2.2 with ⟨hnil, rfl⟩ | ⟨id, rfl, g1, g2, g3, g4, g5⟩
    · refine ⟨.nils, .nils, σ2, σ2.objs, e4 _ σ2, rfl, .inl (by rw [hnil]; rfl), rfl, hx2⟩
    · obtain ⟨σ3, hd, hR⟩ := e3 σ2 σ.next id (⟨false, .nils⟩ :: ⟨false, dPs ps⟩ :: bT t) hr2.1.wf g4 (by simp only at g3; omega) ho2 g1
      obtain ⟨A, hA, hA1, hA2⟩ := hR.ex
      have hfz := zue (n := 38) hA hA2
      rw [hA1] at hfz
      refine ⟨_, _, σ3, _, hd, hfz, ?_, rfl, ⟨⟨fun p hp => hR.wf.objs p (zdq _ _ _ hp), hR.wf.tys, hR.wf.oth⟩, ?_, fun i hi => ?_, fun i hi => ?_, ?_⟩⟩
      · cases hkk : keepV vs (othA t ps) with
        | nil => exact .inr ⟨rfl, rfl⟩
        | cons a b => exact .inl rfl
      · show σ.next ≤ σ3.next
        rw [hR.next]; exact hx2.next
      · have hne : i ≠ id := by simp only at g3; omega
        rw [← hx2.objs i hi, ← hR.objs i hne]
        exact zar _ _ _ hne
      · show aget σ3.tys i = _
        rw [hR.tys]; exact hx2.tys i hi
      · show σ3.oth = _
        rw [hR.oth]; exact hx2.oth
  obtain ⟨d0, d, σ3, os, hd, hfz, hLD, hok, hxt⟩ := key
  refine ⟨d, Store.trunc { objs := os, tys := σ3.tys, oth := σ3.oth, next := σ3.next } σ.next, ?_, hLD, zpv hw hxt⟩
  have hz := fun (e : Env) (he : aget e.slots 2 = some ⟨false, d0⟩) => zrq (e := e) (σ := σ3) (s := 2) he hfz
  rw [T_fun (af := a_147) rfl rfl]
  rw [dT_eq t] at h1
  simp only [EOt, zeroI] at hloop
  simp only [scO, bT] at h1 ho1
  simp only [scD, cT] at h1 ⊢
  simp only [a_147, de0, de1, de2, szQ, szB, szL, sy0, sy1, sy2, sy3, sy4, sy5, zad, zaa, zac, zae, adel, zah, zag, zai, zaf, evalV, aget, aset, adel1, nth, AOp.kind, Nat.reduceAdd, Nat.reduceSub, Nat.reduceMul, Nat.reduceBEq, Nat.ble, bindO, Nat.reduceLeDiff, Int.reduceBEq, Int.reduceBNe, Int.reduceLE, Int.reduceLT, Int.reduceGE, Int.reduceGT, Int.reduceNeg, ks, lz, memE, memOp, h1, ho1, hlp, hloop, hd, zfr, hz]
end Go.Fu
namespace Go.Fu
open Go Go.Mx
set_option maxRecDepth 10000
section
variable {C : CallF} {n : Nat} {σ : Store}
def Eat (l : List (List UInt8)) (s : List UInt8) (i : Nat) : Env := { slots := [(0, ⟨false, dlist k_0 (l.map D.str)⟩), (1, ⟨false, .str s⟩), (5, ⟨false, .int .i64 i⟩)], locs := [], boxes := [], defers := [] }
theorem zdwb (l : List (List UInt8)) (s : List UInt8) (i : Nat) (h : i < l.length) (hl : l.length < 1048576) (hp : (l[i] == s) = false) : exec C n a_44 (Eat l s i) σ = some (.normal, Eat l s (i + 1), σ) := by
  have hi : ((i : Int) < (l.length : Int)) := by omega
  simp only [a_44, Eat, de0, de1, de2, szQ, szB, szL, sy0, sy1, sy2, sy3, sy4, sy5, zad, zaa, zac, zae, adel, zah, zag, zai, zaf, evalV, aget, aset, adel1, nth, AOp.kind, Nat.reduceAdd, Nat.reduceSub, Nat.reduceMul, Nat.reduceBEq, Nat.ble, bindO, Nat.reduceLeDiff, Int.reduceBEq, Int.reduceBNe, Int.reduceLE, Int.reduceLT, Int.reduceGE, Int.reduceGT, Int.reduceNeg, ks, List.length_map, hi, idx_S _ _ h, hp, zam (i := i) (by omega)]
theorem zdxb (l : List (List UInt8)) (s : List UInt8) (i : Nat) (h : i < l.length) (hl : l.length < 1048576) (hp : (l[i] == s) = true) : exec C n a_44 (Eat l s i) σ = some (.ret, { slots := [(4, ⟨false, .int .i64 i⟩)], locs := [], boxes := [], defers := [] }, σ) := by
  have hi : ((i : Int) < (l.length : Int)) := by omega
  simp only [a_44, Eat, de0, de1, de2, szQ, szB, szL, sy0, sy1, sy2, sy3, sy4, sy5, zad, zaa, zac, zae, adel, zah, zag, zai, zaf, evalV, aget, aset, adel1, nth, AOp.kind, Nat.reduceAdd, Nat.reduceSub, Nat.reduceMul, Nat.reduceBEq, Nat.ble, bindO, Nat.reduceLeDiff, Int.reduceBEq, Int.reduceBNe, Int.reduceLE, Int.reduceLT, Int.reduceGE, Int.reduceGT, Int.reduceNeg, ks, List.length_map, hi, idx_S _ _ h, hp]
theorem zgpb (l : List (List UInt8)) (s : List UInt8) : exec C n a_44 (Eat l s l.length) σ = some (.exit 0, { Eat l s l.length with slots := [(0, ⟨false, dlist k_0 (l.map D.str)⟩), (1, ⟨false, .str s⟩), (5, ⟨false, .int .i64 l.length⟩), (9, ⟨false, .bool false⟩)] }, σ) := by
  have hi : ¬ ((l.length : Int) < (l.length : Int)) := by omega
  simp only [a_44, Eat, de0, de1, de2, szQ, szB, szL, sy0, sy1, sy2, sy3, sy4, sy5, zad, zaa, zac, zae, adel, zah, zag, zai, zaf, evalV, aget, aset, adel1, nth, AOp.kind, Nat.reduceAdd, Nat.reduceSub, Nat.reduceMul, Nat.reduceBEq, Nat.ble, bindO, Nat.reduceLeDiff, Int.reduceBEq, Int.reduceBNe, Int.reduceLE, Int.reduceLT, Int.reduceGE, Int.reduceGT, Int.reduceNeg, ks, List.length_map, hi]
end
theorem zzf (l : List (List UInt8)) (s : List UInt8) (hl : l.length < 1048576) : Evly fun n => ∀ σ, T n n_200 [dSs l, .str s] σ = some (.ret ⟨false, .int .i64 (posI s l)⟩, σ) :=
  (Evly.all (p := fun _ => True) fun _ => trivial).step (l.length + 2) fun m hm _ σ => by
  rw [T_fun (af := a_105) rfl rfl]
  have hsym : ∀ x : List UInt8, (x == s) = (s == x) := fun x => by
    cases h : s == x with
    | true => have : s = x := by simpa using h
              subst this; simp
    | false => have : s ≠ x := by simpa using h
               simpa using fun e => this e.symm
  have hloop := zdi (body := exec (T m) m a_44) (Eat l s) (fun _ => σ) l.length (atF l s) (stop := fun i => (.ret, { slots := [(4, ⟨false, .int .i64 i⟩)], locs := [], boxes := [], defers := [] }, σ)) (fun _ _ h => by cases h) (fun _ _ _ h => by cases h)
    (fun i hi hp => zdwb l s i hi hl (by rw [zcf hi] at hp; rw [hsym]; simpa using hp)) (fun i hi hp => zdxb l s i hi hl (by rw [zcf hi] at hp; rw [hsym]; simpa using hp)) (zgpb l s) m 0 (by omega) (by omega)
  simp only [Eat, zeroI] at hloop
  rcases hloop with ⟨i, _, hi, hp, hb, hrest⟩ | ⟨hp, hrest⟩
  · have hv : posI s l = i := by
      unfold posI
      rw [zh5 hi (fun k hk hki => by have := hb k (Nat.zero_le _) hki; rw [zcf hk] at this; simpa using this) (by rw [zcf hi] at hp; simpa using hp)]
    simp only [a_105, de0, de1, de2, szQ, szB, szL, sy0, sy1, sy2, sy3, sy4, sy5, zad, zaa, zac, zae, adel, zah, zag, zai, zaf, evalV, aget, aset, adel1, nth, AOp.kind, Nat.reduceAdd, Nat.reduceSub, Nat.reduceMul, Nat.reduceBEq, Nat.ble, bindO, Nat.reduceLeDiff, Int.reduceBEq, Int.reduceBNe, Int.reduceLE, Int.reduceLT, Int.reduceGE, Int.reduceGT, Int.reduceNeg, ks, dSs, hrest, hv]
  · have hv : posI s l = -1 := by
      unfold posI
      rw [zh4 fun k hk => by have := hp k (Nat.zero_le _) hk; rw [zcf hk] at this; simpa using this]
    simp only [a_105, de0, de1, de2, szQ, szB, szL, sy0, sy1, sy2, sy3, sy4, sy5, zad, zaa, zac, zae, adel, zah, zag, zai, zaf, evalV, aget, aset, adel1, nth, AOp.kind, Nat.reduceAdd, Nat.reduceSub, Nat.reduceMul, Nat.reduceBEq, Nat.ble, bindO, Nat.reduceLeDiff, Int.reduceBEq, Int.reduceBNe, Int.reduceLE, Int.reduceLT, Int.reduceGE, Int.reduceGT, Int.reduceNeg, ks, dSs, hrest, hv]
theorem zew (names : List (List UInt8)) (bys : List Tp) (hl : names.length < 1048576) (hb : bys.length = names.length) : ∀ t : Tp, Evly fun n => ∀ σ, T n n_52 [dT t, dSs names, dTs bys] σ = some (.ret ⟨false, dT (subT names bys t)⟩, σ)
  | .hole x => any _ fun m σ => by
    rw [T_fun (af := a_18) rfl rfl]
    simp only [a_18, de0, de1, de2, szQ, szB, szL, sy0, sy1, sy2, sy3, sy4, sy5, zad, zaa, zac, zae, adel, zah, zag, zai, zaf, evalV, aget, aset, adel1, nth, AOp.kind, Nat.reduceAdd, Nat.reduceSub, Nat.reduceMul, Nat.reduceBEq, Nat.ble, bindO, Nat.reduceLeDiff, Int.reduceBEq, Int.reduceBNe, Int.reduceLE, Int.reduceLT, Int.reduceGE, Int.reduceGT, Int.reduceNeg, ks, subT, dT]
  | .con s => any _ fun m σ => by
    rw [T_fun (af := a_18) rfl rfl]
    simp only [a_18, de0, de1, de2, szQ, szB, szL, sy0, sy1, sy2, sy3, sy4, sy5, zad, zaa, zac, zae, adel, zah, zag, zai, zaf, evalV, aget, aset, adel1, nth, AOp.kind, Nat.reduceAdd, Nat.reduceSub, Nat.reduceMul, Nat.reduceBEq, Nat.ble, bindO, Nat.reduceLeDiff, Int.reduceBEq, Int.reduceBNe, Int.reduceLE, Int.reduceLT, Int.reduceGE, Int.reduceGT, Int.reduceNeg, ks, subT, dT]
  | .app f a => ((zew names bys hl hb f).and ((zew names bys hl hb a).and zls)).step 0 fun m _ h σ => by
    have h1 := h.1 σ
    have h2 := h.2.1 σ
    have h3 := h.2.2 (subT names bys f) (subT names bys a) σ
    rw [T_fun (af := a_18) rfl rfl]
    simp only [subT, dT] at h3 ⊢
    rw [dT_eq f] at h1 ⊢
    rw [dT_eq a] at h2 ⊢
    rw [dT_eq (subT names bys f)] at h1 h3 ⊢
    rw [dT_eq (subT names bys a)] at h2 h3 ⊢
    simp only [cT] at h1 h2 h3 ⊢
    simp only [a_18, de0, de1, de2, szQ, szB, szL, sy0, sy1, sy2, sy3, sy4, sy5, zad, zaa, zac, zae, adel, zah, zag, zai, zaf, evalV, aget, aset, adel1, nth, AOp.kind, Nat.reduceAdd, Nat.reduceSub, Nat.reduceMul, Nat.reduceBEq, Nat.ble, bindO, Nat.reduceLeDiff, Int.reduceBEq, Int.reduceBNe, Int.reduceLE, Int.reduceLT, Int.reduceGE, Int.reduceGT, Int.reduceNeg, ks, h1, h2, h3]
  | .var s => by
    cases hp : posS s names with
    | none =>
      refine (zzf names s hl).step 0 fun m _ h σ => ?_
      have h2 := h σ
      simp only [posI, hp] at h2
      rw [T_fun (af := a_18) rfl rfl]
      simp only [a_18, de0, de1, de2, szQ, szB, szL, sy0, sy1, sy2, sy3, sy4, sy5, zad, zaa, zac, zae, adel, zah, zag, zai, zaf, evalV, aget, aset, adel1, nth, AOp.kind, Nat.reduceAdd, Nat.reduceSub, Nat.reduceMul, Nat.reduceBEq, Nat.ble, bindO, Nat.reduceLeDiff, Int.reduceBEq, Int.reduceBNe, Int.reduceLE, Int.reduceLT, Int.reduceGE, Int.reduceGT, Int.reduceNeg, ks, subT, dT, h2, hp]
    | some k =>
      have hk := zhd hp
      have hkb : k < bys.length := by omega
      refine (zzf names s hl).step 0 fun m _ h σ => ?_
      have h2 := h σ
      have h0 : (0 : Int) ≤ (k : Int) := by omega
      have hx := idx_T bys k hkb
      have hg : bys.getD k (.var s) = bys[k] := by simp [hkb]
      simp only [posI, hp] at h2
      rw [T_fun (af := a_18) rfl rfl]
      simp only [subT, hp, hg]
      rw [dT_eq bys[k]] at hx ⊢
      simp only [cT] at hx ⊢
      simp only [a_18, de0, de1, de2, szQ, szB, szL, sy0, sy1, sy2, sy3, sy4, sy5, zad, zaa, zac, zae, adel, zah, zag, zai, zaf, evalV, aget, aset, adel1, nth, AOp.kind, Nat.reduceAdd, Nat.reduceSub, Nat.reduceMul, Nat.reduceBEq, Nat.ble, bindO, Nat.reduceLeDiff, Int.reduceBEq, Int.reduceBNe, Int.reduceLE, Int.reduceLT, Int.reduceGE, Int.reduceGT, Int.reduceNeg, ks, subT, dTs, dT, h2, h0, hx]
end Go.Fu
namespace Go.Fu
open Go Go.Mx
set_option maxRecDepth 10000
def putP (names : List (List UInt8)) (bys : List Tp) (p : Pr) : Pr := ⟨p.cls, subT names bys p.ty⟩
section
variable {C : CallF} {n : Nat} {σ : Store}
theorem zyh (ps : List Pr) (names : List (List UInt8)) (bys : List Tp) (i : Nat) (h : i < ps.length) (hl : ps.length < 1048576) :
    zbe k_1 72 ⟨ow i, dlist k_1 (((ps.map (putP names bys)).take i).map dP)⟩ [dP (putP names bys ps[i])] = some ⟨true, dlist k_1 (((ps.map (putP names bys)).take (i + 1)).map dP)⟩ := by
  have h' : i < (ps.map (putP names bys)).length := by simpa using h
  have ha := zmy ((ps.map (putP names bys)).take i) (ps.map (putP names bys))[i] (ow i) ow_ne (by simp; omega)
  rw [za8 _ _ h'] at ha
  simpa using ha
def EPu (ps : List Pr) (names : List (List UInt8)) (bys : List Tp) (i : Nat) : Env := { slots := [(0, ⟨false, dlist k_1 (ps.map dP)⟩), (1, ⟨false, dSs names⟩), (2, ⟨false, dTs bys⟩), (7, ⟨ow i, dlist k_1 (((ps.map (putP names bys)).take i).map dP)⟩), (8, ⟨false, .int .i64 i⟩)], locs := [], boxes := [], defers := [] }
theorem zdob (ps : List Pr) (names : List (List UInt8)) (bys : List Tp) (i : Nat) (h : i < ps.length) (hl : ps.length < 1048576)
    (hc : C n_52 [dT ps[i].ty, dSs names, dTs bys] σ = some (.ret ⟨false, dT (subT names bys ps[i].ty)⟩, σ)) : exec C n a_76 (EPu ps names bys i) σ = some (.normal, EPu ps names bys (i + 1), σ) := by
  have hi : ((i : Int) < (ps.length : Int)) := by omega
  have hx := idx_P ps i h
  have ha := zyh ps names bys i h hl
  rw [dT_eq, dT_eq] at hc
  simp only [putP, dP, cT] at hc hx ha
  simp only [a_76, EPu, putP, de0, de1, de2, szQ, szB, szL, sy0, sy1, sy2, sy3, sy4, sy5, zad, zaa, zac, zae, adel, zah, zag, zai, zaf, evalV, aget, aset, adel1, nth, AOp.kind, Nat.reduceAdd, Nat.reduceSub, Nat.reduceMul, Nat.reduceBEq, Nat.ble, bindO, Nat.reduceLeDiff, Int.reduceBEq, Int.reduceBNe, Int.reduceLE, Int.reduceLT, Int.reduceGE, Int.reduceGT, Int.reduceNeg, ks, Mx.part, List.drop_succ_cons, List.drop_zero, List.take_succ_cons, List.take_zero, List.getElem?_cons_zero, List.getElem?_cons_succ, List.length_map, hi, hx, hc, ha, zam (i := i) (by omega), zcc]
theorem zggb (ps : List Pr) (names : List (List UInt8)) (bys : List Tp) : exec C n a_76 (EPu ps names bys ps.length) σ = some (.exit 0, { EPu ps names bys ps.length with slots := [(0, ⟨false, dlist k_1 (ps.map dP)⟩), (1, ⟨false, dSs names⟩), (2, ⟨false, dTs bys⟩), (7, ⟨ow ps.length, dlist k_1 ((ps.map (putP names bys)).map dP)⟩), (8, ⟨false, .int .i64 ps.length⟩), (12, ⟨false, .bool false⟩)] }, σ) := by
  have hi : ¬ ((ps.length : Int) < (ps.length : Int)) := by omega
  have ht : (ps.map (putP names bys)).take ps.length = ps.map (putP names bys) := List.take_of_length_le (by simp)
  simp only [a_76, EPu, de0, de1, de2, szQ, szB, szL, sy0, sy1, sy2, sy3, sy4, sy5, zad, zaa, zac, zae, adel, zah, zag, zai, zaf, evalV, aget, aset, adel1, nth, AOp.kind, Nat.reduceAdd, Nat.reduceSub, Nat.reduceMul, Nat.reduceBEq, Nat.ble, bindO, Nat.reduceLeDiff, Int.reduceBEq, Int.reduceBNe, Int.reduceLE, Int.reduceLT, Int.reduceGE, Int.reduceGT, Int.reduceNeg, ks, List.length_map, hi, ht]
end
theorem zv4 (ps : List Pr) (names : List (List UInt8)) (bys : List Tp) (hp : ps.length < 1048576) (hl : names.length < 1048576) (hb : bys.length = names.length) :
    Evly fun n => ∀ σ, T n n_182 [dPs ps, dSs names, dTs bys] σ = some (.ret ⟨ow ps.length, dPs (ps.map (putP names bys))⟩, σ) := by
  have hk : Evly fun n => ∀ i, i < ps.length → ∀ (h : i < ps.length) σ, T n n_52 [dT ps[i].ty, dSs names, dTs bys] σ = some (.ret ⟨false, dT (subT names bys ps[i].ty)⟩, σ) :=
    Evly.below _ fun i hi => (zew names bys hl hb ps[i].ty).mono fun n h _ σ => h σ
  refine hk.step (ps.length + 2) fun m hm hrun σ => ?_
  rw [T_fun (af := a_137) rfl rfl]
  have hloop := zbr (body := exec (T m) m a_76) (EPu ps names bys) (fun _ => σ) ps.length (r := _) (fun _ _ h => by cases h) (fun i hi => zdob ps names bys i hi hp (hrun i hi hi σ)) (zggb ps names bys) 0 m (by omega) (by omega)
  simp only [EPu, zeroI, List.take_zero, List.map_nil, zcv, zcp] at hloop
  simp only [a_137, de0, de1, de2, szQ, szB, szL, sy0, sy1, sy2, sy3, sy4, sy5, zad, zaa, zac, zae, adel, zah, zag, zai, zaf, evalV, aget, aset, adel1, nth, AOp.kind, Nat.reduceAdd, Nat.reduceSub, Nat.reduceMul, Nat.reduceBEq, Nat.ble, bindO, Nat.reduceLeDiff, Int.reduceBEq, Int.reduceBNe, Int.reduceLE, Int.reduceLT, Int.reduceGE, Int.reduceGT, Int.reduceNeg, ks, dPs, hloop]
end Go.Fu
