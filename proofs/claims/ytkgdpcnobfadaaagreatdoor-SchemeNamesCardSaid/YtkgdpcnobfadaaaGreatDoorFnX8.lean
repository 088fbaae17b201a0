/-
  Predicates with types in the place of names, laid as an array.
-/
import Derived.Test.YtkgdpcnobfadaaaGreatDoorFnD2
set_option linter.unusedSimpArgs false
set_option linter.unusedVariables false
namespace Go.Fu
open Go Go.Mx
set_option maxRecDepth 10000
def ArrK (k : RowK) (σ0 σ : Store) (r : D) (ds : List D) : Prop := Ext σ0 σ ∧ ((ds = [] ∧ r = .nils) ∨ ∃ id, r = .arr k id 0 ds.length ∧ aget σ.objs id = some (cellsOf ds) ∧ aget σ.tys id = some ⟨k.el, k.sz⟩ ∧ σ0.next ≤ id ∧ id < σ.next ∧ ds ≠ [])
theorem ArrK.len {k : RowK} {σ0 σ : Store} {r : D} {ds : List D} (h : ArrK k σ0 σ r ds) : lenOf r = some ds.length := by
  rcases h.2 with ⟨rfl, rfl⟩ | ⟨id, rfl, _⟩ <;> rfl
theorem apK {k : RowK} {σ0 σ : Store} {r y : D} {ds : List D} (by_ : Nat) (h : ArrK k σ0 σ r ds) (hs : ∀ d ∈ ds, d.cells.length = k.sz) (hk : y.ok = true) (hy : y.cells.length = k.sz) (hb : (ds.length + 1) * by_ ≤ bound) (hb2 : ds.length + 1 ≤ bound) :
    ∃ r' σ', zb9 σ k by_ r [y] = some (r', σ') ∧ ArrK k σ0 σ' r' (ds ++ [y]) := by
  rcases h.2 with ⟨rfl, rfl⟩ | ⟨id, rfl, h1, h2, h3, h4, h5⟩
  · refine ⟨_, _, zq4 hk hy (by simpa using hb), h.1.trans (zey h.1.wf (cellsOf [y]) _ 2 (by omega)), .inr ⟨σ.next, ?_, ?_, ?_, h.1.next, ?_, by simp⟩⟩
    · simp
    · simp [aget, ifB]
    · simp [aget, ifB]
    · simp only; omega
  · refine ⟨_, _, zq3 (os := adel1 σ.objs id) h1 h2 rfl hs hk hy hb hb2, ?_, .inr ⟨σ.next, ?_, ?_, ?_, h.1.next, ?_, by simp⟩⟩
    · have hd : Ext σ0 { objs := adel1 σ.objs id, tys := σ.tys, oth := σ.oth, next := σ.next } := by
        refine ⟨⟨fun p hp => h.1.wf.objs p (zdq _ _ _ hp), h.1.wf.tys, h.1.wf.oth⟩, h.1.next, fun i hi => ?_, h.1.tys, h.1.oth⟩
        rw [← h.1.objs i hi]
        exact zar _ _ _ (by omega)
      exact hd.trans (zey hd.wf (cellsOf (ds ++ [y])) _ 2 (by omega))
    · simp
    · simp [aget, ifB]
    · simp [aget, ifB]
    · simp only; omega
section
variable {C : CallF} {n : Nat}
def EPt (vs : List (List UInt8)) (ps : List Pr) (t : Tp) (names : List (List UInt8)) (bys : List Tp) (r : D) (i : Nat) : Env := { slots := [(1, ⟨false, dSs names⟩), (2, ⟨false, dTs bys⟩), (8, ⟨false, r⟩), (12, ⟨false, dPs ps⟩), (13, ⟨false, .int .i64 ps.length⟩), (14, ⟨false, .int .i64 i⟩)], locs := [(3, 3, 0), (7, 7, 0)], boxes := [(3, scO vs ps t), (7, [⟨false, .int .i64 0⟩, ⟨false, .int .i64 0⟩, ⟨false, .str []⟩, ⟨false, .nils⟩])], defers := [] }
theorem zdnb (vs : List (List UInt8)) (ps : List Pr) (t : Tp) (names : List (List UInt8)) (bys : List Tp) (σ0 : Store) (hp : ps.length < 1000)
    (hf : ∀ i, ∀ h : i < ps.length, ∀ σ, C n_55 [dT ps[i].ty, dSs names, dTs bys] σ = some (.ret ⟨false, dT (subT names bys ps[i].ty)⟩, σ)) :
    ∀ (i : Nat) (e : Env) (σ : Store), i < ps.length → (∃ r, e = EPt vs ps t names bys r i ∧ ArrK k_1 σ0 σ r (((ps.map (putP names bys)).take i).map dP)) → ∃ e' σ', exec C n a_85 e σ = some (.normal, e', σ') ∧ ∃ r, e' = EPt vs ps t names bys r (i + 1) ∧ ArrK k_1 σ0 σ' r (((ps.map (putP names bys)).take (i + 1)).map dP) := by
  rintro i e σ hi ⟨r, rfl, hr⟩
  have h1 := hf i hi σ
  have hlen : (((ps.map (putP names bys)).take i).map dP).length = i := by simp; omega
  obtain ⟨r', σ', h2, hr'⟩ := apK 72 (y := dP (putP names bys ps[i])) hr (fun d hd => by obtain ⟨x, _, rfl⟩ := List.mem_map.1 hd; exact zjp _) (ok_dP _) (zjp _) (by rw [hlen]; show (i + 1) * 72 ≤ 1099511627776; omega) (by rw [hlen]; show i + 1 ≤ 1099511627776; omega)
  have hq : ((ps.map (putP names bys)).take i).map dP ++ [dP (putP names bys ps[i])] = ((ps.map (putP names bys)).take (i + 1)).map dP := by
    have := za8 (ps.map (putP names bys)) i (by simpa using hi)
    rw [← this]
    simp
  rw [hq] at hr'
  refine ⟨EPt vs ps t names bys r' (i + 1), σ', ?_, r', rfl, hr'⟩
  have hx : zav 5 (dPs ps) i = some (.eptr (dP ps[i])) := idx_P ps i hi
  have hii : ((i : Int) < (ps.length : Int)) := by omega
  have w1 := zam (i := i) (by omega)
  rw [dT_eq, dT_eq] at h1
  simp only [cT] at h1
  simp only [dP, cT] at hx
  simp only [dP, cT, putP] at h2
  simp only [a_85, EPt, scO, bT, de0, de1, de2, szQ, szB, szL, sy0, sy1, sy2, sy3, sy4, sy5, zad, zaa, zac, zae, adel, zah, zag, zai, zaf, evalV, aget, aset, adel1, nth, AOp.kind, Nat.reduceAdd, Nat.reduceSub, Nat.reduceMul, Nat.reduceBEq, Nat.ble, bindO, Nat.reduceLeDiff, Int.reduceBEq, Int.reduceBNe, Int.reduceLE, Int.reduceLT, Int.reduceGE, Int.reduceGT, Int.reduceNeg, ks, lz, memE, memOp, Mx.part, zih, hx, hii, h1, h2, w1]
theorem zgfb (vs : List (List UInt8)) (ps : List Pr) (t : Tp) (names : List (List UInt8)) (bys : List Tp) (r : D) (σ : Store) : exec C n a_85 (EPt vs ps t names bys r ps.length) σ = some (.exit 0, { EPt vs ps t names bys r ps.length with slots := [(1, ⟨false, dSs names⟩), (2, ⟨false, dTs bys⟩), (8, ⟨false, r⟩), (12, ⟨false, dPs ps⟩), (13, ⟨false, .int .i64 ps.length⟩), (14, ⟨false, .int .i64 ps.length⟩), (15, ⟨false, .bool false⟩)] }, σ) := by
  have hi : ¬ ((ps.length : Int) < (ps.length : Int)) := by omega
  simp only [a_85, EPt, de0, de1, de2, szQ, szB, szL, sy0, sy1, sy2, sy3, sy4, sy5, zad, zaa, zac, zae, adel, zah, zag, zai, zaf, evalV, aget, aset, adel1, nth, AOp.kind, Nat.reduceAdd, Nat.reduceSub, Nat.reduceMul, Nat.reduceBEq, Nat.ble, bindO, Nat.reduceLeDiff, Int.reduceBEq, Int.reduceBNe, Int.reduceLE, Int.reduceLT, Int.reduceGE, Int.reduceGT, Int.reduceNeg, ks, hi]
end
theorem zeub (vs : List (List UInt8)) (ps : List Pr) (t : Tp) (names : List (List UInt8)) (bys : List Tp) (hp : ps.length < 1000) (hl : names.length < 1048576) (hb : bys.length = names.length) :
    Evly fun n => ∀ σ, WF σ → ∃ r σ', T n n_207 [scD vs ps t, dSs names, dTs bys] σ = some (.ret ⟨false, .tup [r, dT (subT names bys t)]⟩, σ') ∧ ArrK k_1 σ σ' r ((ps.map (putP names bys)).map dP) := by
  have hk : Evly fun n => ∀ i, i < ps.length → ∀ (h : i < ps.length) σ, T n n_55 [dT ps[i].ty, dSs names, dTs bys] σ = some (.ret ⟨false, dT (subT names bys ps[i].ty)⟩, σ) :=
    Evly.below _ fun i hi => (zh9 names bys hl hb ps[i].ty).mono fun n h _ σ => h σ
  refine (hk.and (zh9 names bys hl hb t)).step (ps.length + 4) fun m hm h σ hw => ?_
  obtain ⟨⟨x, e, σ3⟩, hloop, hx1, r, hx2, hr⟩ := zbw (body := exec (T m) m a_85) (fun i e σ' => ∃ r, e = EPt vs ps t names bys r i ∧ ArrK k_1 σ σ' r (((ps.map (putP names bys)).take i).map dP))
    (fun x => x.1 = .exit 0 ∧ ∃ r, x.2.1 = { EPt vs ps t names bys r ps.length with slots := [(1, ⟨false, dSs names⟩), (2, ⟨false, dTs bys⟩), (8, ⟨false, r⟩), (12, ⟨false, dPs ps⟩), (13, ⟨false, .int .i64 ps.length⟩), (14, ⟨false, .int .i64 ps.length⟩), (15, ⟨false, .bool false⟩)] } ∧ ArrK k_1 σ x.2.2 r ((ps.map (putP names bys)).map dP)) ps.length
    (zdnb vs ps t names bys σ hp (fun i hi σ => h.1 i hi hi σ))
    (fun e σ' hp => by
      obtain ⟨r, rfl, hr⟩ := hp
      have ht : (ps.map (putP names bys)).take ps.length = ps.map (putP names bys) := List.take_of_length_le (by simp)
      rw [ht] at hr
      exact ⟨_, zgfb vs ps t names bys r σ', fun _ _ h => (by cases h), rfl, r, rfl, hr⟩) 0 m (EPt vs ps t names bys .nils 0) σ (by omega) (by omega) ⟨.nils, rfl, Ext.refl hw, .inl ⟨rfl, rfl⟩⟩
  simp only at hx1 hx2 hr
  subst hx1 hx2
  refine ⟨r, σ3, ?_, hr⟩
  have h2 := h.2 σ3
  have hlp : lenOf (dPs ps) = some ps.length := by simp only [dPs, zax, List.length_map]
  rw [dT_eq, dT_eq (subT names bys t)] at h2
  rw [dT_eq (subT names bys t)]
  simp only [EPt, scO, bT, zeroI] at hloop
  simp only [cT] at h2 ⊢
  have hok : (dPs ps).ok = true := zhr
  have hon : (dPs ps).one = true := zdr
  rw [T_fun (af := a_149) rfl rfl]
  simp only [a_149, scD, cT, de0, de1, de2, szQ, szB, szL, sy0, sy1, sy2, sy3, sy4, sy5, zad, zaa, zac, zae, adel, zah, zag, zai, zaf, evalV, aget, aset, adel1, nth, AOp.kind, Nat.reduceAdd, Nat.reduceSub, Nat.reduceMul, Nat.reduceBEq, Nat.ble, bindO, Nat.reduceLeDiff, Int.reduceBEq, Int.reduceBNe, Int.reduceLE, Int.reduceLT, Int.reduceGE, Int.reduceGT, Int.reduceNeg, ks, lz, memE, memOp, hlp, hloop, h2]
end Go.Fu
namespace Go.Fu
open Go Go.Mx
set_option maxRecDepth 10000
theorem zlg (l : List (List UInt8)) : (dSs l).ok = true := zhr
theorem zgb (l : List (List UInt8)) : (dSs l).cells = [dSs l] := zf4
theorem zhb (l : List (List UInt8)) : (dSs l).one = true := zdr
theorem zce {α : Type} (l : List (Nat × α)) (i : Nat) (x : α) : aget (aset l i x) i = some x := by rw [zao, if_pos rfl]
theorem zhy {α : Type} : ∀ (l : List (Nat × α)) (i : Nat) (x y : α), aset (aset l i x) i y = aset l i y
  | [], i, x, y => by simp [aset, ifB]
  | (k, v) :: l, i, x, y => by
    have ih := zhy l i x y
    simp only [aset]
    cases h1 : k == i with
    | true => simp only [zae, aset, h1]
    | false =>
      simp only [zac]
      cases h2 : Nat.ble i k with
      | true => simp only [zae, aset, beq_self_eq_true]
      | false => simp only [zac, aset, h1, h2, ih]
structure ExtB (id : Nat) (σ σ' : Store) : Prop where
  wf : WF σ'
  next : σ.next ≤ σ'.next
  objs : ∀ i, i < σ.next → i ≠ id → aget σ'.objs i = aget σ.objs i
  tys : ∀ i, i < σ.next → aget σ'.tys i = aget σ.tys i
  oth : σ'.oth = σ.oth
theorem Ext.toB {σ σ' : Store} (h : Ext σ σ') (id : Nat) : ExtB id σ σ' := ⟨h.wf, h.next, fun i hi _ => h.objs i hi, h.tys, h.oth⟩
theorem ExtB.trans {id : Nat} {a b c : Store} (h : ExtB id a b) (h' : ExtB id b c) : ExtB id a c :=
  ⟨h'.wf, Nat.le_trans h.next h'.next, fun i hi hn => (h'.objs i (Nat.lt_of_lt_of_le hi h.next) hn).trans (h.objs i hi hn), fun i hi => (h'.tys i (Nat.lt_of_lt_of_le hi h.next)).trans (h.tys i hi), h'.oth.trans h.oth⟩
theorem zm3 {σ : Store} (h : WF σ) (id : Nat) (cs : List Cell) (hi : id < σ.next) : ExtB id σ (setO σ id cs) :=
  ⟨zlr h id cs hi, Nat.le_refl _, fun i _ hn => by rw [zbv, if_neg hn], fun _ _ => rfl, rfl⟩
theorem znx {id : Nat} {σ σ' : Store} (hw : WF σ) (h : ExtB id σ σ') : ExtB id σ (σ'.trunc σ.next) := by
  refine ⟨⟨fun p hp => ?_, fun p hp => ?_, fun p hp => ?_⟩, h.next, fun i hi hn => ?_, fun i hi => ?_, ?_⟩
  · exact h.wf.objs p (List.mem_filter.1 hp).1
  · exact h.wf.tys p (List.mem_filter.1 hp).1
  · exact h.wf.oth p (List.mem_filter.1 hp).1
  · exact (zbq _ _ _ hi).trans (h.objs i hi hn)
  · exact (zbq _ _ _ hi).trans (h.tys i hi)
  · show (σ'.oth.filter fun p => decide (p.1 < σ.next)) = σ.oth
    rw [h.oth]
    exact zpw _ _ hw.oth
def meetL (vs ns l : List (List UInt8)) : List (List UInt8) := l.foldl (fun o s => if vs.contains s && !(o.contains s) then o ++ [s] else o) ns
theorem zgf (vs : List (List UInt8)) : ∀ (l ns : List (List UInt8)), (meetL vs ns l).length ≤ ns.length + l.length
  | [], ns => Nat.le_refl _
  | s :: l, ns => by
    have := zgf vs l (if vs.contains s && !(ns.contains s) then ns ++ [s] else ns)
    show (meetL vs (if vs.contains s && !(ns.contains s) then ns ++ [s] else ns) l).length ≤ _
    split at this
    · rename_i h; rw [if_pos h]; simp only [List.length_append, List.length_cons, List.length_nil] at this ⊢; omega
    · rename_i h; rw [if_neg h]; simp only [List.length_cons]; omega
theorem zx3 (vs ns l : List (List UInt8)) (j : Nat) (h : j < l.length) : meetL vs ns (l.take (j + 1)) = if vs.contains l[j] && !((meetL vs ns (l.take j)).contains l[j]) then meetL vs ns (l.take j) ++ [l[j]] else meetL vs ns (l.take j) := by
  rw [← za8 l j h]
  unfold meetL
  rw [List.foldl_append]
  rfl
def leO (vs : List (List UInt8)) (tk : D) (ns : List (List UInt8)) (k : Int) : List Cell := [⟨false, dSs vs⟩, ⟨false, tk⟩, ⟨ow ns.length, dSs ns⟩, ⟨false, .int .i64 k⟩]
section
variable {C : CallF} {n : Nat}
def EMe (lid : Nat) (L : List (List UInt8)) (j : Nat) : Env := { slots := [(0, ⟨false, .ptr lid 0⟩), (7, ⟨false, dSs L⟩), (8, ⟨false, .int .i64 L.length⟩), (9, ⟨false, .int .i64 j⟩)], locs := [], boxes := [], defers := [] }
theorem zdfb (lid : Nat) (vs ns L : List (List UInt8)) (tk : D) (k : Int) (σ0 : Store) (hlid : lid < σ0.next) (hlen : ns.length + L.length < 1000000)
    (hc : ∀ j, ∀ h : j < L.length, ∀ σ, C n_10 [dSs vs, .str L[j]] σ = some (.ret ⟨false, .bool (vs.contains L[j])⟩, σ) ∧ C n_10 [dSs (meetL vs ns (L.take j)), .str L[j]] σ = some (.ret ⟨false, .bool ((meetL vs ns (L.take j)).contains L[j])⟩, σ)) :
    ∀ (j : Nat) (e : Env) (σ : Store), j < L.length → (e = EMe lid L j ∧ ExtB lid σ0 σ ∧ aget σ.objs lid = some (leO vs tk (meetL vs ns (L.take j)) k)) → ∃ e' σ', exec C n a_47 e σ = some (.normal, e', σ') ∧ (e' = EMe lid L (j + 1) ∧ ExtB lid σ0 σ' ∧ aget σ'.objs lid = some (leO vs tk (meetL vs ns (L.take (j + 1))) k)) := by
  rintro j e σ hj ⟨rfl, hx, ho⟩
  obtain ⟨h1, h2⟩ := hc j hj σ
  have hll := zgf vs (L.take j) ns
  have htl : (L.take j).length = j := by simp; omega
  rw [zx3 vs ns L j hj]
  have hi : ((j : Int) < (L.length : Int)) := by omega
  have hix : zav 1 (dSs L) j = some (.eptr (.str L[j])) := idx_S L j hj
  have w1 := zam (i := j) (by omega)
  generalize meetL vs ns (L.take j) = M at *
  cases hv : vs.contains L[j] with
  | false =>
    rw [hv] at h1
    refine ⟨EMe lid L (j + 1), σ, ?_, rfl, hx, by simpa using ho⟩
    simp only [leO] at ho
    simp only [a_47, EMe, de0, de1, de2, szQ, szB, szL, sy0, sy1, sy2, sy3, sy4, sy5, zad, zaa, zac, zae, adel, zah, zag, zai, zaf, evalV, aget, aset, adel1, nth, AOp.kind, Nat.reduceAdd, Nat.reduceSub, Nat.reduceMul, Nat.reduceBEq, Nat.ble, bindO, Nat.reduceLeDiff, Int.reduceBEq, Int.reduceBNe, Int.reduceLE, Int.reduceLT, Int.reduceGE, Int.reduceGT, Int.reduceNeg, ks, lz, memE, memOp, hi, hix, ho, h1, w1]
  | true =>
    rw [hv] at h1
    cases hm : M.contains L[j] with
    | true =>
      rw [hm] at h2
      refine ⟨EMe lid L (j + 1), σ, ?_, rfl, hx, by simpa using ho⟩
      simp only [leO] at ho
      simp only [a_47, EMe, de0, de1, de2, szQ, szB, szL, sy0, sy1, sy2, sy3, sy4, sy5, zad, zaa, zac, zae, adel, zah, zag, zai, zaf, evalV, aget, aset, adel1, nth, AOp.kind, Nat.reduceAdd, Nat.reduceSub, Nat.reduceMul, Nat.reduceBEq, Nat.ble, bindO, Nat.reduceLeDiff, Int.reduceBEq, Int.reduceBNe, Int.reduceLE, Int.reduceLT, Int.reduceGE, Int.reduceGT, Int.reduceNeg, ks, lz, memE, memOp, hi, hix, ho, h1, h2, w1]
    | false =>
      rw [hm] at h2
      have hap : zbe k_0 16 ⟨ow M.length, dSs M⟩ [.str L[j]] = some ⟨true, dSs (M ++ [L[j]])⟩ := zfo M L[j] (ow M.length) (by cases M with
        | nil => intro h; exact absurd rfl h
        | cons x r => intro _; rfl) (by omega)
      have how : ow (M ++ [L[j]]).length = true := by simp [zcc]
      refine ⟨EMe lid L (j + 1), setO σ lid (leO vs tk (M ++ [L[j]]) k), ?_, rfl, hx.trans (zm3 hx.wf lid _ (Nat.lt_of_lt_of_le hlid hx.next)), ?_⟩
      · simp only [leO] at ho
        simp only [a_47, EMe, de0, de1, de2, szQ, szB, szL, sy0, sy1, sy2, sy3, sy4, sy5, zad, zaa, zac, zae, adel, zah, zag, zai, zaf, evalV, aget, aset, adel1, nth, AOp.kind, Nat.reduceAdd, Nat.reduceSub, Nat.reduceMul, Nat.reduceBEq, Nat.ble, bindO, Nat.reduceLeDiff, Int.reduceBEq, Int.reduceBNe, Int.reduceLE, Int.reduceLT, Int.reduceGE, Int.reduceGT, Int.reduceNeg, ks, lz, memE, memOp, hi, hix, ho, h1, h2, hap, w1, zce, zhy, zlg, zgb, zhb, setO, leO, how]
      · rw [zbv, if_pos rfl]
        simp
theorem zf9b (lid : Nat) (L : List (List UInt8)) (σ : Store) : exec C n a_47 (EMe lid L L.length) σ = some (.exit 0, { EMe lid L L.length with slots := [(0, ⟨false, .ptr lid 0⟩), (7, ⟨false, dSs L⟩), (8, ⟨false, .int .i64 L.length⟩), (9, ⟨false, .int .i64 L.length⟩), (10, ⟨false, .bool false⟩)] }, σ) := by
  have hi : ¬ ((L.length : Int) < (L.length : Int)) := by omega
  simp only [a_47, EMe, de0, de1, de2, szQ, szB, szL, sy0, sy1, sy2, sy3, sy4, sy5, zad, zaa, zac, zae, adel, zah, zag, zai, zaf, evalV, aget, aset, adel1, nth, AOp.kind, Nat.reduceAdd, Nat.reduceSub, Nat.reduceMul, Nat.reduceBEq, Nat.ble, bindO, Nat.reduceLeDiff, Int.reduceBEq, Int.reduceBNe, Int.reduceLE, Int.reduceLT, Int.reduceGE, Int.reduceGT, Int.reduceNeg, ks, hi]
end
theorem zr4 (vs ns : List (List UInt8)) (t : Tp) (hv : vs.length < 1000000) (hns : ns.length < 100000) (hn : nT t < 100000) : Evly fun n => ∀ σ lid tk k, WF σ → lid < σ.next → aget σ.objs lid = some (leO vs tk ns k) →
    ∃ σ', T n n_114 [.ptr lid 0, dT t] σ = some (.ret ⟨false, .tup []⟩, σ') ∧ ExtB lid σ σ' ∧ aget σ'.objs lid = some (leO vs tk (meetL vs ns (freeT t)) k) := by
  have hfl := zcl t
  have hc : Evly fun n => ∀ j, j < (freeT t).length → ∀ h : j < (freeT t).length, ∀ σ, T n n_10 [dSs vs, .str (freeT t)[j]] σ = some (.ret ⟨false, .bool (vs.contains (freeT t)[j])⟩, σ) ∧ T n n_10 [dSs (meetL vs ns ((freeT t).take j)), .str (freeT t)[j]] σ = some (.ret ⟨false, .bool ((meetL vs ns ((freeT t).take j)).contains (freeT t)[j])⟩, σ) :=
    Evly.below _ fun j hj => ((zly vs (freeT t)[j] (by omega)).and (zly (meetL vs ns ((freeT t).take j)) (freeT t)[j] (by
      have := zgf vs ((freeT t).take j) ns
      simp only [List.length_take] at this
      omega))).mono fun n h _ σ => ⟨h.1 σ, h.2 σ⟩
  refine ((zhn t hn).and hc).step ((freeT t).length + 4) fun m hm h σ lid tk k hw hlid ho => ?_
  obtain ⟨q, σ1, h1, hq⟩ := h.1 σ hw
  obtain ⟨σ2, hz, hx⟩ := zjz hq 7 { slots := [(0, ⟨false, .ptr lid 0⟩), (7, ⟨false, q⟩), (8, ⟨false, .int .i64 (freeT t).length⟩), (9, ⟨false, .int .i64 0⟩)], locs := [], boxes := [], defers := [] } rfl
  have ho2 : aget σ2.objs lid = some (leO vs tk (meetL vs ns ((freeT t).take 0)) k) := (hx.objs lid hlid).trans ho
  obtain ⟨⟨x, e, σ3⟩, hloop, hx1, hx2, hx3, ho3⟩ := zbw (body := exec (T m) m a_47) (fun j e σ' => e = EMe lid (freeT t) j ∧ ExtB lid σ σ' ∧ aget σ'.objs lid = some (leO vs tk (meetL vs ns ((freeT t).take j)) k))
    (fun x => x.1 = .exit 0 ∧ x.2.1 = { EMe lid (freeT t) (freeT t).length with slots := [(0, ⟨false, .ptr lid 0⟩), (7, ⟨false, dSs (freeT t)⟩), (8, ⟨false, .int .i64 (freeT t).length⟩), (9, ⟨false, .int .i64 (freeT t).length⟩), (10, ⟨false, .bool false⟩)] } ∧ ExtB lid σ x.2.2 ∧ aget x.2.2.objs lid = some (leO vs tk (meetL vs ns (freeT t)) k)) (freeT t).length
    (zdfb lid vs ns (freeT t) tk k σ hlid (by omega) (fun j hj σ => h.2 j hj hj σ))
    (fun e σ' h => by
      obtain ⟨rfl, hx, ho⟩ := h
      rw [List.take_length] at ho
      exact ⟨_, zf9b lid (freeT t) σ', fun _ _ h => (by cases h), rfl, rfl, hx, ho⟩) 0 m (EMe lid (freeT t) 0) σ2 (by omega) (by omega) ⟨rfl, hx.toB lid, ho2⟩
  simp only at hx1 hx2 hx3 ho3
  subst hx1 hx2
  refine ⟨σ3.trunc σ.next, ?_, znx hw hx3, (zbq _ _ _ hlid).trans ho3⟩
  have hlen := hq.len
  rw [dT_eq t] at h1 ⊢
  simp only [aset, de0, de1, de2, szQ, szB, szL, sy0, sy1, sy2, sy3, sy4, sy5, zad, zaa, zac, zae, adel, zah, zag, zai, zaf, evalV, aget, aset, adel1, nth, AOp.kind, Nat.reduceAdd, Nat.reduceSub, Nat.reduceMul, Nat.reduceBEq, Nat.ble, bindO, Nat.reduceLeDiff, Int.reduceBEq, Int.reduceBNe, Int.reduceLE, Int.reduceLT, Int.reduceGE, Int.reduceGT, Int.reduceNeg] at hz
  simp only [EMe, zeroI] at hloop
  rw [T_fun (af := a_146) rfl rfl]
  simp only [cT] at h1 ⊢
  simp only [a_146, de0, de1, de2, szQ, szB, szL, sy0, sy1, sy2, sy3, sy4, sy5, zad, zaa, zac, zae, adel, zah, zag, zai, zaf, evalV, aget, aset, adel1, nth, AOp.kind, Nat.reduceAdd, Nat.reduceSub, Nat.reduceMul, Nat.reduceBEq, Nat.ble, bindO, Nat.reduceLeDiff, Int.reduceBEq, Int.reduceBNe, Int.reduceLE, Int.reduceLT, Int.reduceGE, Int.reduceGT, Int.reduceNeg, ks, lz, memE, memOp, h1, hlen, zfr, hz, hloop]
end Go.Fu
