/-
  A scheme's canonic form, run: its loops.
-/
import Derived.Test.YtkgdpcnobfadaaaGreatDoorFnX10
import Derived.Test.YtkgdpcnobfadaaaGreatDoorFnD2
set_option linter.unusedSimpArgs false
set_option linter.unusedVariables false
namespace Go.Fu
open Go Go.Mx
set_option maxRecDepth 10000
theorem ze8b {l : List (List UInt8)} {d : D} (h : ListD l d) : d.one = true ∧ d.ok = true ∧ d.cells = [d] := by
  rcases h with rfl | ⟨_, rfl⟩
  · exact ⟨zhb l, zlg l, zgb l⟩
  · exact ⟨rfl, rfl, rfl⟩
def zS : List Cell := [⟨false, .nils⟩, ⟨false, .nils⟩, ⟨false, .nils⟩, ⟨false, .int .i64 0⟩, ⟨false, .int .i64 0⟩, ⟨false, .str []⟩, ⟨false, .nils⟩]
def nmI (vs : List (List UInt8)) (t : Tp) (ps : List Pr) : List (List UInt8) := ps.foldl (fun ns p => meetL vs ns (freeT p.ty)) (meetL vs [] (freeT t))
theorem zehb (vs : List (List UInt8)) (t : Tp) (ps : List Pr) (i : Nat) (h : i < ps.length) : nmI vs t (ps.take (i + 1)) = meetL vs (nmI vs t (ps.take i)) (freeT ps[i].ty) := by
  rw [← za8 ps i h]
  unfold nmI
  rw [List.foldl_append]
  rfl
section
variable {C : CallF} {n : Nat}
def EK0 (lid : Nat) (vs : List (List UInt8)) (ps : List Pr) (t : Tp) (i : Nat) : Env := { slots := [(3, ⟨false, .ptr lid 0⟩), (21, ⟨false, dPs ps⟩), (22, ⟨false, .int .i64 ps.length⟩), (23, ⟨false, .int .i64 i⟩)], locs := [(1, 1, 0), (2, 2, 0)], boxes := [(1, scO vs ps t), (2, zS)], defers := [] }
theorem zdcb (lid : Nat) (vs : List (List UInt8)) (ps : List Pr) (t : Tp) (i : Nat) (σ σ' : Store) (hi : i < ps.length) (hp : ps.length < 1000) (hc : C n_114 [.ptr lid 0, dT ps[i].ty] σ = some (.ret ⟨false, .tup []⟩, σ')) :
    exec C n a_80 (EK0 lid vs ps t i) σ = some (.normal, EK0 lid vs ps t (i + 1), σ') := by
  have hx : zav 5 (dPs ps) i = some (.eptr (dP ps[i])) := idx_P ps i hi
  have hii : ((i : Int) < (ps.length : Int)) := by omega
  have w1 := zam (i := i) (by omega)
  rw [dT_eq] at hc
  simp only [cT] at hc
  simp only [dP, cT] at hx
  simp only [a_80, EK0, scO, bT, zS, de0, de1, de2, szQ, szB, szL, sy0, sy1, sy2, sy3, sy4, sy5, zad, zaa, zac, zae, adel, zah, zag, zai, zaf, evalV, aget, aset, adel1, nth, AOp.kind, Nat.reduceAdd, Nat.reduceSub, Nat.reduceMul, Nat.reduceBEq, Nat.ble, bindO, Nat.reduceLeDiff, Int.reduceBEq, Int.reduceBNe, Int.reduceLE, Int.reduceLT, Int.reduceGE, Int.reduceGT, Int.reduceNeg, ks, lz, memE, memOp, Mx.part, hx, hii, hc, w1]
theorem zf6b (lid : Nat) (vs : List (List UInt8)) (ps : List Pr) (t : Tp) (σ : Store) : exec C n a_80 (EK0 lid vs ps t ps.length) σ = some (.exit 0, { EK0 lid vs ps t ps.length with slots := [(3, ⟨false, .ptr lid 0⟩), (21, ⟨false, dPs ps⟩), (22, ⟨false, .int .i64 ps.length⟩), (23, ⟨false, .int .i64 ps.length⟩), (24, ⟨false, .bool false⟩)] }, σ) := by
  have hi : ¬ ((ps.length : Int) < (ps.length : Int)) := by omega
  simp only [a_80, EK0, de0, de1, de2, szQ, szB, szL, sy0, sy1, sy2, sy3, sy4, sy5, zad, zaa, zac, zae, adel, zah, zag, zai, zaf, evalV, aget, aset, adel1, nth, AOp.kind, Nat.reduceAdd, Nat.reduceSub, Nat.reduceMul, Nat.reduceBEq, Nat.ble, bindO, Nat.reduceLeDiff, Int.reduceBEq, Int.reduceBNe, Int.reduceLE, Int.reduceLT, Int.reduceGE, Int.reduceGT, Int.reduceNeg, ks, hi]
def yB (L : List (List UInt8)) : List Cell := [⟨false, dSs L⟩, ⟨false, .nils⟩, ⟨false, .nils⟩, ⟨false, .int .i64 0⟩, ⟨false, .int .i64 0⟩, ⟨false, .str []⟩, ⟨false, .nils⟩]
def EK1 (lid : Nat) (vs : List (List UInt8)) (ps : List Pr) (t : Tp) (ns L : List (List UInt8)) (i : Nat) : Env := { slots := [(3, ⟨false, .ptr lid 0⟩), (7, ⟨ow i, dTs ((L.take i).map Tp.var)⟩), (38, ⟨false, dSs ns⟩), (39, ⟨false, .int .i64 ns.length⟩), (40, ⟨false, .int .i64 i⟩)], locs := [(1, 1, 0), (2, 2, 0), (6, 6, 0)], boxes := [(1, scO vs ps t), (2, zS), (6, yB L)], defers := [] }
theorem zddb (lid : Nat) (vs : List (List UInt8)) (ps : List Pr) (t : Tp) (ns L : List (List UInt8)) (i : Nat) (σ : Store) (hi : i < ns.length) (hn : ns.length < 1000) (hL : L.length = ns.length) (hv : vs.length ≠ 0) (hc : ∀ s, C n_42 [.str s] σ = some (.ret ⟨false, dT (.var s)⟩, σ)) :
    exec C n a_81 (EK1 lid vs ps t ns L i) σ = some (.normal, EK1 lid vs ps t ns L (i + 1), σ) := by
  have hx : zav 1 (dSs ns) i = some (.eptr (.str ns[i])) := idx_S ns i hi
  have hLi : i < L.length := by omega
  have hy : zav 1 (dSs L) i = some (.eptr (.str L[i])) := idx_S L i hLi
  have hii : ((i : Int) < (ns.length : Int)) := by omega
  have w1 := zam (i := i) (by omega)
  have hlv : lenOf (dSs vs) = some vs.length := by simp only [dSs, zax, List.length_map]
  have h0 : ((0 : Int) == (vs.length : Int)) = false := beq_false_of_ne (by omega)
  have h1 := hc L[i]
  have hm : ((L.take i).map Tp.var).length = i := by simp; omega
  have ha : zbe k_3 56 ⟨ow i, dTs ((L.take i).map Tp.var)⟩ [dT (.var L[i])] = some ⟨true, dTs ((L.take (i + 1)).map Tp.var)⟩ := by
    have h := zjl ((L.take i).map Tp.var) (.var L[i]) (ow i) (by
      intro h
      cases i with
      | zero => simp at h
      | succ i => rfl) (by omega)
    rw [← za8 L i hLi, List.map_append]
    exact h
  simp only [dT] at h1 ha
  simp only [a_81, EK1, scO, yB, bT, zS, de0, de1, de2, szQ, szB, szL, sy0, sy1, sy2, sy3, sy4, sy5, zad, zaa, zac, zae, adel, zah, zag, zai, zaf, evalV, aget, aset, adel1, nth, AOp.kind, Nat.reduceAdd, Nat.reduceSub, Nat.reduceMul, Nat.reduceBEq, Nat.ble, bindO, Nat.reduceLeDiff, Int.reduceBEq, Int.reduceBNe, Int.reduceLE, Int.reduceLT, Int.reduceGE, Int.reduceGT, Int.reduceNeg, ks, lz, memE, memOp, hx, hy, hii, w1, hlv, h0, h1, ha, zcc]
theorem zf7b (lid : Nat) (vs : List (List UInt8)) (ps : List Pr) (t : Tp) (ns L : List (List UInt8)) (σ : Store) : exec C n a_81 (EK1 lid vs ps t ns L ns.length) σ = some (.exit 2, { EK1 lid vs ps t ns L ns.length with slots := [(3, ⟨false, .ptr lid 0⟩), (7, ⟨ow ns.length, dTs ((L.take ns.length).map Tp.var)⟩), (38, ⟨false, dSs ns⟩), (39, ⟨false, .int .i64 ns.length⟩), (40, ⟨false, .int .i64 ns.length⟩), (41, ⟨false, .bool false⟩)] }, σ) := by
  have hi : ¬ ((ns.length : Int) < (ns.length : Int)) := by omega
  simp only [a_81, EK1, de0, de1, de2, szQ, szB, szL, sy0, sy1, sy2, sy3, sy4, sy5, zad, zaa, zac, zae, adel, zah, zag, zai, zaf, evalV, aget, aset, adel1, nth, AOp.kind, Nat.reduceAdd, Nat.reduceSub, Nat.reduceMul, Nat.reduceBEq, Nat.ble, bindO, Nat.reduceLeDiff, Int.reduceBEq, Int.reduceBNe, Int.reduceLE, Int.reduceLT, Int.reduceGE, Int.reduceGT, Int.reduceNeg, ks, hi]
end
theorem zwz : Evly fun n => ∀ (s : List UInt8) σ, T n n_42 [.str s] σ = some (.ret ⟨false, dT (.var s)⟩, σ) := any _ fun n s σ => by
  rw [T_fun (af := a_158) rfl rfl]
  simp only [a_158, de0, de1, de2, szQ, szB, szL, sy0, sy1, sy2, sy3, sy4, sy5, zad, zaa, zac, zae, adel, zah, zag, zai, zaf, evalV, aget, aset, adel1, nth, AOp.kind, Nat.reduceAdd, Nat.reduceSub, Nat.reduceMul, Nat.reduceBEq, Nat.ble, bindO, Nat.reduceLeDiff, Int.reduceBEq, Int.reduceBNe, Int.reduceLE, Int.reduceLT, Int.reduceGE, Int.reduceGT, Int.reduceNeg, ks, dT]
theorem zrn {id n : Nat} {l : List Pr} {rest : List Cell} {os : Objs} (ho : aget os id = some (cellsOf (l.map dP) ++ rest)) : za1 (n + 3) (.arr k_1 id 0 l.length) os = some (.list k_1 (l.map dP), adel1 os id) := by
  have hl := zeg l
  have hag : (k_1.ag || k_1.sz == 1) = true := rfl
  have e0 : decide ((0 + l.length) * k_1.sz ≤ (cellsOf (l.map dP) ++ rest).length) = true := decide_eq_true (by rw [k_92, List.length_append]; omega)
  have hel : elems k_1 (cellsOf (l.map dP) ++ rest) 0 l.length = l.map dP := by
    have := zic (k := k_1) (rest := rest.map fun c => c.d) (l.map dP) (fun d hd => by obtain ⟨x, _, rfl⟩ := List.mem_map.1 hd; exact ⟨rfl, rfl⟩)
    rw [List.length_map] at this
    unfold elems
    rw [List.map_append, Nat.zero_mul, List.drop_zero]
    exact this
  have hf := zg4 (n := n + 2) (os := adel1 os id) (l.map dP) (fun d hd => by
    obtain ⟨x, _, rfl⟩ := List.mem_map.1 hd
    simp only [dP, cT, zud, zc8, zig, zif, zgq, bindO, zaa])
  simp only [zie, ho, bindO, zaa, hag, e0, Bool.and_self, zae, hel, hf]
theorem zhob {L : List Pr} (h : L ≠ []) : cpt L ≠ [] := by
  cases L with
  | nil => exact absurd rfl h
  | cons a b => simp [cpt]
theorem zk4 {n : Nat} {os : Objs} : za1 (n + 1) .nils os = some (.nils, os) := rfl
theorem zmb {os : Objs} : zdn [] os = some ([], os) := rfl
theorem zk3 {c : Cell} {r : List Cell} {os : Objs} : zdn (c :: r) os = bindO (za1 40 c.d os) fun x => bindO (zdn r x.2) fun y => some (⟨c.keeps, x.1⟩ :: y.1, y.2) := rfl
theorem zme {d : D} : Cell.keeps ⟨false, d⟩ = false := by
  unfold Cell.keeps
  split <;> rfl
theorem zuh {e : Env} {σ : Store} {b : Nat} {cs cs' : List Cell} {os' : Objs} (h0 : aget e.boxes b = some cs) (h1 : zdn cs σ.objs = some (cs', os')) :
    zcz [.box b] e σ = some ({ e with boxes := aset e.boxes b cs' }, { objs := os', tys := σ.tys, oth := σ.oth, next := σ.next }) := by
  simp only [zcz, zej, h0, bindO, zaa, h1]
end Go.Fu
namespace Go.Fu
open Go Go.Mx
set_option maxRecDepth 10000
def cTl (vs : List (List UInt8)) (ps : List Pr) (t : Tp) : List (List UInt8) := keepV vs (othA t ps)
def cNs (vs : List (List UInt8)) (ps : List Pr) (t : Tp) : List (List UInt8) := nmI vs t ps
def cLs (vs : List (List UInt8)) (ps : List Pr) (t : Tp) : List (List UInt8) := lets (cTl vs ps t) (cNs vs ps t).length
def cPs (vs : List (List UInt8)) (ps : List Pr) (t : Tp) : List Pr := srtP (ps.map (putP (cNs vs ps t) ((cLs vs ps t).map Tp.var)))
def cTy (vs : List (List UInt8)) (ps : List Pr) (t : Tp) : Tp := subT (cNs vs ps t) ((cLs vs ps t).map Tp.var) t
structure CanOK (vs : List (List UInt8)) (ps : List Pr) (t : Tp) : Prop where
  hv : vs.length < 1000
  hp : ps.length < 20
  ht : nT t < 100000
  hts : ∀ p ∈ ps, nT p.ty < 100000
  ho : ∀ i, i ≤ ps.length → (othA t (ps.take i)).length < 1000000
  hn : ∀ i, i ≤ ps.length → (nmI vs t (ps.take i)).length < 1000
  hnx : ∀ i, i < (cNs vs ps t).length → Nx (cTl vs ps t) (kk (cTl vs ps t) i) (nxt (cTl vs ps t) (kk (cTl vs ps t) i)) ∧ nxt (cTl vs ps t) (kk (cTl vs ps t) i) < 26
  hok : ∀ p ∈ ps.map (putP (cNs vs ps t) ((cLs vs ps t).map Tp.var)), okP p
  hne : (cNs vs ps t) ≠ [] → vs.length ≠ 0
theorem zz5 (vs l : List (List UInt8)) : (keepV vs l).length ≤ l.length := List.length_filter_le _ _
theorem zpu (vs : List (List UInt8)) (ps : List Pr) (t : Tp) (H : CanOK vs ps t) : Evly fun n => ∀ σ, WF σ → ∃ σ', T n n_41 [scD vs ps t] σ = some (.ret ⟨false, scD (cLs vs ps t) (cPs vs ps t) (cTy vs ps t)⟩, σ') ∧ Ext σ σ' := by
  have hn0 := H.hn 0 (Nat.zero_le _)
  have hnall := H.hn ps.length (Nat.le_refl _)
  have hoall := H.ho ps.length (Nat.le_refl _)
  rw [List.take_length] at hnall hoall
  have hoth := zyc vs ps t (by have := H.hv; omega) (by have := H.hp; omega) H.ht H.hts H.ho
  have hm0 := zr4 vs [] t (by have := H.hv; omega) (by simp) H.ht
  have hms : Evly fun n => ∀ i, i < ps.length → ∀ hi : i < ps.length, ∀ σ lid tk k, WF σ → lid < σ.next → aget σ.objs lid = some (leO vs tk (nmI vs t (ps.take i)) k) → ∃ σ', T n n_114 [.ptr lid 0, dT ps[i].ty] σ = some (.ret ⟨false, .tup []⟩, σ') ∧ ExtB lid σ σ' ∧ aget σ'.objs lid = some (leO vs tk (meetL vs (nmI vs t (ps.take i)) (freeT ps[i].ty)) k) :=
    Evly.below _ fun i hi => (zr4 vs (nmI vs t (ps.take i)) ps[i].ty (by have := H.hv; omega) (by have := H.hn i (by omega); omega) (H.hts _ (List.getElem_mem hi))).mono fun n h _ => h
  have htl : (cTl vs ps t).length < 1048576 := by
    have := zz5 vs (othA t ps)
    unfold cTl; omega
  have hlet := zum (cTl vs ps t) (cNs vs ps t) htl (by unfold cNs; omega) H.hnx
  have hLl : (cLs vs ps t).length = (cNs vs ps t).length := zez _ _
  have hput := zeub vs ps t (cNs vs ps t) ((cLs vs ps t).map Tp.var) (by have := H.hp; omega) (by unfold cNs; omega) (by rw [List.length_map, hLl])
  have hpl : (ps.map (putP (cNs vs ps t) ((cLs vs ps t).map Tp.var))).length < 20 := by rw [List.length_map]; exact H.hp
  have hsort := zbob (ps.map (putP (cNs vs ps t) ((cLs vs ps t).map Tp.var))) hpl H.hok
  have hmem : ∀ p ∈ (srt (ps.map (putP (cNs vs ps t) ((cLs vs ps t).map Tp.var)))).reverse, p ∈ ps.map (putP (cNs vs ps t) ((cLs vs ps t).map Tp.var)) := fun p hp => by
    rw [List.mem_reverse] at hp
    have := ((zfa (ps.map (putP (cNs vs ps t) ((cLs vs ps t).map Tp.var))) [] List.Pairwise.nil).2.mem_iff (a := p)).1 hp
    simpa using this
  have heq := zsr (P := fun n p q => EqC (T n) p q) (srt (ps.map (putP (cNs vs ps t) ((cLs vs ps t).map Tp.var)))).reverse fun p hp q hq => (zw8 p q (H.hok p (hmem p hp)) (H.hok q (hmem q hq))).mono fun n h σ => h σ
  have hcmp : Evly fun n => ∀ σ id, WF σ → id < σ.next → (srt (ps.map (putP (cNs vs ps t) ((cLs vs ps t).map Tp.var)))).reverse ≠ [] → aget σ.objs id = some (cellsOf ((srt (ps.map (putP (cNs vs ps t) ((cLs vs ps t).map Tp.var)))).reverse.map dP)) →
      ∃ σ', T n n_95 [.arr k_1 id 0 (srt (ps.map (putP (cNs vs ps t) ((cLs vs ps t).map Tp.var)))).reverse.length, fnC] σ = some (.ret ⟨false, .arr k_1 id 0 (cPs vs ps t).length⟩, σ') ∧ CmpR (srt (ps.map (putP (cNs vs ps t) ((cLs vs ps t).map Tp.var)))).reverse id σ σ' := by
    obtain ⟨N, hN⟩ := heq
    have hsl : (srt (ps.map (putP (cNs vs ps t) ((cLs vs ps t).map Tp.var)))).reverse.length < 20 := by rw [List.length_reverse, zl1]; exact hpl
    refine ⟨N + 40, fun n hn σ id hw hid hne ha => ?_⟩
    obtain ⟨m, rfl⟩ : ∃ m, n = m + 1 := ⟨n - 1, by omega⟩
    exact zt5 m _ (by omega) hne (by omega) id σ hw hid ha (hN m (by omega))
  have hcn : Evly fun n => ∀ σ, T n n_95 [.nils, fnC] σ = some (.ret ⟨false, .nils⟩, σ) := any _ fun n σ => zt4 n σ
  refine (hoth.and (hm0.and (hms.and (hlet.and (hput.and (hsort.and (hcmp.and (hcn.and zwz)))))))).step 1100 fun m hm h σ hw => ?_
  obtain ⟨eo, em0, ems, el, ep, es, ec, ecn, ev⟩ := h
  obtain ⟨tk, σ1, h1, hTk, hx1⟩ := eo σ hw
  have hf := ze8b hTk
  -- the object of letters
  have hxb := zlw hx1.wf (leO vs tk [] 0) ⟨t_170, 0⟩
  have hxb0 := hx1.trans hxb
  obtain ⟨σ2, h2, hx2, ho2⟩ := em0 _ σ1.next tk 0 hxb.wf (by simp) (by simp [aget, ifB])
  -- the loop over predicates
  obtain ⟨⟨x, e, σ3⟩, hl0, hy1, hy2, hx3, ho3⟩ := zbw (body := exec (T m) m a_80) (fun i e σ' => e = EK0 σ1.next vs ps t i ∧ ExtB σ1.next { objs := (σ1.next, leO vs tk [] 0) :: σ1.objs, tys := (σ1.next, ⟨t_170, 0⟩) :: σ1.tys, oth := σ1.oth, next := σ1.next + 1 } σ' ∧ aget σ'.objs σ1.next = some (leO vs tk (nmI vs t (ps.take i)) 0))
    (fun x => x.1 = .exit 0 ∧ x.2.1 = { EK0 σ1.next vs ps t ps.length with slots := [(3, ⟨false, .ptr σ1.next 0⟩), (21, ⟨false, dPs ps⟩), (22, ⟨false, .int .i64 ps.length⟩), (23, ⟨false, .int .i64 ps.length⟩), (24, ⟨false, .bool false⟩)] } ∧ ExtB σ1.next { objs := (σ1.next, leO vs tk [] 0) :: σ1.objs, tys := (σ1.next, ⟨t_170, 0⟩) :: σ1.tys, oth := σ1.oth, next := σ1.next + 1 } x.2.2 ∧ aget x.2.2.objs σ1.next = some (leO vs tk (cNs vs ps t) 0)) ps.length
    (fun i e σ' hi hp => by
      obtain ⟨rfl, hx, g⟩ := hp
      obtain ⟨σ'', g1, g2, g3⟩ := ems i hi hi σ' σ1.next tk 0 hx.wf (Nat.lt_of_lt_of_le (show σ1.next < σ1.next + 1 by omega) hx.next) g
      exact ⟨_, σ'', zdcb σ1.next vs ps t i σ' σ'' hi (by have := H.hp; omega) g1, rfl, hx.trans g2, by rw [zehb vs t ps i hi]; exact g3⟩)
    (fun e σ' hp => by
      obtain ⟨rfl, hx, g⟩ := hp
      rw [List.take_length] at g
      exact ⟨_, zf6b σ1.next vs ps t σ', fun _ _ h => (by cases h), rfl, rfl, hx, g⟩) 0 m (EK0 σ1.next vs ps t 0) σ2 (by omega) (by have := H.hp; omega) ⟨rfl, hx2, ho2⟩
  simp only at hy1 hy2 hx3 ho3
  subst hy1 hy2
  have hlid3 : σ1.next < σ3.next := Nat.lt_of_lt_of_le (show σ1.next < σ1.next + 1 by omega) hx3.next
  obtain ⟨ol, σ4, h4, hx4, ho4⟩ := el σ3 σ1.next vs tk hx3.wf hTk hlid3 ho3
  -- the loop over names
  have hl1 := zbr (body := exec (T m) m a_81) (EK1 σ1.next vs ps t (cNs vs ps t) (cLs vs ps t)) (fun _ => σ4) (cNs vs ps t).length (r := _) (fun _ _ h => by cases h)
    (fun i hi => zddb σ1.next vs ps t (cNs vs ps t) (cLs vs ps t) i σ4 hi (by unfold cNs at *; omega) hLl (H.hne (by intro hnil; rw [hnil] at hi; simp at hi)) (fun s => ev s σ4)) (zf7b σ1.next vs ps t (cNs vs ps t) (cLs vs ps t) σ4) 0 m (by omega) (by unfold cNs at *; omega)
  obtain ⟨r, σ5, h5, hr⟩ := ep σ4 hx4.wf
  have hx34 := hx3.trans hx4
  have hext4 : Ext σ σ4 := ⟨hx34.wf, Nat.le_trans hxb0.next hx34.next, fun i hi => (hx34.objs i (Nat.lt_of_lt_of_le hi hxb0.next) (by have := hx1.next; omega)).trans (hxb0.objs i hi), fun i hi => (hx34.tys i (Nat.lt_of_lt_of_le hi hxb0.next)).trans (hxb0.tys i hi), hx34.oth.trans hxb0.oth⟩
  have hext5 : Ext σ σ5 := hext4.trans hr.1
  have hTL : (cLs vs ps t).take (cNs vs ps t).length = cLs vs ps t := List.take_of_length_le (by omega)
  have fin : ∃ σ6 r7 σ7 os, T m n_168 [r, .fn (.func n_15) [] []] σ5 = some (.ret ⟨false, .tup []⟩, σ6) ∧ T m n_95 [r, fnC] σ6 = some (.ret ⟨false, r7⟩, σ7) ∧ r7.ok = true ∧ r7.one = true ∧ r7.cells = [r7] ∧ r.ok = true ∧ r.one = true ∧ r.cells = [r] ∧
      zdn (⟨false, dSs (cLs vs ps t)⟩ :: ⟨false, .nils⟩ :: ⟨false, r7⟩ :: bT (cTy vs ps t)) σ7.objs = some (scO (cLs vs ps t) (cPs vs ps t) (cTy vs ps t), os) ∧ Ext σ { objs := os, tys := σ7.tys, oth := σ7.oth, next := σ7.next } := by
    have hLd : dSs (cLs vs ps t) = dlist k_0 ((cLs vs ps t).map D.str) := rfl
    rcases hr.2 with ⟨hnil, rfl⟩ | ⟨id, rfl, g1, g2, g3, g4, g5⟩
    · have hnil' : ps.map (putP (cNs vs ps t) ((cLs vs ps t).map Tp.var)) = [] := by simpa using hnil
      obtain ⟨σ6, s1, s2⟩ := es σ5 0 .nils hext5.wf (.inl ⟨hnil', rfl⟩)
      have hs6 : σ6 = σ5 := by
        rcases s2 with ⟨_, h⟩ | ⟨id, h, _⟩
        · exact h
        · cases h
      subst hs6
      have hP : cPs vs ps t = [] := by unfold cPs; rw [hnil']; rfl
      refine ⟨σ6, .nils, σ6, σ6.objs, s1, ecn σ6, rfl, rfl, rfl, rfl, rfl, rfl, ?_, hext5⟩
      rw [hP]
      have hd : dPs [] = .nils := rfl
      simp only [scO, hd, bT, hLd, zk3, zmb, zgq, zk4, zif, zig, bindO, zaa, zme]
    · simp only [List.length_map]
      have hne : ps.map (putP (cNs vs ps t) ((cLs vs ps t).map Tp.var)) ≠ [] := fun e => g5 (by rw [e]; rfl)
      obtain ⟨σ6, s1, s2⟩ := es σ5 σ4.next _ hext5.wf (.inr ⟨id, rfl, g1, g3, g4, hne⟩)
      rw [List.length_map] at s1
      rcases s2 with ⟨h, _⟩ | ⟨id', h, h6, h7, hS⟩
      · exact absurd h hne
      · cases h
        have hlen : (srt (ps.map (putP (cNs vs ps t) ((cLs vs ps t).map Tp.var)))).reverse.length = ps.length := by rw [List.length_reverse, zl1, List.length_map]
        have hne2 : (srt (ps.map (putP (cNs vs ps t) ((cLs vs ps t).map Tp.var)))).reverse ≠ [] := fun e => by
          have := congrArg List.length e
          rw [hlen] at this
          apply hne
          have : ps = [] := List.length_eq_zero_iff.1 this
          rw [this]; rfl
        obtain ⟨σ7, c1, c2, rest, c3⟩ := ec σ6 id hS.1.wf (by rw [hS.1.next]; exact g4) hne2 hS.2
        rw [hlen] at c1
        have hfz := zrn (n := 37) c3
        have hpd : cPs vs ps t ≠ [] := zhob hne2
        have hd : dPs (cPs vs ps t) = .list k_1 ((cPs vs ps t).map dP) := by
          cases hc : cPs vs ps t with
          | nil => exact absurd hc hpd
          | cons a b => rfl
        refine ⟨σ6, _, σ7, adel1 σ7.objs id, s1, c1, rfl, rfl, rfl, rfl, rfl, rfl, ?_, ?_⟩
        · have hfz' : za1 40 (.arr k_1 id 0 (cPs vs ps t).length) σ7.objs = some (.list k_1 ((cPs vs ps t).map dP), adel1 σ7.objs id) := hfz
          simp only [scO, hd, bT, hLd, zk3, zmb, hfz', zgq, zk4, zif, zig, bindO, zaa, zme]
        · have hS2 := hS.1.trans c2
          refine ⟨⟨fun p hp => hS2.wf.objs p (zdq _ _ _ hp), hS2.wf.tys, hS2.wf.oth⟩, ?_, fun i hi => ?_, fun i hi => ?_, ?_⟩
          · show σ.next ≤ σ7.next
            rw [hS2.next]; exact hext5.next
          · have hne3 : i ≠ id := by have := hext4.next; omega
            rw [← hext5.objs i hi, ← hS2.objs i hne3]
            exact zar _ _ _ hne3
          · show aget σ7.tys i = _
            rw [hS2.tys]; exact hext5.tys i hi
          · show σ7.oth = _
            rw [hS2.oth]; exact hext5.oth
  obtain ⟨σ6, r7, σ7, os, s1, s2, q1, q2, q3, q4, q5, q6, hfz, hxt⟩ := fin
  refine ⟨Store.trunc { objs := os, tys := σ7.tys, oth := σ7.oth, next := σ7.next } σ.next, ?_, zpv hw hxt⟩
  have hz := fun (e : Env) (he : aget e.boxes 6 = some (⟨false, dSs (cLs vs ps t)⟩ :: ⟨false, .nils⟩ :: ⟨false, r7⟩ :: bT (cTy vs ps t))) => zuh (e := e) (σ := σ7) (b := 6) he hfz
  have hlp : lenOf (dPs ps) = some ps.length := by simp only [dPs, zax, List.length_map]
  have hln : lenOf (dSs (cNs vs ps t)) = some (cNs vs ps t).length := by simp only [dSs, zax, List.length_map]
  have hnil : dTs (((cLs vs ps t).take 0).map Tp.var) = .nils := rfl
  rw [hTL] at hl1
  have hcl : lets (cTl vs ps t) (cNs vs ps t).length = cLs vs ps t := rfl
  rw [hcl] at h4
  have hcT : subT (cNs vs ps t) ((cLs vs ps t).map Tp.var) t = cTy vs ps t := rfl
  rw [hcT, dT_eq (cTy vs ps t)] at h5
  rw [dT_eq t] at h2
  simp only [leO, ow, List.length_nil, zcp] at h2 ho4
  have hd0 : dSs [] = .nils := rfl
  simp only [EK0, scO, zS, bT, zeroI] at hl0
  simp only [EK1, scO, yB, zS, bT, zeroI, zcp, hnil] at hl1
  simp only [scO, bT] at hz
  simp only [fnC] at s2
  simp only [scD, cT, hd0] at h1 h2 h5 ⊢
  rw [T_fun (af := a_139) rfl rfl]
  simp only [a_139, de0, de1, de2, szQ, szB, szL, sy0, sy1, sy2, sy3, sy4, sy5, zad, zaa, zac, zae, adel, zah, zag, zai, zaf, evalV, aget, aset, adel1, nth, AOp.kind, Nat.reduceAdd, Nat.reduceSub, Nat.reduceMul, Nat.reduceBEq, Nat.ble, bindO, Nat.reduceLeDiff, Int.reduceBEq, Int.reduceBNe, Int.reduceLE, Int.reduceLT, Int.reduceGE, Int.reduceGT, Int.reduceNeg, ks, lz, memE, memOp, h1, hf.1, hf.2.1, hf.2.2, h2, hl0, h4, ho4, zlg, zgb, zhb, hln, hlp, hl1, h5, s1, s2, q1, q2, q3, q4, q5, q6, zfr, hz]
end Go.Fu
namespace Go.Fu
open Go Go.Mx
set_option maxRecDepth 10000
def vn (i : Nat) : List UInt8 := [118, UInt8.ofNat (48 + i)]
def vnR (k : Nat) : List (List UInt8) := (List.range k).map vn
def vnT (k : Nat) : List Tp := (vnR k).map Tp.var
theorem zjg (k : Nat) : (vnR k).length = k := by simp [vnR]
theorem zfc (k : Nat) : (vnT k).length = k := by simp [vnT, zjg]
theorem zhib (k i : Nat) (h : i < (vnR k).length) : (vnR k)[i] = vn i := by simp [vnR]
theorem zjh (k i : Nat) (h : i < (vnT k).length) : (vnT k)[i] = .var (vn i) := by simp [vnT, vnR]
theorem zwu {α : Type} (l : List α) (j : Nat) (h : j < l.reverse.length) : l.reverse[j] = l[l.length - 1 - j]'(by simp at h; omega) := List.getElem_reverse h
section
variable {C : CallF} {n : Nat} {σ : Store}
def yRn (V : List (List UInt8)) (o1 o2 : Bool) (P : D) : List Cell := [⟨o1, dSs V⟩, ⟨false, .nils⟩, ⟨o2, P⟩, ⟨false, .int .i64 0⟩, ⟨false, .int .i64 0⟩, ⟨false, .str []⟩, ⟨false, .nils⟩]
def zRn : List Cell := [⟨false, .nils⟩, ⟨false, .nils⟩, ⟨false, .nils⟩, ⟨false, .int .i64 0⟩, ⟨false, .int .i64 0⟩, ⟨false, .str []⟩, ⟨false, .nils⟩]
def xRn (vs : List (List UInt8)) (kd : D) (ps : List Pr) (t : Tp) : List Cell := ⟨false, dSs vs⟩ :: ⟨false, kd⟩ :: ⟨false, dPs ps⟩ :: bT t
def ER0 (vs : List (List UInt8)) (kd : D) (ps : List Pr) (t : Tp) (j : Nat) : Env := { slots := [(4, ⟨false, .nils⟩), (5, ⟨false, .int .i64 ((vs.length : Int) - 1 - j)⟩)], locs := [(1, 1, 0), (2, 2, 0), (3, 3, 0)], boxes := [(1, xRn vs kd ps t), (2, zRn), (3, yRn ((vnR vs.length).reverse.take j) (ow j) false .nils)], defers := [] }
theorem zdpb (vs : List (List UInt8)) (kd : D) (ps : List Pr) (t : Tp) (j : Nat) (h : j < vs.length) (hl : vs.length < 6) (hc : ∀ x : Nat, x < 6 → C n_31 [.int .i64 (x : Int)] σ = some (.ret ⟨false, .str [UInt8.ofNat (48 + x)]⟩, σ)) :
    exec C n a_77 (ER0 vs kd ps t j) σ = some (.normal, ER0 vs kd ps t (j + 1), σ) := by
  have e1 : (vs.length : Int) - 1 - j = ((vs.length - 1 - j : Nat) : Int) := by omega
  have h0 : (((vs.length - 1 - j : Nat) : Int) ≥ 0) := by omega
  have w1 : IntKind.i64.wrap (((vs.length - 1 - j : Nat) : Int) - 1) = (vs.length : Int) - 1 - ((j + 1 : Nat) : Int) := by rw [zbc (by omega) (by omega)]; omega
  have hcc := hc (vs.length - 1 - j) (by omega)
  have hj : j < (vnR vs.length).reverse.length := by rw [List.length_reverse, zjg]; exact h
  have hg : (vnR vs.length).reverse[j] = vn (vs.length - 1 - j) := by
    rw [zwu, zhib]
    rw [zjg]
  have hap := zfo ((vnR vs.length).reverse.take j) (vn (vs.length - 1 - j)) (ow j) ow_ne (by simp; omega)
  rw [← hg, za8 _ _ hj, hg] at hap
  simp only [vn] at hap
  have hS : dSs ((vnR vs.length).reverse.take j) = dlist k_0 (((vnR vs.length).reverse.take j).map D.str) := rfl
  have hS1 : dSs ((vnR vs.length).reverse.take (j + 1)) = dlist k_0 (((vnR vs.length).reverse.take (j + 1)).map D.str) := rfl
  simp only [a_77, ER0, yRn, xRn, zRn, bT, de0, de1, de2, szQ, szB, szL, sy0, sy1, sy2, sy3, sy4, sy5, zad, zaa, zac, zae, adel, zah, zag, zai, zaf, evalV, aget, aset, adel1, nth, AOp.kind, Nat.reduceAdd, Nat.reduceSub, Nat.reduceMul, Nat.reduceBEq, Nat.ble, bindO, Nat.reduceLeDiff, Int.reduceBEq, Int.reduceBNe, Int.reduceLE, Int.reduceLT, Int.reduceGE, Int.reduceGT, Int.reduceNeg, ks, lz, e1, h0, w1, hcc, hS, hS1, hap, zcc]
theorem zghb (vs : List (List UInt8)) (kd : D) (ps : List Pr) (t : Tp) : exec C n a_77 (ER0 vs kd ps t vs.length) σ = some (.exit 0, { ER0 vs kd ps t vs.length with slots := [(4, ⟨false, .nils⟩), (5, ⟨false, .int .i64 (-1)⟩), (15, ⟨false, .bool false⟩)] }, σ) := by
  have e1 : (vs.length : Int) - 1 - (vs.length : Nat) = -1 := by omega
  simp only [a_77, ER0, de0, de1, de2, szQ, szB, szL, sy0, sy1, sy2, sy3, sy4, sy5, zad, zaa, zac, zae, adel, zah, zag, zai, zaf, evalV, aget, aset, adel1, nth, AOp.kind, Nat.reduceAdd, Nat.reduceSub, Nat.reduceMul, Nat.reduceBEq, Nat.ble, bindO, Nat.reduceLeDiff, Int.reduceBEq, Int.reduceBNe, Int.reduceLE, Int.reduceLT, Int.reduceGE, Int.reduceGT, Int.reduceNeg, ks, lz, e1]
def ER1 (vs : List (List UInt8)) (kd : D) (ps : List Pr) (t : Tp) (i : Nat) : Env := { slots := [(4, ⟨ow i, dTs ((vnT vs.length).take i)⟩), (6, ⟨false, .int .i64 i⟩)], locs := [(1, 1, 0), (2, 2, 0), (3, 3, 0)], boxes := [(1, xRn vs kd ps t), (2, zRn), (3, yRn (vnR vs.length).reverse (ow vs.length) false .nils)], defers := [] }
theorem zdqb (vs : List (List UInt8)) (kd : D) (ps : List Pr) (t : Tp) (i : Nat) (h : i < vs.length) (hl : vs.length < 6) (hc : ∀ x : Nat, x < 6 → C n_31 [.int .i64 (x : Int)] σ = some (.ret ⟨false, .str [UInt8.ofNat (48 + x)]⟩, σ)) :
    exec C n a_78 (ER1 vs kd ps t i) σ = some (.normal, ER1 vs kd ps t (i + 1), σ) := by
  have h0 : ((i : Int) < (vs.length : Int)) := by omega
  have w1 := zam (i := i) (by omega)
  have hcc := hc i (by omega)
  have hlv : lenOf (dSs vs) = some vs.length := by simp only [dSs, zax, List.length_map]
  have hi : i < (vnT vs.length).length := by rw [zfc]; exact h
  have hap := zjl ((vnT vs.length).take i) (.var (vn i)) (ow i) ow_ne (by simp; omega)
  rw [← zjh vs.length i hi, za8 _ _ hi, zjh] at hap
  simp only [dT, vn] at hap
  have hS : dTs ((vnT vs.length).take i) = dlist k_3 (((vnT vs.length).take i).map dT) := rfl
  have hS1 : dTs ((vnT vs.length).take (i + 1)) = dlist k_3 (((vnT vs.length).take (i + 1)).map dT) := rfl
  simp only [a_78, ER1, yRn, xRn, zRn, bT, de0, de1, de2, szQ, szB, szL, sy0, sy1, sy2, sy3, sy4, sy5, zad, zaa, zac, zae, adel, zah, zag, zai, zaf, evalV, aget, aset, adel1, nth, AOp.kind, Nat.reduceAdd, Nat.reduceSub, Nat.reduceMul, Nat.reduceBEq, Nat.ble, bindO, Nat.reduceLeDiff, Int.reduceBEq, Int.reduceBNe, Int.reduceLE, Int.reduceLT, Int.reduceGE, Int.reduceGT, Int.reduceNeg, ks, lz, h0, w1, hcc, hlv, hS, hS1, hap, zcc]
theorem zgib (vs : List (List UInt8)) (kd : D) (ps : List Pr) (t : Tp) : exec C n a_78 (ER1 vs kd ps t vs.length) σ = some (.exit 2, { ER1 vs kd ps t vs.length with slots := [(4, ⟨ow vs.length, dTs ((vnT vs.length).take vs.length)⟩), (6, ⟨false, .int .i64 vs.length⟩), (30, ⟨false, .bool false⟩)] }, σ) := by
  have h0 : ¬ ((vs.length : Int) < (vs.length : Int)) := by omega
  have hlv : lenOf (dSs vs) = some vs.length := by simp only [dSs, zax, List.length_map]
  simp only [a_78, ER1, yRn, xRn, zRn, bT, de0, de1, de2, szQ, szB, szL, sy0, sy1, sy2, sy3, sy4, sy5, zad, zaa, zac, zae, adel, zah, zag, zai, zaf, evalV, aget, aset, adel1, nth, AOp.kind, Nat.reduceAdd, Nat.reduceSub, Nat.reduceMul, Nat.reduceBEq, Nat.ble, bindO, Nat.reduceLeDiff, Int.reduceBEq, Int.reduceBNe, Int.reduceLE, Int.reduceLT, Int.reduceGE, Int.reduceGT, Int.reduceNeg, ks, lz, h0, hlv]
def ER2 (vs : List (List UInt8)) (kd : D) (ps qs : List Pr) (t : Tp) (o : Bool) (j : Nat) : Env := { slots := [(4, ⟨ow vs.length, dTs (vnT vs.length)⟩), (7, ⟨o, dPs qs⟩), (8, ⟨false, .int .i64 ((qs.length : Int) - 1 - j)⟩)], locs := [(1, 1, 0), (2, 2, 0), (3, 3, 0)], boxes := [(1, xRn vs kd ps t), (2, zRn), (3, yRn (vnR vs.length).reverse (ow vs.length) (ow j) (dPs (qs.reverse.take j)))], defers := [] }
theorem zdrb (vs : List (List UInt8)) (kd : D) (ps qs : List Pr) (t : Tp) (o : Bool) (j : Nat) (h : j < qs.length) (hl : qs.length < 100) :
    exec C n a_79 (ER2 vs kd ps qs t o j) σ = some (.normal, ER2 vs kd ps qs t o (j + 1), σ) := by
  have e1 : (qs.length : Int) - 1 - j = ((qs.length - 1 - j : Nat) : Int) := by omega
  have h0 : (((qs.length - 1 - j : Nat) : Int) ≥ 0) := by omega
  have w1 : IntKind.i64.wrap (((qs.length - 1 - j : Nat) : Int) - 1) = (qs.length : Int) - 1 - ((j + 1 : Nat) : Int) := by rw [zbc (by omega) (by omega)]; omega
  have hj : j < qs.reverse.length := by rw [List.length_reverse]; exact h
  have hx : zav 5 (dPs qs) (qs.length - 1 - j) = some (.eptr (dP (qs[qs.length - 1 - j]'(by omega)))) := idx_P qs (qs.length - 1 - j) (by omega)
  rw [← zwu qs j hj] at hx
  have hap := zmy (qs.reverse.take j) qs.reverse[j] (ow j) ow_ne (by simp; omega)
  rw [za8 _ _ hj] at hap
  have hS : dPs (qs.reverse.take j) = dlist k_1 ((qs.reverse.take j).map dP) := rfl
  have hS1 : dPs (qs.reverse.take (j + 1)) = dlist k_1 ((qs.reverse.take (j + 1)).map dP) := rfl
  simp only [dP, cT] at hx hap
  simp only [a_79, ER2, yRn, xRn, zRn, bT, de0, de1, de2, szQ, szB, szL, sy0, sy1, sy2, sy3, sy4, sy5, zad, zaa, zac, zae, adel, zah, zag, zai, zaf, evalV, aget, aset, adel1, nth, AOp.kind, Nat.reduceAdd, Nat.reduceSub, Nat.reduceMul, Nat.reduceBEq, Nat.ble, bindO, Nat.reduceLeDiff, Int.reduceBEq, Int.reduceBNe, Int.reduceLE, Int.reduceLT, Int.reduceGE, Int.reduceGT, Int.reduceNeg, ks, lz, Mx.part, dP, cT, e1, h0, w1, hx, hS, hS1, hap, zcc]
theorem zgjb (vs : List (List UInt8)) (kd : D) (ps qs : List Pr) (t : Tp) (o : Bool) : exec C n a_79 (ER2 vs kd ps qs t o qs.length) σ = some (.exit 4, { ER2 vs kd ps qs t o qs.length with slots := [(4, ⟨ow vs.length, dTs (vnT vs.length)⟩), (7, ⟨o, dPs qs⟩), (8, ⟨false, .int .i64 (-1)⟩), (50, ⟨false, .bool false⟩)] }, σ) := by
  have e1 : (qs.length : Int) - 1 - (qs.length : Nat) = -1 := by omega
  simp only [a_79, ER2, de0, de1, de2, szQ, szB, szL, sy0, sy1, sy2, sy3, sy4, sy5, zad, zaa, zac, zae, adel, zah, zag, zai, zaf, evalV, aget, aset, adel1, nth, AOp.kind, Nat.reduceAdd, Nat.reduceSub, Nat.reduceMul, Nat.reduceBEq, Nat.ble, bindO, Nat.reduceLeDiff, Int.reduceBEq, Int.reduceBNe, Int.reduceLE, Int.reduceLT, Int.reduceGE, Int.reduceGT, Int.reduceNeg, ks, lz, e1]
end
end Go.Fu
