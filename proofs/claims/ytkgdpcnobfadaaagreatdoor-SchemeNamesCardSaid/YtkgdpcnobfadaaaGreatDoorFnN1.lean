/-
  Both ways round: the canonic forms are the same, and can be reckoned.
-/
import Derived.Test.YtkgdpcnobfadaaaGreatDoorFnM5
import Derived.Test.YtkgdpcnobfadaaaGreatDoorFnY5
import Derived.Test.YtkgdpcnobfadaaaGreatDoorFnAp
set_option linter.unusedSimpArgs false
set_option linter.unusedVariables false
namespace Go.Fu
open Go Go.Mx
set_option maxRecDepth 10000
theorem zw0 (vs : List (List UInt8)) : (vsN vs).length = vs.length := by unfold vsN; rw [List.length_reverse, zjg]
theorem rn_nT (vs : List (List UInt8)) (u : Tp) : nT (rnT vs u) = nT u := by
  unfold rnT vnT
  exact zlq vs (vnR vs.length) u
theorem can_x {vs : List (List UInt8)} {ps : List Pr} {t : Tp} (H : SOK vs ps t) : CanOK vs ps t := by
  have F := zju H
  have hb := H.tB.2
  rw [bz5] at hb
  refine zra vs ps t (by have := H.vl; omega) H.pl hb (fun p hp => by have := (H.po p hp).1.2; rw [bz3] at this; omega) (fun i hi => zr9 _ F.tl5 i (by have := F.n5; omega)) (fun p hp => (F.put p hp).2.1) (fun hne he => ?_)
  apply hne
  have hsub := fun s hs => (zr6 H s hs).2
  cases hc : cNs vs ps t with
  | nil => rfl
  | cons s r =>
    have := hsub s (by show s ∈ cNs vs ps t; rw [hc]; simp)
    rw [List.length_eq_zero_iff.1 he] at this
    simp at this
theorem can_y {vs : List (List UInt8)} {ps : List Pr} {t : Tp} (H : SOK vs ps t) (qs : List Pr) (hq : ∀ p ∈ qs, p ∈ rnP vs ps) (hql : qs.length ≤ 4) (hn : cNs (vsN vs) qs (rnT vs t) = (cNs vs ps t).map (rnm vs)) (htl : ∀ s, (cTl (vsN vs) qs (rnT vs t)).contains s = (cTl vs ps t).contains s) :
    CanOK (vsN vs) qs (rnT vs t) ∧ cLs (vsN vs) qs (rnT vs t) = cLs vs ps t ∧ cTy (vsN vs) qs (rnT vs t) = cTy vs ps t := by
  have F := zju H
  have C := can_x H
  have hlen : (cNs (vsN vs) qs (rnT vs t)).length = (cNs vs ps t).length := by rw [hn, List.length_map]
  have hLs : cLs (vsN vs) qs (rnT vs t) = cLs vs ps t := by
    unfold cLs
    rw [hlen]
    exact zn2 htl _
  have hL : (cLs vs ps t).length = (cNs vs ps t).length := zez _ _
  obtain ⟨p1, p2⟩ := zkq H (cLs vs ps t) hL
  have hb := H.tB.2
  rw [bz5] at hb
  have h5 : ∀ s ∈ cTl (vsN vs) qs (rnT vs t), s ∈ V5 := fun s hs => F.tl5 s (zbz.1 ((htl s).symm.trans (zbz.2 hs)))
  refine ⟨zra _ qs _ (by rw [zw0]; have := H.vl; omega) hql (by rw [rn_nT]; exact hb) (fun p hp => ?_) (fun i hi => zr9 _ h5 i (by have := F.n5; omega)) (fun p hp => ?_) (fun hne he => ?_), hLs, ?_⟩
  · obtain ⟨q, hq1, rfl⟩ := List.mem_map.1 (hq p hp)
    have h1 : nT (putP vs (vnT vs.length) q).ty = nT q.ty := rn_nT vs q.ty
    have := (H.po q hq1).1.2
    rw [bz3] at this
    omega
  · obtain ⟨q, hq1, rfl⟩ := List.mem_map.1 hp
    rw [hn, hLs]
    have hm : putP ((cNs vs ps t).map (rnm vs)) ((cLs vs ps t).map Tp.var) q ∈ (rnP vs ps).map (putP ((cNs vs ps t).map (rnm vs)) ((cLs vs ps t).map Tp.var)) := List.mem_map.2 ⟨q, hq q hq1, rfl⟩
    rw [p2] at hm
    exact (F.put _ hm).2.1
  · rw [zw0] at he
    refine C.hne (fun e => hne ?_) he
    rw [hn, e]
    rfl
  · unfold cTy
    rw [hn, hLs]
    exact p1
theorem zz6 {vs : List (List UInt8)} {ps : List Pr} {t : Tp} (H : SOK vs ps t) : CanOK (vsN vs) (rnP vs ps) (rnT vs t) ∧ cLs (vsN vs) (rnP vs ps) (rnT vs t) = cLs vs ps t ∧ cTy (vsN vs) (rnP vs ps) (rnT vs t) = cTy vs ps t ∧ cPs (vsN vs) (rnP vs ps) (rnT vs t) = cPs vs ps t := by
  obtain ⟨h1, h2, h3⟩ := zjo H
  have h := can_y H (rnP vs ps) (fun p hp => hp) (by unfold rnP; rw [List.length_map]; exact H.pl) h2 (fun s => by rw [h1])
  exact ⟨h.1, h.2.1, h.2.2, (zw9 H).2.1⟩
theorem zp1 (vs ns : List (List UInt8)) : ∀ l : List (List UInt8), (∀ s ∈ l, s ∈ vs → s ∈ ns) → meetL vs ns l = ns
  | [], _ => rfl
  | x :: l, h => by
    have hc : (vs.contains x && !(ns.contains x)) = false := by
      by_cases hv : x ∈ vs
      · simp [h x (by simp) hv]
      · simp [hv]
    show meetL vs (if vs.contains x && !(ns.contains x) then ns ++ [x] else ns) l = ns
    rw [hc, if_neg (by simp)]
    exact zp1 vs ns l fun s hs => h s (List.mem_cons_of_mem _ hs)
theorem zr7 (vs : List (List UInt8)) : ∀ (l : List Pr) (ns : List (List UInt8)), (∀ p ∈ l, ∀ s ∈ freeT p.ty, s ∈ vs → s ∈ ns) → l.foldl (fun ns p => meetL vs ns (freeT p.ty)) ns = ns
  | [], _, _ => rfl
  | p :: l, ns, h => by
    rw [List.foldl_cons, zp1 vs ns (freeT p.ty) (h p (by simp))]
    exact zr7 vs l ns fun q hq => h q (List.mem_cons_of_mem _ hq)
theorem zeyb {vs : List (List UInt8)} {ps : List Pr} {t : Tp} (H : SOK vs ps t) (ht : ∀ v ∈ vs, v ∈ freeT t) : CanOK (vsN vs) (rnP vs ps).reverse (rnT vs t) ∧ cLs (vsN vs) (rnP vs ps).reverse (rnT vs t) = cLs vs ps t ∧ cTy (vsN vs) (rnP vs ps).reverse (rnT vs t) = cTy vs ps t ∧ cPs (vsN vs) (rnP vs ps).reverse (rnT vs t) = cPs vs ps t := by
  obtain ⟨h1, h2, h3⟩ := zjo H
  have hN0 : cNs vs ps t = meetL vs [] (freeT t) := zr7 vs ps _ fun p _ s _ hv => (zdf vs s _ _).2 (.inr ⟨ht s hv, hv⟩)
  have hM : meetL (vsN vs) [] (freeT (rnT vs t)) = (cNs vs ps t).map (rnm vs) := by
    have h0 := zgg vs H.vl (freeT t) [] (zc7 t H.tv) (by simp)
    unfold rnT
    rw [zea vs H.vl t H.tv, hN0]
    simpa using h0
  have hn : cNs (vsN vs) (rnP vs ps).reverse (rnT vs t) = (cNs vs ps t).map (rnm vs) := by
    unfold cNs nmI
    rw [hM]
    refine zr7 (vsN vs) _ _ fun p hp s hs hv => ?_
    obtain ⟨q, hq, rfl⟩ := List.mem_map.1 (List.mem_reverse.1 hp)
    have hf : freeT (putP vs (vnT vs.length) q).ty = (freeT q.ty).map (rnm vs) := zea vs H.vl q.ty (H.pv q hq)
    rw [hf] at hs
    obtain ⟨x, hx, rfl⟩ := List.mem_map.1 hs
    have hox := zc7 q.ty (H.pv q hq) x hx
    have hxv : x ∈ vs := zbz.1 ((zpp vs H.vl x hox).symm.trans (zbz.2 hv))
    exact List.mem_map.2 ⟨x, (zazb (vs := vs) (ps := ps) (t := t)).2 q hq x hx hxv, rfl⟩
  have hql : (rnP vs ps).reverse.length ≤ 4 := by rw [List.length_reverse]; unfold rnP; rw [List.length_map]; exact H.pl
  have hmo : ∀ s, s ∈ othA (rnT vs t) (rnP vs ps).reverse ↔ s ∈ othA (rnT vs t) (rnP vs ps) := fun s => by
    unfold othA
    simp only [List.mem_append, List.mem_flatMap, List.mem_reverse]
  have htl : ∀ s, (cTl (vsN vs) (rnP vs ps).reverse (rnT vs t)).contains s = (cTl vs ps t).contains s := fun s => by
    rw [← h1]
    rw [Bool.eq_iff_iff, zbz, zbz]
    unfold cTl keepV
    rw [List.mem_filter, List.mem_filter, hmo]
  have h := can_y H (rnP vs ps).reverse (fun p hp => List.mem_reverse.1 hp) hql hn htl
  refine ⟨h.1, h.2.1, h.2.2, ?_⟩
  have hL : (cLs vs ps t).length = (cNs vs ps t).length := zez _ _
  obtain ⟨p1, p2⟩ := zkq H (cLs vs ps t) hL
  have F := zju H
  unfold cPs
  rw [hn, h.2.1, List.map_reverse, p2]
  unfold srtP
  rw [ze4b _ (ps.map (putP (cNs vs ps t) ((cLs vs ps t).map Tp.var))) (List.reverse_perm _) (fun p hp => (F.put p (List.mem_reverse.1 hp)).1)]
theorem zh8b {vs : List (List UInt8)} {ps : List Pr} {t : Tp} (H : SOK vs ps t) : (cPs vs ps t).length < 20 ∧ (∀ p ∈ cPs vs ps t, okS p) ∧ smT (cTy vs ps t) = true ∧ szT (cTy vs ps t) ≤ 1048576 ∧ (cLs vs ps t).length < 1000 := by
  have F := zju H
  have hcg : ∀ (r : List Pr) (p x : Pr), x ∈ cpG p r → x ∈ r := by
    intro r
    induction r with
    | nil => intro p x h; simp [cpG] at h
    | cons y r ih =>
      intro p x h
      unfold cpG at h
      split at h
      · exact List.mem_cons_of_mem _ (ih y x h)
      · rcases List.mem_cons.1 h with rfl | h
        · simp
        · exact List.mem_cons_of_mem _ (ih y x h)
  have hc : ∀ (l : List Pr) (x : Pr), x ∈ cpt l → x ∈ l := by
    intro l x h
    cases l with
    | nil => simp [cpt] at h
    | cons y r =>
      rcases List.mem_cons.1 h with rfl | h
      · simp
      · exact List.mem_cons_of_mem _ (hcg r y x h)
  have hmem : ∀ p ∈ cPs vs ps t, p ∈ ps.map (putP (cNs vs ps t) ((cLs vs ps t).map Tp.var)) := fun p hp => by
    have h1 := hc _ _ hp
    rw [List.mem_reverse] at h1
    have := ((zfa (ps.map (putP (cNs vs ps t) ((cLs vs ps t).map Tp.var))) [] List.Pairwise.nil).2.mem_iff (a := p)).1 h1
    simpa using this
  have hlen : (cPs vs ps t).length ≤ ps.length := by
    have h1 := zt6 (srt (ps.map (putP (cNs vs ps t) ((cLs vs ps t).map Tp.var)))).reverse
    rw [List.length_reverse, zl1, List.length_map] at h1
    exact h1
  have hb := H.tB.2
  rw [bz5] at hb
  refine ⟨by have := H.pl; omega, fun p hp => (F.put p (hmem p hp)).2, zg8 _ (zpm _ _ F.lok t H.tB.1.1), ?_, ?_⟩
  · show szT (subT (cNs vs ps t) ((cLs vs ps t).map Tp.var) t) ≤ 1048576
    rw [zor, zlq]
    omega
  · have h1 : (cLs vs ps t).length = (cNs vs ps t).length := zez _ _
    have := F.n5
    omega
end Go.Fu
namespace Go.Fu
open Go Go.Mx
set_option maxRecDepth 10000
section
variable {C : CallF} {n : Nat} {σ : Store}
def EEs (l : List (List UInt8)) (i : Nat) : Env := { slots := [(0, ⟨false, dSs l⟩), (1, ⟨false, dSs l⟩), (12, ⟨false, .int .i64 l.length⟩), (13, ⟨false, .int .i64 i⟩)], locs := [], boxes := [], defers := [] }
theorem zc3b (l : List (List UInt8)) (i : Nat) (h : i < l.length) (hl : l.length < 1000) : exec C n a_87 (EEs l i) σ = some (.normal, EEs l (i + 1), σ) := by
  have hi : ((i : Int) < (l.length : Int)) := by omega
  have hx : zav 1 (dSs l) i = some (.eptr (.str l[i])) := idx_S l i h
  have he : (l[i] == l[i]) = true := by simp
  simp only [a_87, EEs, de0, de1, de2, szQ, szB, szL, sy0, sy1, sy2, sy3, sy4, sy5, zad, zaa, zac, zae, adel, zah, zag, zai, zaf, evalV, aget, aset, adel1, nth, AOp.kind, Nat.reduceAdd, Nat.reduceSub, Nat.reduceMul, Nat.reduceBEq, Nat.ble, bindO, Nat.reduceLeDiff, Int.reduceBEq, Int.reduceBNe, Int.reduceLE, Int.reduceLT, Int.reduceGE, Int.reduceGT, Int.reduceNeg, ks, lz, hi, hx, he, zam (i := i) (by omega)]
theorem zf0b (l : List (List UInt8)) : exec C n a_87 (EEs l l.length) σ = some (.exit 0, { EEs l l.length with slots := [(0, ⟨false, dSs l⟩), (1, ⟨false, dSs l⟩), (12, ⟨false, .int .i64 l.length⟩), (13, ⟨false, .int .i64 l.length⟩), (14, ⟨false, .bool false⟩)] }, σ) := by
  have hi : ¬ ((l.length : Int) < (l.length : Int)) := by omega
  simp only [a_87, EEs, de0, de1, de2, szQ, szB, szL, sy0, sy1, sy2, sy3, sy4, sy5, zad, zaa, zac, zae, adel, zah, zag, zai, zaf, evalV, aget, aset, adel1, nth, AOp.kind, Nat.reduceAdd, Nat.reduceSub, Nat.reduceMul, Nat.reduceBEq, Nat.ble, bindO, Nat.reduceLeDiff, Int.reduceBEq, Int.reduceBNe, Int.reduceLE, Int.reduceLT, Int.reduceGE, Int.reduceGT, Int.reduceNeg, ks, hi]
def EEp (ps : List Pr) (i : Nat) : Env := { slots := [(1, ⟨false, dPs ps⟩), (2, ⟨false, .fn (.func n_62) [] []⟩), (15, ⟨false, dPs ps⟩), (16, ⟨false, .int .i64 ps.length⟩), (17, ⟨false, .int .i64 i⟩)], locs := [], boxes := [], defers := [] }
theorem zc2b (ps : List Pr) (i : Nat) (h : i < ps.length) (hl : ps.length < 1000) (hc : C n_62 [dP ps[i], dP ps[i]] σ = some (.ret ⟨false, .bool true⟩, σ)) : exec C n a_86 (EEp ps i) σ = some (.normal, EEp ps (i + 1), σ) := by
  have hi : ((i : Int) < (ps.length : Int)) := by omega
  have hx : zav 5 (dPs ps) i = some (.eptr (dP ps[i])) := idx_P ps i h
  simp only [dP, cT] at hc hx
  simp only [a_86, EEp, de0, de1, de2, szQ, szB, szL, sy0, sy1, sy2, sy3, sy4, sy5, zad, zaa, zac, zae, adel, zah, zag, zai, zaf, evalV, aget, aset, adel1, nth, AOp.kind, Nat.reduceAdd, Nat.reduceSub, Nat.reduceMul, Nat.reduceBEq, Nat.ble, bindO, Nat.reduceLeDiff, Int.reduceBEq, Int.reduceBNe, Int.reduceLE, Int.reduceLT, Int.reduceGE, Int.reduceGT, Int.reduceNeg, ks, lz, Mx.part, hi, hx, hc, zam (i := i) (by omega)]
theorem zfzb (ps : List Pr) : exec C n a_86 (EEp ps ps.length) σ = some (.exit 0, { EEp ps ps.length with slots := [(1, ⟨false, dPs ps⟩), (2, ⟨false, .fn (.func n_62) [] []⟩), (15, ⟨false, dPs ps⟩), (16, ⟨false, .int .i64 ps.length⟩), (17, ⟨false, .int .i64 ps.length⟩), (18, ⟨false, .bool false⟩)] }, σ) := by
  have hi : ¬ ((ps.length : Int) < (ps.length : Int)) := by omega
  simp only [a_86, EEp, de0, de1, de2, szQ, szB, szL, sy0, sy1, sy2, sy3, sy4, sy5, zad, zaa, zac, zae, adel, zah, zag, zai, zaf, evalV, aget, aset, adel1, nth, AOp.kind, Nat.reduceAdd, Nat.reduceSub, Nat.reduceMul, Nat.reduceBEq, Nat.ble, bindO, Nat.reduceLeDiff, Int.reduceBEq, Int.reduceBNe, Int.reduceLE, Int.reduceLT, Int.reduceGE, Int.reduceGT, Int.reduceNeg, ks, hi]
end
theorem zfsb (l : List (List UInt8)) (hl : l.length < 1000) : Evly fun n => ∀ σ, T n n_209 [dSs l, dSs l] σ = some (.ret ⟨false, .bool true⟩, σ) :=
  (Evly.all (p := fun _ => True) fun _ => trivial).step (l.length + 2) fun m hm _ σ => by
  have hloop := zbr (body := exec (T m) m a_87) (EEs l) (fun _ => σ) l.length (r := _) (fun _ _ h => by cases h) (fun i hi => zc3b l i hi hl) (zf0b l) 0 m (by omega) (by omega)
  have hln : lenOf (dSs l) = some l.length := by simp only [dSs, zax, List.length_map]
  have hne : ((l.length : Int) != (l.length : Int)) = false := by simp
  simp only [EEs, zeroI] at hloop
  rw [T_fun (af := a_151) rfl rfl]
  simp only [a_151, de0, de1, de2, szQ, szB, szL, sy0, sy1, sy2, sy3, sy4, sy5, zad, zaa, zac, zae, adel, zah, zag, zai, zaf, evalV, aget, aset, adel1, nth, AOp.kind, Nat.reduceAdd, Nat.reduceSub, Nat.reduceMul, Nat.reduceBEq, Nat.ble, bindO, Nat.reduceLeDiff, Int.reduceBEq, Int.reduceBNe, Int.reduceLE, Int.reduceLT, Int.reduceGE, Int.reduceGT, Int.reduceNeg, ks, lz, hln, hne, hloop]
theorem zceb (p : Pr) : byC p p = 0 := by
  have h1 : cmpS p.cls p.cls = 0 := zlu.2 rfl
  have h2 : cmpS (prT p.ty 0) (prT p.ty 0) = 0 := zlu.2 rfl
  unfold byC
  rw [h1, h2]
  rfl
theorem zbmb (p : Pr) (hp : okP p) : Evly fun n => ∀ σ, T n n_62 [dP p, dP p] σ = some (.ret ⟨false, .bool true⟩, σ) := (zov p p hp hp).step 0 fun m _ h σ => by
  have h1 := h σ
  rw [zceb] at h1
  simp only [dP, cT] at h1 ⊢
  rw [T_fun (af := a_142) rfl rfl]
  simp only [a_142, de0, de1, de2, szQ, szB, szL, sy0, sy1, sy2, sy3, sy4, sy5, zad, zaa, zac, zae, adel, zah, zag, zai, zaf, evalV, aget, aset, adel1, nth, AOp.kind, Nat.reduceAdd, Nat.reduceSub, Nat.reduceMul, Nat.reduceBEq, Nat.ble, bindO, Nat.reduceLeDiff, Int.reduceBEq, Int.reduceBNe, Int.reduceLE, Int.reduceLT, Int.reduceGE, Int.reduceGT, Int.reduceNeg, ks, lz, h1]
theorem zfrb (ps : List Pr) (hl : ps.length < 1000) (hok : ∀ p ∈ ps, okP p) : Evly fun n => ∀ σ, T n n_208 [dPs ps, dPs ps, .fn (.func n_62) [] []] σ = some (.ret ⟨false, .bool true⟩, σ) := by
  have hc : Evly fun n => ∀ i, i < ps.length → ∀ h : i < ps.length, ∀ σ, T n n_62 [dP ps[i], dP ps[i]] σ = some (.ret ⟨false, .bool true⟩, σ) := Evly.below _ fun i hi => (zbmb ps[i] (hok _ (List.getElem_mem hi))).mono fun n h _ σ => h σ
  refine hc.step (ps.length + 2) fun m hm h σ => ?_
  have hloop := zbr (body := exec (T m) m a_86) (EEp ps) (fun _ => σ) ps.length (r := _) (fun _ _ h => by cases h) (fun i hi => zc2b ps i hi hl (h i hi hi σ)) (zfzb ps) 0 m (by omega) (by omega)
  have hln : lenOf (dPs ps) = some ps.length := by simp only [dPs, zax, List.length_map]
  have hne : ((ps.length : Int) != (ps.length : Int)) = false := by simp
  simp only [EEp, zeroI] at hloop
  rw [T_fun (af := a_150) rfl rfl]
  simp only [a_150, de0, de1, de2, szQ, szB, szL, sy0, sy1, sy2, sy3, sy4, sy5, zad, zaa, zac, zae, adel, zah, zag, zai, zaf, evalV, aget, aset, adel1, nth, AOp.kind, Nat.reduceAdd, Nat.reduceSub, Nat.reduceMul, Nat.reduceBEq, Nat.ble, bindO, Nat.reduceLeDiff, Int.reduceBEq, Int.reduceBNe, Int.reduceLE, Int.reduceLT, Int.reduceGE, Int.reduceGT, Int.reduceNeg, ks, lz, hln, hne, hloop]
theorem za8b : Evly fun n => ∀ (s : List UInt8) σ, T n n_188 [.nils, .str s] σ = some (.ret ⟨false, .int .i64 (-1)⟩, σ) := ⟨3, fun n hn s σ => by
  obtain ⟨m, rfl⟩ : ∃ m, n = m + 2 := ⟨n - 2, by omega⟩
  have hl : loopN (exec (T (m + 1)) (m + 1) a_174) (m + 1) { slots := [(0, ⟨false, .nils⟩), (1, ⟨false, .str s⟩), (8, ⟨false, .int .i64 0⟩), (9, ⟨false, .int .i64 0⟩)], locs := [], boxes := [], defers := [] } σ = some (.exit 0, { slots := [(0, ⟨false, .nils⟩), (1, ⟨false, .str s⟩), (8, ⟨false, .int .i64 0⟩), (9, ⟨false, .int .i64 0⟩), (10, ⟨false, .bool false⟩)], locs := [], boxes := [], defers := [] }, σ) := za7 (by
    simp only [a_174, de0, de1, de2, szQ, szB, szL, sy0, sy1, sy2, sy3, sy4, sy5, zad, zaa, zac, zae, adel, zah, zag, zai, zaf, evalV, aget, aset, adel1, nth, AOp.kind, Nat.reduceAdd, Nat.reduceSub, Nat.reduceMul, Nat.reduceBEq, Nat.ble, bindO, Nat.reduceLeDiff, Int.reduceBEq, Int.reduceBNe, Int.reduceLE, Int.reduceLT, Int.reduceGE, Int.reduceGT, Int.reduceNeg, ks, lz])
  rw [T_fun (af := a_162) rfl rfl]
  simp only [a_162, de0, de1, de2, szQ, szB, szL, sy0, sy1, sy2, sy3, sy4, sy5, zad, zaa, zac, zae, adel, zah, zag, zai, zaf, evalV, aget, aset, adel1, nth, AOp.kind, Nat.reduceAdd, Nat.reduceSub, Nat.reduceMul, Nat.reduceBEq, Nat.ble, bindO, Nat.reduceLeDiff, Int.reduceBEq, Int.reduceBNe, Int.reduceLE, Int.reduceLT, Int.reduceGE, Int.reduceGT, Int.reduceNeg, ks, lz, hl]⟩
section
variable {C : CallF} {n : Nat} {σ : Store}
def ESm (f a : Tp) (i : Nat) : Env := { slots := [(2, ⟨false, .nils⟩), (3, ⟨false, .nils⟩), (97, ⟨false, .int .i64 2⟩), (98, ⟨false, .int .i64 i⟩)], locs := [(4, 4, 0), (5, 5, 0)], boxes := [(4, bA f a), (5, bA f a)], defers := [] }
theorem zabb (f a : Tp) (h : C n_100 [dT f, dT f, .nils, .nils] σ = some (.ret ⟨false, .bool true⟩, σ)) : exec C n a_39 (ESm f a 0) σ = some (.normal, ESm f a 1, σ) := by
  have w1 : IntKind.i64.wrap (0 + 1) = 1 := by decide
  rw [dT_eq f] at h
  simp only [cT] at h
  simp only [a_39, ESm, bA, de0, de1, de2, szQ, szB, szL, sy0, sy1, sy2, sy3, sy4, sy5, zad, zaa, zac, zae, adel, zah, zag, zai, zaf, evalV, aget, aset, adel1, nth, AOp.kind, Nat.reduceAdd, Nat.reduceSub, Nat.reduceMul, Nat.reduceBEq, Nat.ble, bindO, Nat.reduceLeDiff, Int.reduceBEq, Int.reduceBNe, Int.reduceLE, Int.reduceLT, Int.reduceGE, Int.reduceGT, Int.reduceNeg, ks, lz, Mx.part, dT_eq f, dT_eq a, cT, w1, h]
theorem zacb (f a : Tp) (h : C n_100 [dT a, dT a, .nils, .nils] σ = some (.ret ⟨false, .bool true⟩, σ)) : exec C n a_39 (ESm f a 1) σ = some (.normal, ESm f a 2, σ) := by
  have w1 : IntKind.i64.wrap (1 + 1) = 2 := by decide
  rw [dT_eq a] at h
  simp only [cT] at h
  simp only [a_39, ESm, bA, de0, de1, de2, szQ, szB, szL, sy0, sy1, sy2, sy3, sy4, sy5, zad, zaa, zac, zae, adel, zah, zag, zai, zaf, evalV, aget, aset, adel1, nth, AOp.kind, Nat.reduceAdd, Nat.reduceSub, Nat.reduceMul, Nat.reduceBEq, Nat.ble, bindO, Nat.reduceLeDiff, Int.reduceBEq, Int.reduceBNe, Int.reduceLE, Int.reduceLT, Int.reduceGE, Int.reduceGT, Int.reduceNeg, ks, lz, Mx.part, dT_eq f, dT_eq a, cT, w1, h]
theorem zglb (f a : Tp) : exec C n a_39 (ESm f a 2) σ = some (.exit 1, { ESm f a 2 with slots := [(2, ⟨false, .nils⟩), (3, ⟨false, .nils⟩), (97, ⟨false, .int .i64 2⟩), (98, ⟨false, .int .i64 2⟩), (99, ⟨false, .bool false⟩)] }, σ) := by
  simp only [a_39, ESm, de0, de1, de2, szQ, szB, szL, sy0, sy1, sy2, sy3, sy4, sy5, zad, zaa, zac, zae, adel, zah, zag, zai, zaf, evalV, aget, aset, adel1, nth, AOp.kind, Nat.reduceAdd, Nat.reduceSub, Nat.reduceMul, Nat.reduceBEq, Nat.ble, bindO, Nat.reduceLeDiff, Int.reduceBEq, Int.reduceBNe, Int.reduceLE, Int.reduceLT, Int.reduceGE, Int.reduceGT, Int.reduceNeg, ks, lz]
theorem zwj (f x : Int) (s : List UInt8) : exec C n a_39 { slots := [(2, ⟨false, .nils⟩), (3, ⟨false, .nils⟩), (97, ⟨false, .int .i64 0⟩), (98, ⟨false, .int .i64 0⟩)], locs := [(4, 4, 0), (5, 5, 0)], boxes := [(4, [⟨false, .int .i64 f⟩, ⟨false, .int .i64 x⟩, ⟨false, .str s⟩, ⟨false, .nils⟩]), (5, [⟨false, .int .i64 f⟩, ⟨false, .int .i64 x⟩, ⟨false, .str s⟩, ⟨false, .nils⟩])], defers := [] } σ =
    some (.exit 1, { slots := [(2, ⟨false, .nils⟩), (3, ⟨false, .nils⟩), (97, ⟨false, .int .i64 0⟩), (98, ⟨false, .int .i64 0⟩), (99, ⟨false, .bool false⟩)], locs := [(4, 4, 0), (5, 5, 0)], boxes := [(4, [⟨false, .int .i64 f⟩, ⟨false, .int .i64 x⟩, ⟨false, .str s⟩, ⟨false, .nils⟩]), (5, [⟨false, .int .i64 f⟩, ⟨false, .int .i64 x⟩, ⟨false, .str s⟩, ⟨false, .nils⟩])], defers := [] }, σ) := by
  simp only [a_39, de0, de1, de2, szQ, szB, szL, sy0, sy1, sy2, sy3, sy4, sy5, zad, zaa, zac, zae, adel, zah, zag, zai, zaf, evalV, aget, aset, adel1, nth, AOp.kind, Nat.reduceAdd, Nat.reduceSub, Nat.reduceMul, Nat.reduceBEq, Nat.ble, bindO, Nat.reduceLeDiff, Int.reduceBEq, Int.reduceBNe, Int.reduceLE, Int.reduceLT, Int.reduceGE, Int.reduceGT, Int.reduceNeg, ks, lz]
end
theorem znj : ∀ t : Tp, Evly fun n => ∀ σ, T n n_100 [dT t, dT t, .nils, .nils] σ = some (.ret ⟨false, .bool true⟩, σ)
  | .var s => za8b.step 2 fun m hm h σ => by
      have h1 := h s σ
      have he : (s == s) = true := by simp
      rw [T_fun (af := a_30) rfl rfl]
      simp only [a_30, de0, de1, de2, szQ, szB, szL, sy0, sy1, sy2, sy3, sy4, sy5, zad, zaa, zac, zae, adel, zah, zag, zai, zaf, evalV, aget, aset, adel1, nth, AOp.kind, Nat.reduceAdd, Nat.reduceSub, Nat.reduceMul, Nat.reduceBEq, Nat.ble, bindO, Nat.reduceLeDiff, Int.reduceBEq, Int.reduceBNe, Int.reduceLE, Int.reduceLT, Int.reduceGE, Int.reduceGT, Int.reduceNeg, ks, lz, dT, h1, he]
  | .con s => (Evly.all (p := fun _ => True) fun _ => trivial).step 2 fun m hm _ σ => by
      obtain ⟨j, rfl⟩ : ∃ j, m = j + 1 := ⟨m - 1, by omega⟩
      have hl := za7 (k := j) (zwj (C := T (j + 1)) (n := j + 1) (σ := σ) 3 0 s)
      have he : (s == s) = true := by simp
      rw [T_fun (af := a_30) rfl rfl]
      simp only [a_30, de0, de1, de2, szQ, szB, szL, sy0, sy1, sy2, sy3, sy4, sy5, zad, zaa, zac, zae, adel, zah, zag, zai, zaf, evalV, aget, aset, adel1, nth, AOp.kind, Nat.reduceAdd, Nat.reduceSub, Nat.reduceMul, Nat.reduceBEq, Nat.ble, bindO, Nat.reduceLeDiff, Int.reduceBEq, Int.reduceBNe, Int.reduceLE, Int.reduceLT, Int.reduceGE, Int.reduceGT, Int.reduceNeg, ks, lz, dT, hl, he]
  | .hole x => (Evly.all (p := fun _ => True) fun _ => trivial).step 2 fun m hm _ σ => by
      obtain ⟨j, rfl⟩ : ∃ j, m = j + 1 := ⟨m - 1, by omega⟩
      have hl := za7 (k := j) (zwj (C := T (j + 1)) (n := j + 1) (σ := σ) 1 x [])
      have he : (([] : List UInt8) == []) = true := by simp
      have hx : (x != x) = false := by simp
      rw [T_fun (af := a_30) rfl rfl]
      simp only [a_30, de0, de1, de2, szQ, szB, szL, sy0, sy1, sy2, sy3, sy4, sy5, zad, zaa, zac, zae, adel, zah, zag, zai, zaf, evalV, aget, aset, adel1, nth, AOp.kind, Nat.reduceAdd, Nat.reduceSub, Nat.reduceMul, Nat.reduceBEq, Nat.ble, bindO, Nat.reduceLeDiff, Int.reduceBEq, Int.reduceBNe, Int.reduceLE, Int.reduceLT, Int.reduceGE, Int.reduceGT, Int.reduceNeg, ks, lz, dT, hl, he, hx]
  | .app f a => ((znj f).and (znj a)).step 4 fun m hm h σ => by
      obtain ⟨j, rfl⟩ : ∃ j, m = j + 3 := ⟨m - 3, by omega⟩
      have hl := (zb4 (k := j + 2) (zabb (C := T (j + 3)) (n := j + 3) f a (h.1 σ))).trans ((zb4 (k := j + 1) (zacb (C := T (j + 3)) (n := j + 3) f a (h.2 σ))).trans (za7 (k := j) (zglb (C := T (j + 3)) (n := j + 3) f a)))
      have he : (([] : List UInt8) == []) = true := by simp
      simp only [ESm, bA, zeroI] at hl
      rw [T_fun (af := a_30) rfl rfl]
      simp only [a_30, de0, de1, de2, szQ, szB, szL, sy0, sy1, sy2, sy3, sy4, sy5, zad, zaa, zac, zae, adel, zah, zag, zai, zaf, evalV, aget, aset, adel1, nth, AOp.kind, Nat.reduceAdd, Nat.reduceSub, Nat.reduceMul, Nat.reduceBEq, Nat.ble, bindO, Nat.reduceLeDiff, Int.reduceBEq, Int.reduceBNe, Int.reduceLE, Int.reduceLT, Int.reduceGE, Int.reduceGT, Int.reduceNeg, ks, lz, dT, hl, he]
theorem zw2 (t : Tp) : Evly fun n => ∀ σ, T n n_211 [dT t, dT t] σ = some (.ret ⟨false, .bool true⟩, σ) := (znj t).step 0 fun m _ h σ => by
  have h1 := h σ
  rw [dT_eq t] at h1 ⊢
  simp only [cT] at h1 ⊢
  rw [T_fun (af := a_157) rfl rfl]
  simp only [a_157, de0, de1, de2, szQ, szB, szL, sy0, sy1, sy2, sy3, sy4, sy5, zad, zaa, zac, zae, adel, zah, zag, zai, zaf, evalV, aget, aset, adel1, nth, AOp.kind, Nat.reduceAdd, Nat.reduceSub, Nat.reduceMul, Nat.reduceBEq, Nat.ble, bindO, Nat.reduceLeDiff, Int.reduceBEq, Int.reduceBNe, Int.reduceLE, Int.reduceLT, Int.reduceGE, Int.reduceGT, Int.reduceNeg, ks, lz, h1]
theorem zmr (x y : D) (hx : x.ok = true ∧ ∃ a b c u, x = .agg (dSs a :: .nils :: dPs b :: cT c) ∧ u = c) (hy : ∃ a b c u, y = .agg (dSs a :: .nils :: dPs b :: cT c) ∧ u = c) (L : List (List UInt8)) (P : List Pr) (t : Tp) (hL : L.length < 1000) (hP : P.length < 1000) (hok : ∀ p ∈ P, okP p)
    (h1 : Evly fun n => ∀ σ, WF σ → ∃ σ', T n n_41 [x] σ = some (.ret ⟨false, scD L P t⟩, σ') ∧ Ext σ σ') (h2 : Evly fun n => ∀ σ, WF σ → ∃ σ', T n n_41 [y] σ = some (.ret ⟨false, scD L P t⟩, σ') ∧ Ext σ σ') :
    Evly fun n => ∀ σ, WF σ → ∃ σ', T n n_183 [x, y] σ = some (.ret ⟨false, .bool true⟩, σ') ∧ Ext σ σ' :=
  (h1.and (h2.and ((zfsb L hL).and ((zfrb P hP hok).and (zw2 t))))).step 2 fun m hm h σ hw => by
  obtain ⟨e1, e2, e3, e4, e5⟩ := h
  obtain ⟨σ1, g1, x1⟩ := e1 σ hw
  obtain ⟨σ2, g2, x2⟩ := e2 σ1 x1.wf
  have f3 := e3 σ2
  have f4 := e4 σ2
  have f5 := e5 σ2
  refine ⟨σ2, ?_, x1.trans x2⟩
  obtain ⟨_, a, b, c, u, rfl, _⟩ := hx
  obtain ⟨a', b', c', u', rfl, _⟩ := hy
  rw [dT_eq t] at f5
  simp only [scD, cT] at g1 g2 f5 ⊢
  rw [T_fun (af := a_141) rfl rfl]
  simp only [a_141, de0, de1, de2, szQ, szB, szL, sy0, sy1, sy2, sy3, sy4, sy5, zad, zaa, zac, zae, adel, zah, zag, zai, zaf, evalV, aget, aset, adel1, nth, AOp.kind, Nat.reduceAdd, Nat.reduceSub, Nat.reduceMul, Nat.reduceBEq, Nat.ble, bindO, Nat.reduceLeDiff, Int.reduceBEq, Int.reduceBNe, Int.reduceLE, Int.reduceLT, Int.reduceGE, Int.reduceGT, Int.reduceNeg, ks, lz, g1, g2, f3, f4, f5]
end Go.Fu
namespace Go.Fu
open Go Go.Mx
set_option maxRecDepth 10000
section
variable {C : CallF} {n : Nat} {σ : Store}
def Est (l : List (List UInt8)) (i : Nat) : Env := { slots := [(0, ⟨false, dlist k_0 (l.map D.str)⟩), (1, ⟨false, dlist k_0 (l.map D.str)⟩), (5, ⟨false, .int .i64 i⟩)], locs := [], boxes := [], defers := [] }
theorem zeeb (l : List (List UInt8)) (i : Nat) (h : i < l.length) (hl : l.length < 1048576) : exec C n a_72 (Est l i) σ = some (.normal, Est l (i + 1), σ) := by
  have hi : ((i : Int) < (l.length : Int)) := by omega
  have hx := idx_S l i h
  have he : (l[i] != l[i]) = false := by simp
  simp only [a_72, Est, de0, de1, de2, szQ, szB, szL, sy0, sy1, sy2, sy3, sy4, sy5, zad, zaa, zac, zae, adel, zah, zag, zai, zaf, evalV, aget, aset, adel1, nth, AOp.kind, Nat.reduceAdd, Nat.reduceSub, Nat.reduceMul, Nat.reduceBEq, Nat.ble, bindO, Nat.reduceLeDiff, Int.reduceBEq, Int.reduceBNe, Int.reduceLE, Int.reduceLT, Int.reduceGE, Int.reduceGT, Int.reduceNeg, ks, List.length_map, hi, hx, he, zam (i := i) (by omega)]
theorem zgwb (l : List (List UInt8)) : exec C n a_72 (Est l l.length) σ = some (.exit 0, { Est l l.length with slots := [(0, ⟨false, dlist k_0 (l.map D.str)⟩), (1, ⟨false, dlist k_0 (l.map D.str)⟩), (5, ⟨false, .int .i64 l.length⟩), (14, ⟨false, .bool false⟩)] }, σ) := by
  have hi : ¬ ((l.length : Int) < (l.length : Int)) := by omega
  simp only [a_72, Est, de0, de1, de2, szQ, szB, szL, sy0, sy1, sy2, sy3, sy4, sy5, zad, zaa, zac, zae, adel, zah, zag, zai, zaf, evalV, aget, aset, adel1, nth, AOp.kind, Nat.reduceAdd, Nat.reduceSub, Nat.reduceMul, Nat.reduceBEq, Nat.ble, bindO, Nat.reduceLeDiff, Int.reduceBEq, Int.reduceBNe, Int.reduceLE, Int.reduceLT, Int.reduceGE, Int.reduceGT, Int.reduceNeg, ks, List.length_map, hi]
end
theorem zbsb (l : List (List UInt8)) (hl : l.length < 1048576) : Evly fun n => ∀ σ, T n n_199 [dSs l, dSs l] σ = some (.ret ⟨false, .bool true⟩, σ) :=
  (Evly.all (p := fun _ => True) fun _ => trivial).step (l.length + 2) fun m hm _ σ => by
  rw [T_fun (af := a_122) rfl rfl]
  have hloop := zbr (body := exec (T m) m a_72) (Est l) (fun _ => σ) l.length (r := _) (fun _ _ h => by cases h) (fun i hi => zeeb l i hi hl) (zgwb l) 0 m (by omega) (by omega)
  simp only [Est, zeroI] at hloop
  have e4 : ((l.length : Int) != (l.length : Int)) = false := by simp
  simp only [a_122, de0, de1, de2, szQ, szB, szL, sy0, sy1, sy2, sy3, sy4, sy5, zad, zaa, zac, zae, adel, zah, zag, zai, zaf, evalV, aget, aset, adel1, nth, AOp.kind, Nat.reduceAdd, Nat.reduceSub, Nat.reduceMul, Nat.reduceBEq, Nat.ble, bindO, Nat.reduceLeDiff, Int.reduceBEq, Int.reduceBNe, Int.reduceLE, Int.reduceLT, Int.reduceGE, Int.reduceGT, Int.reduceNeg, ks, dSs, List.length_map, e4, hloop]
def Eke0 (vs : D) (ps : D) (t : Tp) : List Cell := ⟨false, vs⟩ :: ⟨false, .nils⟩ :: ⟨false, ps⟩ :: bT t
theorem zgub {C : CallF} {n : Nat} {σ : Store} (vs ps : D) (t : Tp) : exec C n a_171 { slots := [(5, ⟨false, .int .i64 0⟩)], locs := [(2, 2, 0), (3, 3, 0)], boxes := [(2, Eke0 vs ps t), (3, Eke0 vs ps t)], defers := [] } σ = some (.exit 0, { slots := [(5, ⟨false, .int .i64 0⟩), (41, ⟨false, .bool false⟩)], locs := [(2, 2, 0), (3, 3, 0)], boxes := [(2, Eke0 vs ps t), (3, Eke0 vs ps t)], defers := [] }, σ) := by
  simp only [a_171, Eke0, bT, de0, de1, de2, szQ, szB, szL, sy0, sy1, sy2, sy3, sy4, sy5, zad, zaa, zac, zae, adel, zah, zag, zai, zaf, evalV, aget, aset, adel1, nth, AOp.kind, Nat.reduceAdd, Nat.reduceSub, Nat.reduceMul, Nat.reduceBEq, Nat.ble, bindO, Nat.reduceLeDiff, Int.reduceBEq, Int.reduceBNe, Int.reduceLE, Int.reduceLT, Int.reduceGE, Int.reduceGT, Int.reduceNeg, ks, lz]
theorem zyl (vs : List (List UInt8)) (ps : List Pr) (t : Tp) (hv : vs.length < 1048576) (hp : ps.length < 1048576) : Evly fun n => ∀ σ, T n n_203 [.agg (dSs vs :: .nils :: dPs ps :: cT t), .agg (dSs vs :: .nils :: dPs ps :: cT t)] σ = some (.ret ⟨false, .bool true⟩, σ) :=
  ((zbsb vs hv).and ((zh0 t).and (zb9b ps hp))).step 4 fun m hm h σ => by
  have h1 := h.1 σ
  have h2 := h.2.1 σ
  have h3 := h.2.2 σ
  obtain ⟨j, rfl⟩ : ∃ j, m = j + 1 := ⟨m - 1, by omega⟩
  have hloop := za7 (k := j) (zgub (C := T (j + 1)) (n := j + 1) (σ := σ) (dSs vs) (dPs ps) t)
  rw [T_fun (af := a_136) rfl rfl]
  rw [dT_eq t] at h2
  simp only [Eke0, bT] at hloop
  simp only [cT] at h2 ⊢
  simp only [a_136, de0, de1, de2, szQ, szB, szL, sy0, sy1, sy2, sy3, sy4, sy5, zad, zaa, zac, zae, adel, zah, zag, zai, zaf, evalV, aget, aset, adel1, nth, AOp.kind, Nat.reduceAdd, Nat.reduceSub, Nat.reduceMul, Nat.reduceBEq, Nat.ble, bindO, Nat.reduceLeDiff, Int.reduceBEq, Int.reduceBNe, Int.reduceLE, Int.reduceLT, Int.reduceGE, Int.reduceGT, Int.reduceNeg, ks, lz, h1, h2, h3, hloop]
end Go.Fu
