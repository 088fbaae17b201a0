/-
  A scheme in print, run: all of it.
-/
import Derived.Test.YtkgdpcnobfadaaaGreatDoorFnY3
import Derived.Test.YtkgdpcnobfadaaaGreatDoorFnY5
set_option linter.unusedSimpArgs false
set_option linter.unusedVariables false
namespace Go.Fu
open Go Go.Mx
set_option maxRecDepth 10000
def prS (p : Pr) : List UInt8 := p.cls ++ [32] ++ (if isApp p.ty then 40 :: prT p.ty 0 ++ [41] else prT p.ty 0)
def scS (P : List Pr) (t : Tp) : List UInt8 := match P with
  | [] => prT t 0
  | [p] => prS p ++ [32, 61, 62, 32] ++ prT t 0
  | p :: q :: r => 40 :: joinS [44, 32] (prS p :: (q :: r).map prS) ++ [41, 32, 61, 62, 32] ++ prT t 0
def okS (p : Pr) : Prop := okP p ∧ p.cls.length ≤ 1000
theorem zws (p : Pr) (h : okS p) : (prS p).length ≤ 1100000 := by
  have := zbn p.ty 0 h.1.1
  have h1 := h.1.2
  have h2 := h.2
  unfold prS
  split <;> simp only [List.length_append, List.length_cons, List.length_nil] <;> omega
section
variable {C : CallF} {n : Nat} {σ : Store}
def EPr (L : List (List UInt8)) (P : List Pr) (t : Tp) (i : Nat) : Env := { slots := [(3, ⟨ow i, dSs ((P.take i).map prS)⟩), (11, ⟨false, dPs P⟩), (12, ⟨false, .int .i64 P.length⟩), (13, ⟨false, .int .i64 i⟩)], locs := [(1, 1, 0)], boxes := [(1, scO L P t)], defers := [] }
theorem zdlb (L : List (List UInt8)) (P : List Pr) (t : Tp) (i : Nat) (h : i < P.length) (hl : P.length < 1000) (hok : okS P[i]) (hc : C n_67 [dT P[i].ty] σ = some (.ret ⟨false, .str (prT P[i].ty 0)⟩, σ)) : exec C n a_56 (EPr L P t i) σ = some (.normal, EPr L P t (i + 1), σ) := by
  have hi : ((i : Int) < (P.length : Int)) := by omega
  have hx : zav 5 (dPs P) i = some (.eptr (dP P[i])) := idx_P P i h
  have w1 := zam (i := i) (by omega)
  have hpl := zbn P[i].ty 0 hok.1.1
  have hz := hok.1.2
  have hcl := hok.2
  have hml : ((P.take i).map prS).length = i := by simp; omega
  have hap : zbe k_0 16 ⟨ow i, dSs ((P.take i).map prS)⟩ [.str (prS P[i])] = some ⟨true, dSs ((P.take (i + 1)).map prS)⟩ := by
    have h1 := zfo ((P.take i).map prS) (prS P[i]) (ow i) (by
      intro h
      cases i with
      | zero => simp at h
      | succ i => rfl) (by omega)
    rw [← za8 P i h, List.map_append]
    exact h1
  have hform : (P[i].ty.form == 4) = isApp P[i].ty := by cases P[i].ty <;> rfl
  rw [dT_eq] at hc
  simp only [dP, cT] at hx
  simp only [cT] at hc
  generalize hs : prT P[i].ty 0 = s at *
  cases ha : isApp P[i].ty with
  | false =>
    rw [ha] at hform
    have d1 : P[i].cls.length ≤ 281474976710655 := by omega
    have d2 : (P[i].cls ++ [32]).length + s.length ≤ 281474976710656 := by simp; omega
    have hp : prS P[i] = P[i].cls ++ [32] ++ s := by unfold prS; rw [ha, hs]; rfl
    rw [hp] at hap
    simp only [a_56, EPr, scO, bT, de0, de1, de2, szQ, szB, szL, sy0, sy1, sy2, sy3, sy4, sy5, zad, zaa, zac, zae, adel, zah, zag, zai, zaf, evalV, aget, aset, adel1, nth, AOp.kind, Nat.reduceAdd, Nat.reduceSub, Nat.reduceMul, Nat.reduceBEq, Nat.ble, bindO, Nat.reduceLeDiff, Int.reduceBEq, Int.reduceBNe, Int.reduceLE, Int.reduceLT, Int.reduceGE, Int.reduceGT, Int.reduceNeg, ks, lz, Mx.part, hi, hx, w1, hc, hform, d1, d2, hap, zcc]
  | true =>
    rw [ha] at hform
    have d1 : P[i].cls.length ≤ 281474976710655 := by omega
    have d2 : (P[i].cls ++ [32]).length + (40 :: (s ++ [41])).length ≤ 281474976710656 := by simp; omega
    have d2' : (P[i].cls ++ [32]).length + ((s ++ [41]).length + 1) ≤ 281474976710656 := by simp; omega
    have d3 : 1 + s.length ≤ 281474976710656 := by omega
    have d4 : s.length ≤ 281474976710655 := by omega
    have d5 : s.length + 1 ≤ 281474976710655 := by omega
    have d6 : s.length ≤ 281474976710654 := by omega
    have hp : prS P[i] = P[i].cls ++ [32] ++ (40 :: (s ++ [41])) := by unfold prS; rw [ha, hs]; rfl
    rw [hp] at hap
    simp only [a_56, EPr, scO, bT, de0, de1, de2, szQ, szB, szL, sy0, sy1, sy2, sy3, sy4, sy5, zad, zaa, zac, zae, adel, zah, zag, zai, zaf, evalV, aget, aset, adel1, nth, AOp.kind, Nat.reduceAdd, Nat.reduceSub, Nat.reduceMul, Nat.reduceBEq, Nat.ble, bindO, Nat.reduceLeDiff, Int.reduceBEq, Int.reduceBNe, Int.reduceLE, Int.reduceLT, Int.reduceGE, Int.reduceGT, Int.reduceNeg, ks, lz, Mx.part, hi, hx, w1, hc, hform, d1, d2, d2', d3, d4, d5, d6, hap, zcc]
theorem zgdb (L : List (List UInt8)) (P : List Pr) (t : Tp) : exec C n a_56 (EPr L P t P.length) σ = some (.exit 0, { EPr L P t P.length with slots := [(3, ⟨ow P.length, dSs ((P.take P.length).map prS)⟩), (11, ⟨false, dPs P⟩), (12, ⟨false, .int .i64 P.length⟩), (13, ⟨false, .int .i64 P.length⟩), (14, ⟨false, .bool false⟩)] }, σ) := by
  have hi : ¬ ((P.length : Int) < (P.length : Int)) := by omega
  simp only [a_56, EPr, scO, bT, de0, de1, de2, szQ, szB, szL, sy0, sy1, sy2, sy3, sy4, sy5, zad, zaa, zac, zae, adel, zah, zag, zai, zaf, evalV, aget, aset, adel1, nth, AOp.kind, Nat.reduceAdd, Nat.reduceSub, Nat.reduceMul, Nat.reduceBEq, Nat.ble, bindO, Nat.reduceLeDiff, Int.reduceBEq, Int.reduceBNe, Int.reduceLE, Int.reduceLT, Int.reduceGE, Int.reduceGT, Int.reduceNeg, ks, lz, hi]
end
theorem zr0 (l : List (List UInt8)) (B : Nat) (h : ∀ s ∈ l, s.length ≤ B) : zbl l ≤ B * l.length := by
  induction l with
  | nil => simp [zbl]
  | cons s l ih =>
    have h1 := h s (by simp)
    have h2 := ih fun x hx => h x (List.mem_cons_of_mem _ hx)
    simp only [zbl, List.map_cons, List.sum_cons, List.length_cons, Nat.mul_succ] at *
    omega
theorem zmn (a : List (List UInt8)) (b : List Pr) (c : Tp) (L : List (List UInt8)) (P : List Pr) (t : Tp) (hP : P.length < 20) (hok : ∀ p ∈ P, okS p) (ht : smT t = true) (hz : szT t ≤ 1048576)
    (h1 : Evly fun n => ∀ σ, WF σ → ∃ σ', T n n_41 [scD a b c] σ = some (.ret ⟨false, scD L P t⟩, σ') ∧ Ext σ σ') :
    Evly fun n => ∀ σ, WF σ → ∃ σ', T n n_113 [scD a b c] σ = some (.ret ⟨false, .str (scS P t)⟩, σ') ∧ Ext σ σ' := by
  have hps : Evly fun n => ∀ i, i < P.length → ∀ h : i < P.length, ∀ σ, T n n_67 [dT P[i].ty] σ = some (.ret ⟨false, .str (prT P[i].ty 0)⟩, σ) := Evly.below _ fun i hi => (zhx P[i].ty (hok _ (List.getElem_mem hi)).1.1 (hok _ (List.getElem_mem hi)).1.2).mono fun n h _ σ => h σ
  have hjoin : Evly fun n => ∀ (s : List UInt8) (r : List (List UInt8)), r ≠ [] → r.length < 20 → zbl (s :: r) < 100000000 → ∀ σ, WF σ → ∃ σ', T n n_185 [dSs (s :: r), .str [44, 32]] σ = some (.ret ⟨false, .str (joinS [44, 32] (s :: r))⟩, σ') ∧ Ext σ σ' := ⟨40, fun n hn s r hr hl hs σ hw => by
    obtain ⟨m, rfl⟩ : ∃ m, n = m + 3 := ⟨n - 3, by omega⟩
    exact zcub m s r hr (by omega) (by omega) hs σ hw⟩
  refine (h1.and (hps.and ((zhx t ht hz).and hjoin))).step 30 fun m hm h σ hw => ?_
  obtain ⟨e1, e2, e3, e4⟩ := h
  obtain ⟨σ1, g1, x1⟩ := e1 σ hw
  have f3 := e3 σ1
  have htl := zbn t 0 ht
  have hloop := zbr (body := exec (T m) m a_56) (EPr L P t) (fun _ => σ1) P.length (r := _) (fun _ _ h => by cases h) (fun i hi => zdlb L P t i hi (by omega) (hok _ (List.getElem_mem hi)) (e2 i hi hi σ1)) (zgdb L P t) 0 m (by omega) (by omega)
  rw [List.take_length] at hloop
  have hnil : dSs ((P.take 0).map prS) = .nils := rfl
  have hlp : lenOf (dPs P) = some P.length := by simp only [dPs, zax, List.length_map]
  have hlm : lenOf (dSs (P.map prS)) = some P.length := by simp only [dSs, zax, List.length_map]
  have hoP : (dPs P).ok = true := zhr
  have hcP : (dPs P).cells = [dPs P] := zf4
  have hnP : (dPs P).one = true := zdr
  rw [dT_eq t] at f3
  simp only [EPr, scO, bT, zeroI, zcp, hnil] at hloop
  simp only [scD, cT] at g1 f3 ⊢
  rw [T_fun (af := a_82) rfl rfl]
  match P, hP, hok, hloop, hlp, hlm, hoP, hcP, hnP, g1 with
  | [], _, _, hloop, hlp, hlm, _, _, _, g1 =>
    refine ⟨σ1, ?_, x1⟩
    simp only [List.length_nil, zeroI, ow, List.map_nil] at hloop
    have z1 : dSs [] = .nils := rfl
    have z2 : dPs [] = .nils := rfl
    simp only [z1, z2] at hloop g1
    simp only [a_82, de0, de1, de2, szQ, szB, szL, sy0, sy1, sy2, sy3, sy4, sy5, zad, zaa, zac, zae, adel, zah, zag, zai, zaf, evalV, aget, aset, adel1, nth, AOp.kind, Nat.reduceAdd, Nat.reduceSub, Nat.reduceMul, Nat.reduceBEq, Nat.ble, bindO, Nat.reduceLeDiff, Int.reduceBEq, Int.reduceBNe, Int.reduceLE, Int.reduceLT, Int.reduceGE, Int.reduceGT, Int.reduceNeg, ks, lz, memE, memOp, g1, hloop, f3, scS]
  | [p], _, hok, hloop, hlp, hlm, hoP, hcP, hnP, g1 =>
    refine ⟨σ1, ?_, x1⟩
    have hpl := zws p (hok p (by simp))
    have hx : zav 1 (dSs [prS p]) 0 = some (.eptr (.str (prS p))) := rfl
    have hl1 : lenOf (dSs [prS p]) = some 1 := rfl
    have d1 : (prS p).length ≤ 281474976710652 := by omega
    have d2 : (prS p ++ [32, 61, 62, 32]).length + (prT t 0).length ≤ 281474976710656 := by simp; omega
    simp only [List.length_cons, List.length_nil, Nat.zero_add, lz, ow] at hloop hlp hlm
    simp only [a_82, de0, de1, de2, szQ, szB, szL, sy0, sy1, sy2, sy3, sy4, sy5, zad, zaa, zac, zae, adel, zah, zag, zai, zaf, evalV, aget, aset, adel1, nth, AOp.kind, Nat.reduceAdd, Nat.reduceSub, Nat.reduceMul, Nat.reduceBEq, Nat.ble, bindO, Nat.reduceLeDiff, Int.reduceBEq, Int.reduceBNe, Int.reduceLE, Int.reduceLT, Int.reduceGE, Int.reduceGT, Int.reduceNeg, ks, lz, memE, memOp, g1, hlp, hloop, hl1, f3, hx, d1, d2, hoP, hcP, hnP, scS, zlg, zgb, zhb]
  | p :: q :: r, hP, hok, hloop, hlp, hlm, hoP, hcP, hnP, g1 =>
    have hb : zbl (prS p :: (q :: r).map prS) ≤ 1100000 * (p :: q :: r).length := by
      have := zr0 ((p :: q :: r).map prS) 1100000 (fun s hs => by
        obtain ⟨x, hx, rfl⟩ := List.mem_map.1 hs
        exact zws x (hok x hx))
      rwa [List.length_map] at this
    simp only [List.length_cons] at hb hP
    obtain ⟨σ2, g2, x2⟩ := e4 (prS p) ((q :: r).map prS) (by simp) (by simp only [List.length_map, List.length_cons]; omega) (by omega) σ1 x1.wf
    refine ⟨σ2, ?_, x1.trans x2⟩
    have hjl := zm9 [44, 32] (prS p) ((q :: r).map prS)
    simp only [List.length_cons, List.length_nil, Nat.zero_add, Nat.reduceAdd, List.length_map] at hjl
    have hsl : zbl (prS p :: (q :: r).map prS) = (prS p).length + zbl ((q :: r).map prS) := rfl
    have c0 : ((((p :: q :: r : List Pr).length : Nat) : Int) == 0) = false := beq_false_of_ne (by simp only [List.length_cons]; omega)
    have c1 : ((((p :: q :: r : List Pr).length : Nat) : Int) == 1) = false := beq_false_of_ne (by simp only [List.length_cons]; omega)
    have hd : dSs ((p :: q :: r).map prS) = dSs (prS p :: (q :: r).map prS) := rfl
    rw [hd] at hloop hlm
    have hsc : scS (p :: q :: r) t = 40 :: joinS [44, 32] (prS p :: (q :: r).map prS) ++ [41, 32, 61, 62, 32] ++ prT t 0 := rfl
    rw [hsc]
    generalize hJ : joinS [44, 32] (prS p :: (q :: r).map prS) = J at *
    generalize dSs (prS p :: (q :: r).map prS) = dj at *
    generalize (p :: q :: r : List Pr).length = K at *
    generalize dPs (p :: q :: r) = dp at *
    have d1 : J.length ≤ 281474976710655 := by omega
    have d2 : 1 + J.length ≤ 281474976710656 := by omega
    have d3 : J.length + 1 ≤ 281474976710651 := by omega
    have d4 : J.length ≤ 281474976710650 := by omega
    have d5 : (40 :: (J ++ [41, 32, 61, 62, 32])).length + (prT t 0).length ≤ 281474976710656 := by simp; omega
    have d6 : (J ++ [41, 32, 61, 62, 32]).length + 1 + (prT t 0).length ≤ 281474976710656 := by simp; omega
    simp only [a_82, de0, de1, de2, szQ, szB, szL, sy0, sy1, sy2, sy3, sy4, sy5, zad, zaa, zac, zae, adel, zah, zag, zai, zaf, evalV, aget, aset, adel1, nth, AOp.kind, Nat.reduceAdd, Nat.reduceSub, Nat.reduceMul, Nat.reduceBEq, Nat.ble, bindO, Nat.reduceLeDiff, Int.reduceBEq, Int.reduceBNe, Int.reduceLE, Int.reduceLT, Int.reduceGE, Int.reduceGT, Int.reduceNeg, ks, lz, memE, memOp, g1, hlp, hloop, hlm, f3, c0, c1, g2, d1, d2, d3, d4, d5, d6, hoP, hcP, hnP, zlg, zgb, zhb]
end Go.Fu
namespace Go.Fu
open Go Go.Mx
set_option maxRecDepth 10000
theorem zu6 (vs : List (List UInt8)) (kd : D) (ps : List Pr) (t : Tp) (hl : vs.length < 6) (hp : ps.length < 100) : Evly fun n => ∀ σ, T n n_204 [.agg (dSs vs :: kd :: dPs ps :: cT t)] σ = some (.ret ⟨false, scD (vnR vs.length).reverse (ps.map (putP vs (vnT vs.length))).reverse (subT vs (vnT vs.length) t)⟩, σ) :=
  (zl8.and ((zv4 ps vs (vnT vs.length) (by omega) (by omega) (zfc _)).and (zew vs (vnT vs.length) (by omega) (zfc _) t))).step 110 fun m hm h σ => by
  obtain ⟨e1, e2, e3⟩ := h
  have f2 := e2 σ
  have f3 := e3 σ
  have hql : (ps.map (putP vs (vnT vs.length))).length = ps.length := List.length_map _
  have l0 := zbr (body := exec (T m) m a_77) (ER0 vs kd ps t) (fun _ => σ) vs.length (r := _) (fun _ _ h => by cases h) (fun j hj => zdpb vs kd ps t j hj hl (fun x hx => e1 x σ hx)) (zghb vs kd ps t) 0 m (by omega) (by omega)
  have l1 := zbr (body := exec (T m) m a_78) (ER1 vs kd ps t) (fun _ => σ) vs.length (r := _) (fun _ _ h => by cases h) (fun j hj => zdqb vs kd ps t j hj hl (fun x hx => e1 x σ hx)) (zgib vs kd ps t) 0 m (by omega) (by omega)
  generalize hqs : ps.map (putP vs (vnT vs.length)) = qs at *
  have l2 := zbr (body := exec (T m) m a_79) (ER2 vs kd ps qs t (ow ps.length)) (fun _ => σ) qs.length (r := _) (fun _ _ h => by cases h) (fun j hj => zdrb vs kd ps qs t (ow ps.length) j hj (by omega)) (zgjb vs kd ps qs t (ow ps.length)) 0 m (by omega) (by omega)
  have ht0 : (vnR vs.length).reverse.take vs.length = (vnR vs.length).reverse := List.take_of_length_le (by rw [List.length_reverse, zjg]; omega)
  have ht1 : (vnT vs.length).take vs.length = vnT vs.length := List.take_of_length_le (by rw [zfc]; omega)
  have ht2 : qs.reverse.take qs.length = qs.reverse := List.take_of_length_le (by simp)
  have hlv : lenOf (dSs vs) = some vs.length := by simp only [dSs, zax, List.length_map]
  have hlq : lenOf (dPs qs) = some qs.length := by simp only [dPs, zax, List.length_map]
  have w1 : IntKind.i64.wrap ((vs.length : Int) - 1) = (vs.length : Int) - 1 := zbc (by omega) (by omega)
  have w2 : IntKind.i64.wrap ((qs.length : Int) - 1) = (qs.length : Int) - 1 := zbc (by omega) (by omega)
  have z0 : (vs.length : Int) - 1 - ((0 : Nat) : Int) = (vs.length : Int) - 1 := by omega
  have z2 : (qs.length : Int) - 1 - ((0 : Nat) : Int) = (qs.length : Int) - 1 := by omega
  have zn : dSs [] = .nils := rfl
  have zt : dTs [] = .nils := rfl
  have zp : dPs [] = .nils := rfl
  simp only [ER0, yRn, zRn, xRn, bT, z0, List.take_zero, zn, zcp, ht0] at l0
  simp only [ER1, yRn, zRn, xRn, bT, List.take_zero, zt, zcp, zeroI, ht1] at l1
  simp only [ER2, yRn, zRn, xRn, bT, z2, List.take_zero, zp, zcp, ht2] at l2
  rw [dT_eq t, dT_eq (subT vs (vnT vs.length) t)] at f3
  generalize subT vs (vnT vs.length) t = u at *
  simp only [cT] at f3
  rw [T_fun (af := a_138) rfl rfl]
  simp only [a_138, scD, cT, de0, de1, de2, szQ, szB, szL, sy0, sy1, sy2, sy3, sy4, sy5, zad, zaa, zac, zae, adel, zah, zag, zai, zaf, evalV, aget, aset, adel1, nth, AOp.kind, Nat.reduceAdd, Nat.reduceSub, Nat.reduceMul, Nat.reduceBEq, Nat.ble, bindO, Nat.reduceLeDiff, Int.reduceBEq, Int.reduceBNe, Int.reduceLE, Int.reduceLT, Int.reduceGE, Int.reduceGT, Int.reduceNeg, ks, lz, memE, memOp, hlv, hlq, w1, w2, l0, l1, f2, l2, f3]
section
variable {C : CallF} {n : Nat} {σ : Store}
def ENm (vs : List (List UInt8)) (kd : D) (ps : List Pr) (t : Tp) (i : Nat) : Env := { slots := [(3, ⟨ow i, dTs ((vnT vs.length).take i)⟩), (4, ⟨false, .int .i64 i⟩)], locs := [(1, 1, 0)], boxes := [(1, xRn vs kd ps t)], defers := [] }
theorem zdgb (vs : List (List UInt8)) (kd : D) (ps : List Pr) (t : Tp) (i : Nat) (h : i < vs.length) (hl : vs.length < 6) (hc : ∀ x : Nat, x < 6 → C n_31 [.int .i64 (x : Int)] σ = some (.ret ⟨false, .str [UInt8.ofNat (48 + x)]⟩, σ)) (hv : ∀ s, C n_42 [.str s] σ = some (.ret ⟨false, dT (.var s)⟩, σ)) :
    exec C n a_70 (ENm vs kd ps t i) σ = some (.normal, ENm vs kd ps t (i + 1), σ) := by
  have h0 : ((i : Int) < (vs.length : Int)) := by omega
  have w1 := zam (i := i) (by omega)
  have hcc := hc i (by omega)
  have hlv : lenOf (dSs vs) = some vs.length := by simp only [dSs, zax, List.length_map]
  have hi : i < (vnT vs.length).length := by rw [zfc]; exact h
  have hap := zjl ((vnT vs.length).take i) (.var (vn i)) (ow i) ow_ne (by simp; omega)
  rw [← zjh vs.length i hi, za8 _ _ hi, zjh] at hap
  have hvv := hv (vn i)
  simp only [dT, vn] at hap hvv
  have hS : dTs ((vnT vs.length).take i) = dlist k_3 (((vnT vs.length).take i).map dT) := rfl
  have hS1 : dTs ((vnT vs.length).take (i + 1)) = dlist k_3 (((vnT vs.length).take (i + 1)).map dT) := rfl
  simp only [a_70, ENm, xRn, bT, de0, de1, de2, szQ, szB, szL, sy0, sy1, sy2, sy3, sy4, sy5, zad, zaa, zac, zae, adel, zah, zag, zai, zaf, evalV, aget, aset, adel1, nth, AOp.kind, Nat.reduceAdd, Nat.reduceSub, Nat.reduceMul, Nat.reduceBEq, Nat.ble, bindO, Nat.reduceLeDiff, Int.reduceBEq, Int.reduceBNe, Int.reduceLE, Int.reduceLT, Int.reduceGE, Int.reduceGT, Int.reduceNeg, ks, lz, h0, w1, hcc, hlv, hvv, hS, hS1, hap, zcc]
theorem zgab (vs : List (List UInt8)) (kd : D) (ps : List Pr) (t : Tp) : exec C n a_70 (ENm vs kd ps t vs.length) σ = some (.exit 0, { ENm vs kd ps t vs.length with slots := [(3, ⟨ow vs.length, dTs ((vnT vs.length).take vs.length)⟩), (4, ⟨false, .int .i64 vs.length⟩), (9, ⟨false, .bool false⟩)] }, σ) := by
  have h0 : ¬ ((vs.length : Int) < (vs.length : Int)) := by omega
  have hlv : lenOf (dSs vs) = some vs.length := by simp only [dSs, zax, List.length_map]
  simp only [a_70, ENm, xRn, bT, de0, de1, de2, szQ, szB, szL, sy0, sy1, sy2, sy3, sy4, sy5, zad, zaa, zac, zae, adel, zah, zag, zai, zaf, evalV, aget, aset, adel1, nth, AOp.kind, Nat.reduceAdd, Nat.reduceSub, Nat.reduceMul, Nat.reduceBEq, Nat.ble, bindO, Nat.reduceLeDiff, Int.reduceBEq, Int.reduceBNe, Int.reduceLE, Int.reduceLT, Int.reduceGE, Int.reduceGT, Int.reduceNeg, ks, lz, h0, hlv]
end
theorem zxz (vs : List (List UInt8)) (kd : D) (ps : List Pr) (t : Tp) (hl : vs.length < 6) : Evly fun n => ∀ σ, T n n_196 [.agg (dSs vs :: kd :: dPs ps :: cT t)] σ = some (.ret ⟨ow vs.length, dTs (vnT vs.length)⟩, σ) :=
  (zl8.and zwz).step 10 fun m hm h σ => by
  have l0 := zbr (body := exec (T m) m a_70) (ENm vs kd ps t) (fun _ => σ) vs.length (r := _) (fun _ _ h => by cases h) (fun j hj => zdgb vs kd ps t j hj hl (fun x hx => h.1 x σ hx) (fun s => h.2 s σ)) (zgab vs kd ps t) 0 m (by omega) (by omega)
  have ht1 : (vnT vs.length).take vs.length = vnT vs.length := List.take_of_length_le (by rw [zfc]; omega)
  have zt : dTs [] = .nils := rfl
  simp only [ENm, xRn, bT, List.take_zero, zt, zcp, zeroI, ht1] at l0
  rw [T_fun (af := a_120) rfl rfl]
  simp only [a_120, cT, de0, de1, de2, szQ, szB, szL, sy0, sy1, sy2, sy3, sy4, sy5, zad, zaa, zac, zae, adel, zah, zag, zai, zaf, evalV, aget, aset, adel1, nth, AOp.kind, Nat.reduceAdd, Nat.reduceSub, Nat.reduceMul, Nat.reduceBEq, Nat.ble, bindO, Nat.reduceLeDiff, Int.reduceBEq, Int.reduceBNe, Int.reduceLE, Int.reduceLT, Int.reduceGE, Int.reduceGT, Int.reduceNeg, ks, lz, memE, memOp, l0]
end Go.Fu
