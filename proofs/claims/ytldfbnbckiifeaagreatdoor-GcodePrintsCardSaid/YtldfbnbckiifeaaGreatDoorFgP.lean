/-
  Core made flat: the walk.
-/
import Derived.Test.YtldfbnbckiifeaaGreatDoorFgN
set_option maxHeartbeats 4000000
set_option linter.unusedSimpArgs false
set_option linter.unusedVariables false
set_option linter.unusedSectionVars false
namespace Go.Fu
open Go Go.Mx
set_option maxRecDepth 10000
def zrw : List D → Cell → Prop := fun ds c => ∀ co lz ar t m, ds = [dCo co, .bool lz, dSs ar, .str t, dUs m] → c = ⟨false, .tup [dCo (flM co lz ar t m).1, dUs (flM co lz ar t m).2]⟩
theorem zjr {S : Specs} (hS : aget S n_22 = some zrw) (co : Co) (lz : Bool) (ar : List Tx) (t : Tx) (m : List Su) (hp : OkP n_22 [dCo co, .bool lz, dSs ar, .str t, dUs m] ⟨false, .tup [dCo (flM co lz ar t m).1, dUs (flM co lz ar t m).2]⟩) (n : Nat) (σ : Store) :
    T S (n + 1) n_22 [dCo co, .bool lz, dSs ar, .str t, dUs m] σ = some (.ret ⟨false, .tup [dCo (flM co lz ar t m).1, dUs (flM co lz ar t m).2]⟩, σ) := by
  obtain ⟨c, h1, h2⟩ := T_orc (S := S) hS rfl (c := ⟨false, .tup [dCo (flM co lz ar t m).1, dUs (flM co lz ar t m).2]⟩) (fun co' lz' ar' t' m' e => by
    simp only [List.cons.injEq, D.bool.injEq, D.str.injEq, and_true] at e
    obtain ⟨e1, rfl, e2, rfl, e3⟩ := e
    rw [zcn e1, zbn e2, zy1 e3]) hp
  rw [h2, h1 co lz ar t m rfl]
def SFl : Specs := [(n_21, zf7), (n_2, zhg), (n_37, zzg), (n_16, zj5), (n_121, zv4), (n_22, zrw)]
theorem appB1 (a : List (Tx × Co)) (x : Tx × Co) (o : Bool) (ho : a ≠ [] → o = true) (hl : a.length < 1000000000) : za1 k_20 232 ⟨o, dBl a⟩ [dB x] = some ⟨true, dBl (a ++ [x])⟩ := zet ok_dB zfub (by omega) a x o ho hl
theorem appA1 (a : List (Hd × Co)) (x : Hd × Co) (o : Bool) (ho : a ≠ [] → o = true) (hl : a.length < 1000000000) : za1 k_19 216 ⟨o, dAl a⟩ [dA x] = some ⟨true, dAl (a ++ [x])⟩ := zet ok_dA zftb (by omega) a x o ho hl
theorem appU1 (a : List Su) (x : Su) (o : Bool) (ho : a ≠ [] → o = true) (hl : a.length < 1000000000) : za1 k_9 200 ⟨o, dUs a⟩ [dU x] = some ⟨true, dUs (a ++ [x])⟩ := zet ok_dU zt7 (by omega) a x o ho hl
theorem appU (a b : List Su) (o : Bool) (ho : a ≠ [] → o = true) (hl : a.length + b.length < 1000000000) : za1 k_9 200 ⟨o, dUs a⟩ (b.map dU) = some ⟨true, dUs (a ++ b)⟩ := by
  rw [dUs, zhh (fun h => ho (by simpa using h)) (fun d hd => by obtain ⟨x, _, rfl⟩ := List.mem_map.1 hd; exact ⟨ok_dU x, zt7 x⟩) (by simp [bound]; omega) (by simp [bound]; omega)]
  rw [dUs, List.map_append]
theorem appU0 (b : List Su) (o : Bool) (hl : b.length < 1000000000) : za1 k_9 200 ⟨o, .nils⟩ (b.map dU) = some ⟨true, dUs b⟩ := by
  have := appU [] b o (fun h => absurd rfl h) (by simpa using hl)
  simpa [dUs, dlist] using this
theorem okl : (∀ l, (dSs l).ok = true) ∧ (∀ l, (dCs l).ok = true) ∧ (∀ l, (dBl l).ok = true) ∧ (∀ l, (dAl l).ok = true) ∧ (∀ l, (dUs l).ok = true) ∧ (∀ l, (dIs l).ok = true) := ⟨fun _ => zf6, fun _ => zf6, fun _ => zf6, fun _ => zf6, fun _ => zf6, fun _ => zf6⟩
theorem celll : (∀ l, (dSs l).cells = [dSs l]) ∧ (∀ l, (dCs l).cells = [dCs l]) ∧ (∀ l, (dBl l).cells = [dBl l]) ∧ (∀ l, (dAl l).cells = [dAl l]) ∧ (∀ l, (dUs l).cells = [dUs l]) ∧ (∀ l, (dIs l).cells = [dIs l]) := ⟨fun _ => zec, fun _ => zec, fun _ => zec, fun _ => zec, fun _ => zec, fun _ => zec⟩
theorem onel : (∀ l, (dSs l).one = true) ∧ (∀ l, (dCs l).one = true) ∧ (∀ l, (dBl l).one = true) ∧ (∀ l, (dAl l).one = true) ∧ (∀ l, (dUs l).one = true) ∧ (∀ l, (dIs l).one = true) := ⟨fun _ => zcg, fun _ => zcg, fun _ => zcg, fun _ => zcg, fun _ => zcg, fun _ => zcg⟩
theorem zlkb (b : Tx × Co) : Mx.part (some 4) (cB b) 1 = some (.agg [.int .i64 0, .int .i64 0, .str [], .nils]) := rfl
theorem zc0 (x : Int) : (itoaN x).length ≤ 21 := by
  cases x with
  | ofNat a =>
    have := zlf 20 a []
    simp only [itoaN, digN, List.length_nil] at this ⊢
    omega
  | negSucc a =>
    have := zlf 20 (a + 1) []
    simp only [itoaN, digN, List.length_nil, List.length_cons] at this ⊢
    omega
theorem zpn : ∀ (l : List (Tx × Co)) (x : Tx × Co), x ∈ l → x.2.size + l.length ≤ szB l := by
  intro l
  induction l with
  | nil => intro x hx; cases hx
  | cons y r ihl =>
    intro x hx
    obtain ⟨s, c'⟩ := y
    simp only [szB, List.length_cons]
    rcases List.mem_cons.1 hx with rfl | hx
    · have := zbs r; simp only; omega
    · have := ihl x hx; omega
theorem zwe (l : List (Tx × Co)) (i : Nat) (h : i < l.length) : szB (l.take i) + l[i].2.size + 1 ≤ szB l := by
  have : szB l = szB (l.take (i + 1)) + szB (l.drop (i + 1)) := by rw [← zix, List.take_append_drop]
  rw [this, ← zba l i h, zix]
  cases l[i]
  simp only [szB]
  omega
theorem zwd (l : List (Hd × Co)) (i : Nat) (h : i < l.length) : szA (l.take i) + l[i].2.size + l[i].1.vars.length + 1 ≤ szA l := by
  have : szA l = szA (l.take (i + 1)) + szA (l.drop (i + 1)) := by rw [← ziw, List.take_append_drop]
  rw [this, ← zba l i h, ziw]
  cases l[i]
  simp only [szA]
  omega
section
variable {C : CallF} {n : Nat} {σ : Store}
def z10 : List Cell := [⟨false, .int .i64 0⟩, ⟨false, .int .i64 0⟩, ⟨false, .str []⟩, ⟨false, .int .i64 0⟩, ⟨false, .int .i64 0⟩, ⟨false, .str []⟩, ⟨false, .nils⟩, ⟨false, .nils⟩, ⟨false, .nils⟩, ⟨false, .nils⟩]
def bO (c : Co) (k b a : Cell) : List Cell := [⟨false, .int .i64 c.f⟩, ⟨false, .int .i64 c.n⟩, ⟨false, .str c.s⟩, ⟨false, .int .i64 0⟩, ⟨false, .int .i64 0⟩, ⟨false, .str []⟩, ⟨false, .nils⟩, k, b, a]
def Efx (c : Co) (lz : Bool) (ar : List Tx) (t : Tx) (m : List Su) (i : Nat) : Env := { slots := [(1, ⟨false, .bool lz⟩), (2, ⟨false, dSs ar⟩), (3, ⟨false, .str t⟩), (4, ⟨false, dUs (fB c ar t m i).2⟩), (15, ⟨false, dSs (ar ++ c.bs.map Prod.fst)⟩), (16, ⟨false, .int .i64 i⟩)], locs := [(5, 5, 0), (10, 10, 0), (14, 14, 0)], boxes := [(5, bC c), (10, z10), (14, bO c ⟨false, .nils⟩ ⟨ow i, dBl (fB c ar t m i).1⟩ ⟨false, .nils⟩)], defers := [] }
theorem zifb (c : Co) (lz : Bool) (ar : List Tx) (t : Tx) (m : List Su) (i : Nat) (h : i < c.bs.length) (hl : c.size < 100000000)
    (hc : C n_22 [dCo c.bs[i].2, .bool true, dSs (ar ++ c.bs.map Prod.fst), .str t, dUs (fB c ar t m i).2] σ = some (.ret ⟨false, .tup [dCo (flM c.bs[i].2 true (ar ++ c.bs.map Prod.fst) t (fB c ar t m i).2).1, dUs (flM c.bs[i].2 true (ar ++ c.bs.map Prod.fst) t (fB c ar t m i).2).2]⟩, σ)) :
    exec C n none a_89 (Efx c lz ar t m i) σ = some (.normal, Efx c lz ar t m (i + 1), σ) := by
  have hb := zbs c.bs
  have hsz := za3 c
  have hi : ((i : Int) < (c.bs.length : Int)) := by omega
  have hx := idx_B c.bs i h
  have hp := partB c.bs[i]
  have hln : (fB c ar t m i).1.length = i := by rw [fB, zux]; simp; omega
  have ha := appB1 (fB c ar t m i).1 (c.bs[i].1, (flM c.bs[i].2 true (ar ++ c.bs.map Prod.fst) t (fB c ar t m i).2).1) (ow i) (fun h => zqk fun e => h (List.eq_nil_of_length_eq_zero (by omega))) (by omega)
  rw [Efx, Efx, zh5b c ar t m i h]
  simp only [dB_eq, zai] at ha
  simp only [zae, zai] at hc hp
  simp only [a_89, bC, bO, z10, sA, Nat.reduceAdd, Nat.reduceSub, Nat.reduceMul, Nat.reduceBEq, Nat.reduceLeDiff, Int.reduceBEq, Int.reduceBNe, Int.reduceLE, Int.reduceLT, Int.reduceGE, Int.reduceGT, Int.reduceNeg, kn, len_B, hi, natI, hx, agg?_dB, hp, zlkb, zk6b, onel, okl, celll, hc, ha, zaj (i := i) (by omega), zcr]
theorem zkvb (c : Co) (lz : Bool) (ar : List Tx) (t : Tx) (m : List Su) : exec C n none a_89 (Efx c lz ar t m c.bs.length) σ = some (.exit 0, { Efx c lz ar t m c.bs.length with slots := [(1, ⟨false, .bool lz⟩), (2, ⟨false, dSs ar⟩), (3, ⟨false, .str t⟩), (4, ⟨false, dUs (fB c ar t m c.bs.length).2⟩), (15, ⟨false, dSs (ar ++ c.bs.map Prod.fst)⟩), (16, ⟨false, .int .i64 c.bs.length⟩), (81, ⟨false, .bool false⟩)] }, σ) := by
  have hi : ¬ ((c.bs.length : Int) < (c.bs.length : Int)) := by omega
  simp only [a_89, Efx, bC, sA, Nat.reduceAdd, Nat.reduceSub, Nat.reduceMul, Nat.reduceBEq, Nat.reduceLeDiff, Int.reduceBEq, Int.reduceBNe, Int.reduceLE, Int.reduceLT, Int.reduceGE, Int.reduceGT, Int.reduceNeg, kn, len_B, hi]
def Efy (c : Co) (lz : Bool) (ar : List Tx) (t : Tx) (m : List Su) (b : Cell) (i : Nat) : Env := { slots := [(1, ⟨false, .bool lz⟩), (2, ⟨false, dSs ar⟩), (3, ⟨false, .str t⟩), (4, ⟨false, dUs (fK c lz ar t m i).2⟩), (15, ⟨false, dSs (ar ++ c.bs.map Prod.fst)⟩), (19, ⟨false, .int .i64 i⟩)], locs := [(5, 5, 0), (10, 10, 0), (14, 14, 0)], boxes := [(5, bC c), (10, z10), (14, bO c ⟨ow i, dCs (fK c lz ar t m i).1⟩ b ⟨false, .nils⟩)], defers := [] }
theorem zigb (c : Co) (lz : Bool) (ar : List Tx) (t : Tx) (m : List Su) (b : Cell) (i : Nat) (h : i < c.ks.length) (hl : c.size < 100000000)
    (hc : C n_22 [dCo c.ks[i], .bool (lz || (c.f == 4)), dSs (ar ++ c.bs.map Prod.fst), .str t, dUs (fK c lz ar t m i).2] σ = some (.ret ⟨false, .tup [dCo (flM c.ks[i] (lz || (c.f == 4)) (ar ++ c.bs.map Prod.fst) t (fK c lz ar t m i).2).1, dUs (flM c.ks[i] (lz || (c.f == 4)) (ar ++ c.bs.map Prod.fst) t (fK c lz ar t m i).2).2]⟩, σ)) :
    exec C n none a_68 (Efy c lz ar t m b i) σ = some (.normal, Efy c lz ar t m b (i + 1), σ) := by
  have hb := ze8 c.ks
  have hsz := za3 c
  have hi : ((i : Int) < (c.ks.length : Int)) := by omega
  have hx := idx_C c.ks i h
  have hln : (fK c lz ar t m i).1.length = i := by rw [fK, zuz]; simp; omega
  have ha := appC1 (fK c lz ar t m i).1 (flM c.ks[i] (lz || (c.f == 4)) (ar ++ c.bs.map Prod.fst) t (fK c lz ar t m i).2).1 (ow i) (fun h => zqk fun e => h (List.eq_nil_of_length_eq_zero (by omega))) (by omega)
  rw [Efy, Efy, zh6b c lz ar t m i h]
  cases lz with
  | true =>
    simp only [Bool.true_or] at hc ha ⊢
    simp only [zae, zai] at hc hx ha
    simp only [a_68, bC, bO, z10, sA, Nat.reduceAdd, Nat.reduceSub, Nat.reduceMul, Nat.reduceBEq, Nat.reduceLeDiff, Int.reduceBEq, Int.reduceBNe, Int.reduceLE, Int.reduceLT, Int.reduceGE, Int.reduceGT, Int.reduceNeg, kn, len_C, hi, natI, hx, onel, okl, celll, hc, ha, zaj (i := i) (by omega), zcr]
  | false =>
    simp only [Bool.false_or] at hc ha ⊢
    simp only [zae, zai] at hc hx ha
    simp only [a_68, bC, bO, z10, sA, Nat.reduceAdd, Nat.reduceSub, Nat.reduceMul, Nat.reduceBEq, Nat.reduceLeDiff, Int.reduceBEq, Int.reduceBNe, Int.reduceLE, Int.reduceLT, Int.reduceGE, Int.reduceGT, Int.reduceNeg, kn, len_C, hi, natI, hx, onel, okl, celll, hc, ha, zaj (i := i) (by omega), zcr]
theorem zkwb (c : Co) (lz : Bool) (ar : List Tx) (t : Tx) (m : List Su) (b : Cell) : exec C n none a_68 (Efy c lz ar t m b c.ks.length) σ = some (.exit 2, { Efy c lz ar t m b c.ks.length with slots := [(1, ⟨false, .bool lz⟩), (2, ⟨false, dSs ar⟩), (3, ⟨false, .str t⟩), (4, ⟨false, dUs (fK c lz ar t m c.ks.length).2⟩), (15, ⟨false, dSs (ar ++ c.bs.map Prod.fst)⟩), (19, ⟨false, .int .i64 c.ks.length⟩), (121, ⟨false, .bool false⟩)] }, σ) := by
  have hi : ¬ ((c.ks.length : Int) < (c.ks.length : Int)) := by omega
  simp only [a_68, Efy, bC, sA, Nat.reduceAdd, Nat.reduceSub, Nat.reduceMul, Nat.reduceBEq, Nat.reduceLeDiff, Int.reduceBEq, Int.reduceBNe, Int.reduceLE, Int.reduceLT, Int.reduceGE, Int.reduceGT, Int.reduceNeg, kn, len_C, hi]
def Efz (c : Co) (ar : List Tx) (t : Tx) (m : List Su) (k b : Cell) (i : Nat) : Env := { slots := [(2, ⟨false, dSs ar⟩), (3, ⟨false, .str t⟩), (4, ⟨false, dUs (fA c ar t m i).2⟩), (22, ⟨false, .int .i64 i⟩)], locs := [(5, 5, 0), (10, 10, 0), (14, 14, 0)], boxes := [(5, bC c), (10, z10), (14, bO c k b ⟨ow i, dAl (fA c ar t m i).1⟩)], defers := [] }
theorem zihb (c : Co) (ar : List Tx) (t : Tx) (m : List Su) (k b : Cell) (i : Nat) (h : i < c.al.length) (hl : c.size < 100000000) (hbo : C n_2 [dSs ar, dSs c.al[i].1.vars] σ = some (.ret ⟨false, dSs (ar ++ c.al[i].1.vars)⟩, σ))
    (hc : C n_22 [dCo c.al[i].2, .bool false, dSs (ar ++ c.al[i].1.vars), .str t, dUs (fA c ar t m i).2] σ = some (.ret ⟨false, .tup [dCo (flM c.al[i].2 false (ar ++ c.al[i].1.vars) t (fA c ar t m i).2).1, dUs (flM c.al[i].2 false (ar ++ c.al[i].1.vars) t (fA c ar t m i).2).2]⟩, σ)) :
    exec C n none a_90 (Efz c ar t m k b i) σ = some (.normal, Efz c ar t m k b (i + 1), σ) := by
  have hb := zc1 c.al
  have hsz := za3 c
  have hi : ((i : Int) < (c.al.length : Int)) := by omega
  have hx := idx_A c.al i h
  have hp := partA c.al[i]
  have hln : (fA c ar t m i).1.length = i := by rw [fA, zuv]; simp; omega
  have ha := appA1 (fA c ar t m i).1 (c.al[i].1, (flM c.al[i].2 false (ar ++ c.al[i].1.vars) t (fA c ar t m i).2).1) (ow i) (fun h => zqk fun e => h (List.eq_nil_of_length_eq_zero (by omega))) (by omega)
  rw [Efz, Efz, zh4b c ar t m i h]
  have hd := agg?_dA c.al[i]
  have hd2 := dA_eq c.al[i]
  have e4 : Mx.part (some 10) (cA c.al[i]) 4 = some (dCo c.al[i].2) := hp.2.2.2.2
  have e3 : Mx.part none (cA c.al[i]) 3 = some (dSs c.al[i].1.vars) := hp.2.2.2.1
  simp only [dA_eq, cA, zai] at ha hx e3 e4
  simp only [zae, zai] at hc e4
  simp only [a_90, bC, bO, z10, sA, Nat.reduceAdd, Nat.reduceSub, Nat.reduceMul, Nat.reduceBEq, Nat.reduceLeDiff, Int.reduceBEq, Int.reduceBNe, Int.reduceLE, Int.reduceLT, Int.reduceGE, Int.reduceGT, Int.reduceNeg, kn, len_A, hi, natI, hx, e3, e4, zbk, onel, okl, celll, hbo, hc, ha, zaj (i := i) (by omega), zcr]
theorem zkxb (c : Co) (ar : List Tx) (t : Tx) (m : List Su) (k b : Cell) : exec C n none a_90 (Efz c ar t m k b c.al.length) σ = some (.exit 4, { Efz c ar t m k b c.al.length with slots := [(2, ⟨false, dSs ar⟩), (3, ⟨false, .str t⟩), (4, ⟨false, dUs (fA c ar t m c.al.length).2⟩), (22, ⟨false, .int .i64 c.al.length⟩), (153, ⟨false, .bool false⟩)] }, σ) := by
  have hi : ¬ ((c.al.length : Int) < (c.al.length : Int)) := by omega
  simp only [a_90, Efz, bC, sA, Nat.reduceAdd, Nat.reduceSub, Nat.reduceMul, Nat.reduceBEq, Nat.reduceLeDiff, Int.reduceBEq, Int.reduceBNe, Int.reduceLE, Int.reduceLT, Int.reduceGE, Int.reduceGT, Int.reduceNeg, kn, len_A, hi]
end
theorem zdeb : ∀ (k : Nat) (c : Co) (lz : Bool) (ar : List Tx) (t : Tx) (m : List Su), c.size = k → ar.length + c.size < 100000000 → m.length + c.size < 100000000 → t.length < 100000000 →
    OkP n_22 [dCo c, .bool lz, dSs ar, .str t, dUs m] ⟨false, .tup [dCo (flM c lz ar t m).1, dUs (flM c lz ar t m).2]⟩ := by
  intro k
  induction k using Nat.strongRecOn with
  | ind k ih =>
    intro c lz ar t m hk hl hlm hlt
    have hsz := za3 c
    have hb := zbs c.bs
    have hks := ze8 c.ks
    have ha := zc1 c.al
    have e1 : dSs [] = .nils := rfl
    cases hlift : zdt c lz with
    | true =>
      rw [zjb c lz ar t m hlift]
      refine zap (af := a_44) (n := 1) (σ' := σ0) (zar SFl 1) rfl rfl (by simp [zan, noPtr, za5, zas, zdj]) (by simp [noPtr, zan, za5, zdj]) ?_
      simp only [zdt, Bool.and_eq_true] at hlift
      obtain ⟨rfl, hform⟩ := hlift
      have hfr := call_Free' (S := SFl) rfl c [] ar [] (zceb _ c [] ar [] rfl (by simp; omega) (by simp; omega) (by omega)) 0 σ0
      rw [e1] at hfr
      have hfl := zju c.size c [] ar []
      simp only [List.length_nil, Nat.zero_add] at hfl
      have w1 : IntKind.i64.wrap ((m.length : Int) + 1) = (m.length : Int) + 1 := zbu (by omega) (by omega)
      have hdg := zhi (S := SFl) rfl ((m.length : Int) + 1) ⟨by omega, by omega⟩ 0 σ0
      have hgi := zzy (S := SFl) rfl (liftN t m) (freeM c.size c [] ar []) (by omega) 0 σ0
      have hap := appU1 m ⟨liftN t m, freeM c.size c [] ar [], c⟩ true (fun _ => rfl) (by omega)
      have hap0 := appU0 m false (by omega)
      have hil := zc0 ((m.length : Int) + 1)
      have hb1 : (t.length + (0 + 1) ≤ 281474976710656) := by omega
      have hb2 : ((t ++ [37]).length + (itoaN ((m.length : Int) + 1)).length ≤ 281474976710656) := by simp; omega
      simp only [dU_eq, cU, zai, liftN] at hap
      simp only [liftN, zae, zai] at hgi
      simp only [zae, zai] at hfr
      cases h1 : (c.f == 9) with
      | true => simp only [a_44, sA, Nat.reduceAdd, Nat.reduceSub, Nat.reduceMul, Nat.reduceBEq, Nat.reduceLeDiff, Int.reduceBEq, Int.reduceBNe, Int.reduceLE, Int.reduceLT, Int.reduceGE, Int.reduceGT, Int.reduceNeg, kn, zae, zai, onel, okl, celll, h1, hfr, len_U, w1, hdg, hb1, hb2, hgi, zk8, hap0, hap, liftM, liftN, z10]
      | false =>
        cases h2 : (c.f == 10) with
        | true => simp only [a_44, sA, Nat.reduceAdd, Nat.reduceSub, Nat.reduceMul, Nat.reduceBEq, Nat.reduceLeDiff, Int.reduceBEq, Int.reduceBNe, Int.reduceLE, Int.reduceLT, Int.reduceGE, Int.reduceGT, Int.reduceNeg, kn, zae, zai, onel, okl, celll, h1, h2, hfr, len_U, w1, hdg, hb1, hb2, hgi, zk8, hap0, hap, liftM, liftN, z10]
        | false =>
          have h3 : (c.f == 11) = true := by simpa [h1, h2] using hform
          simp only [a_44, sA, Nat.reduceAdd, Nat.reduceSub, Nat.reduceMul, Nat.reduceBEq, Nat.reduceLeDiff, Int.reduceBEq, Int.reduceBNe, Int.reduceLE, Int.reduceLT, Int.reduceGE, Int.reduceGT, Int.reduceNeg, kn, zae, zai, onel, okl, celll, h1, h2, h3, hfr, len_U, w1, hdg, hb1, hb2, hgi, zk8, hap0, hap, liftM, liftN, z10]
    | false =>
      rw [zht c lz ar t m hlift]
      refine zap (af := a_44) (n := c.size + 1) (σ' := σ0) (zar SFl 1) rfl rfl (by simp [zan, noPtr, za5, zas, zdj]) (by simp [noPtr, zan, za5, zdj]) ?_
      have hbi := zih (S := SFl) rfl c (by omega) 0 σ0
      have hbo := zfb (S := SFl) rfl ar (c.bs.map Prod.fst) (by simp; omega) 0 σ0
      have hl0 := za4 (body := exec (T SFl 1) (c.size + 1) none a_89) (Efx c lz ar t m) (fun _ => σ0) c.bs.length (r := _) (fun _ _ h => by cases h) (fun i hi => zifb c lz ar t m i hi (by omega) (by
        have h1 := zwe c.bs i hi
        have h3 := zpn c.bs _ (List.getElem_mem hi)
        have h2 := zy5 c ar t m i
        exact zjr (S := SFl) rfl _ _ _ _ _ (ih _ (by omega) c.bs[i].2 _ _ _ _ rfl (by simp; omega) (by omega) hlt) 0 σ0)) (zkvb c lz ar t m) 0 (c.size + 1) (by omega) (by omega)
      have hm1 := zy5 c ar t m c.bs.length
      rw [List.take_length] at hm1
      have hl1 := za4 (body := exec (T SFl 1) (c.size + 1) none a_68) (Efy c lz ar t (fB c ar t m c.bs.length).2 ⟨ow c.bs.length, dBl (fB c ar t m c.bs.length).1⟩) (fun _ => σ0) c.ks.length (r := _) (fun _ _ h => by cases h) (fun i hi => zigb c lz ar t _ _ i hi (by omega) (by
        have h1 := zwf c.ks i hi
        have h2 := zy6 c lz ar t (fB c ar t m c.bs.length).2 i
        exact zjr (S := SFl) rfl _ _ _ _ _ (ih _ (by omega) c.ks[i] _ _ _ _ rfl (by simp; omega) (by omega) hlt) 0 σ0)) (zkwb c lz ar t _ _) 0 (c.size + 1) (by omega) (by omega)
      have hm2 := zy6 c lz ar t (fB c ar t m c.bs.length).2 c.ks.length
      rw [List.take_length] at hm2
      have hl2 := za4 (body := exec (T SFl 1) (c.size + 1) none a_90) (Efz c ar t (fK c lz ar t (fB c ar t m c.bs.length).2 c.ks.length).2 ⟨ow c.ks.length, dCs (fK c lz ar t (fB c ar t m c.bs.length).2 c.ks.length).1⟩ ⟨ow c.bs.length, dBl (fB c ar t m c.bs.length).1⟩) (fun _ => σ0) c.al.length (r := _) (fun _ _ h => by cases h) (fun i hi => zihb c ar t _ _ _ i hi (by omega) (by
        have h1 := zwd c.al i hi
        exact zfb (S := SFl) rfl _ _ (by omega) 0 σ0) (by
        have h1 := zwd c.al i hi
        have h2 := zh3b c ar t (fK c lz ar t (fB c ar t m c.bs.length).2 c.ks.length).2 i
        exact zjr (S := SFl) rfl _ _ _ _ _ (ih _ (by omega) c.al[i].2 _ _ _ _ rfl (by simp; omega) (by omega) hlt) 0 σ0)) (zkxb c ar t _ _ _) 0 (c.size + 1) (by omega) (by omega)
      have z1 : (fB c ar t m 0) = ([], m) := rfl
      have z2 : ∀ m, (fK c lz ar t m 0) = ([], m) := fun _ => rfl
      have z3 : ∀ m, (fA c ar t m 0) = ([], m) := fun _ => rfl
      have n1 : dBl [] = .nils := rfl
      have n2 : dCs [] = .nils := rfl
      have n3 : dAl [] = .nils := rfl
      simp only [Efx, bC, bO, z10, zeroI, z1, n1, zgi] at hl0
      simp only [Efy, bC, bO, z10, zeroI, z2, n2, zgi] at hl1
      simp only [Efz, bC, bO, z10, zeroI, z3, n3, zgi] at hl2
      simp only [zae, zai] at hbi
      simp only [zdt] at hlift
      cases lz with
      | false =>
        simp only [a_44, sA, Nat.reduceAdd, Nat.reduceSub, Nat.reduceMul, Nat.reduceBEq, Nat.reduceLeDiff, Int.reduceBEq, Int.reduceBNe, Int.reduceLE, Int.reduceLT, Int.reduceGE, Int.reduceGT, Int.reduceNeg, kn, zae, zai, co, onel, okl, celll, hbi, hbo, hl0, hl1, hl2]
      | true =>
        simp only [Bool.true_and, Bool.or_eq_false_iff] at hlift
        simp only [a_44, sA, Nat.reduceAdd, Nat.reduceSub, Nat.reduceMul, Nat.reduceBEq, Nat.reduceLeDiff, Int.reduceBEq, Int.reduceBNe, Int.reduceLE, Int.reduceLT, Int.reduceGE, Int.reduceGT, Int.reduceNeg, kn, zae, zai, co, onel, okl, celll, hlift.1.1, hlift.1.2, hlift.2, hbi, hbo, hl0, hl1, hl2]
end Go.Fu
namespace Go.Fu
open Go Go.Mx
set_option maxRecDepth 10000
inductive Shp (B : Nat) : Co → Prop
  | leaf {f n s} : (f = 1 ∨ f = 2 ∨ f = 3 ∨ f = 11) → Small n → s.length ≤ B → Shp B (.mk f n s [] [] [])
  | app {s a b} : s.length ≤ B → Shp B a → Shp B b → Shp B (.mk 4 0 s [a, b] [] [])
  | prim {s a b} : s.length ≤ B → Shp B a → Shp B b → Shp B (.mk 10 0 s [a, b] [] [])
  | lt {s b bs} : s.length ≤ B → (∀ p ∈ bs, p.1.length ≤ B) → (∀ p ∈ bs, Shp B p.2) → Shp B b → Shp B (.mk 8 0 s [b] bs [])
  | cas {s x al} : s.length ≤ B → (∀ a ∈ al, Small a.1.num ∧ a.1.name.length ≤ B ∧ ∀ v ∈ a.1.vars, v.length ≤ B) → Shp B x → (∀ a ∈ al, Shp B a.2) → Shp B (.mk 9 0 s [x] [] al)
inductive Fl (B : Nat) : Bool → Co → Prop
  | leaf {z f n s} : (f = 1 ∨ f = 2 ∨ f = 3) → Small n → s.length ≤ B → Fl B z (.mk f n s [] [] [])
  | app {z s a b} : s.length ≤ B → Fl B true a → Fl B true b → Fl B z (.mk 4 0 s [a, b] [] [])
  | lt {z s b bs} : s.length ≤ B → (∀ p ∈ bs, p.1.length ≤ B) → (∀ p ∈ bs, Fl B true p.2) → Fl B z b → Fl B z (.mk 8 0 s [b] bs [])
  | fail {n s} : Fl B false (.mk 11 n s [] [] [])
  | prim {s a b} : s.length ≤ B → Fl B false a → Fl B false b → Fl B false (.mk 10 0 s [a, b] [] [])
  | cas {s x al} : s.length ≤ B → (∀ a ∈ al, Small a.1.num ∧ a.1.name.length ≤ B ∧ ∀ v ∈ a.1.vars, v.length ≤ B) → Fl B false x → (∀ a ∈ al, Fl B false a.2) → Fl B false (.mk 9 0 s [x] [] al)
theorem zvz {B : Nat} {c : Co} (h : Shp B c) : ∀ x ∈ zac c, Shp B x := by
  cases h with
  | leaf _ _ _ => intro x hx; simp [zac, co] at hx
  | app _ ha hb =>
    intro x hx
    simp only [zac, co, List.map_nil, List.nil_append, List.append_nil, List.mem_cons, List.not_mem_nil, or_false] at hx
    rcases hx with rfl | rfl
    · exact ha
    · exact hb
  | prim _ ha hb =>
    intro x hx
    simp only [zac, co, List.map_nil, List.nil_append, List.append_nil, List.mem_cons, List.not_mem_nil, or_false] at hx
    rcases hx with rfl | rfl
    · exact ha
    · exact hb
  | lt _ _ h2 h3 =>
    intro x hx
    simp only [zac, co, List.map_nil, List.append_nil, List.mem_append, List.mem_map, List.mem_cons, List.not_mem_nil, or_false] at hx
    rcases hx with ⟨p, hp, rfl⟩ | rfl
    · exact h2 p hp
    · exact h3
  | cas _ _ h2 h3 =>
    intro x hx
    simp only [zac, co, List.map_nil, List.nil_append, List.mem_append, List.mem_map, List.mem_cons, List.not_mem_nil, or_false] at hx
    rcases hx with rfl | ⟨p, hp, rfl⟩
    · exact h2
    · exact h3 p hp
theorem zhab {B : Nat} {c : Co} (h : Shp B c) : c.s.length ≤ B := by cases h <;> assumption
theorem zob {B : Nat} : ∀ (k : Nat) (c : Co) (g s h : List Tx), Shp B c → ∀ x ∈ freeM k c g s h, x ∈ h ∨ x.length ≤ B
  | 0, c, g, s, h, _, x, hx => .inl hx
  | k + 1, c, g, s, h, hs, x, hx => by
    simp only [freeM] at hx
    cases hn : newF c g s h with
    | true =>
      rw [hn] at hx
      simp only [zad, List.mem_append, List.mem_cons, List.not_mem_nil, or_false] at hx
      exact hx.imp id fun e => by rw [e]; exact zhab hs
    | false =>
      rw [hn] at hx
      simp only [zaf] at hx
      have hf : ∀ (n : Nat), n ≤ (zac c).length → ∀ x ∈ (List.range n).foldl (fun h i => freeM k ((zac c).getD i c0) (g ++ zaw c i) s h) h, x ∈ h ∨ x.length ≤ B := by
        intro n
        induction n with
        | zero => intro _ x hx; exact .inl hx
        | succ n ihn =>
          intro hle x hx
          rw [List.range_succ, List.foldl_append] at hx
          simp only [List.foldl_cons, List.foldl_nil] at hx
          have hlt : n < (zac c).length := by omega
          rw [za0 _ _ _ hlt] at hx
          rcases zob k _ _ _ _ (zvz hs _ (List.getElem_mem hlt)) x hx with h1 | h1
          · exact ihn (by omega) x h1
          · exact .inr h1
      exact hf _ (Nat.le_refl _) x hx
def szU : List Su → Nat
  | [] => 0
  | u :: r => u.body.size + szU r
theorem ziy (a b : List Su) : szU (a ++ b) = szU a + szU b := by
  induction a with
  | nil => simp [szU]
  | cons x r ih => simp only [List.cons_append, szU, ih]; omega
def NewU (B : Nat) (t : Tx) (u : Su) : Prop := Shp B u.body ∧ u.name.length ≤ t.length + 22 ∧ u.ps.length ≤ u.body.size ∧ ∀ p ∈ u.ps, p.length ≤ B
def Res (B B' : Nat) (t : Tx) (z : Bool) (c : Co) (m : List Su) (r : Co × List Su) : Prop := Fl B' z r.1 ∧ r.1.size ≤ 3 * c.size ∧ szU r.2 ≤ szU m + c.size ∧ ∀ u ∈ r.2, u ∈ m ∨ NewU B t u
section
variable {B B' : Nat} {t : Tx}
theorem zo3 {F : Co → List Su → Co × List Su} : ∀ (l : List (Tx × Co)) (m : List Su), (∀ p ∈ l, ∀ m, Res B B' t true p.2 m (F p.2 m)) →
    (∀ q ∈ (mapB F l m).1, Fl B' true q.2) ∧ (mapB F l m).1.map Prod.fst = l.map Prod.fst ∧ szB (mapB F l m).1 ≤ 3 * szB l ∧ szU (mapB F l m).2 ≤ szU m + szB l ∧ ∀ u ∈ (mapB F l m).2, u ∈ m ∨ NewU B t u
  | [], m, _ => ⟨fun q hq => by simp [mapB] at hq, rfl, by simp [mapB, szB], by simp [mapB], fun u hu => .inl hu⟩
  | (s, c) :: l, m, h => by
    obtain ⟨a1, a2, a3, a4⟩ := h (s, c) (List.mem_cons_self ..) m
    obtain ⟨b1, b2, b3, b4, b5⟩ := zo3 l (F c m).2 fun q hq => h q (List.mem_cons_of_mem _ hq)
    simp only [mapB] at a1 a2 a3 a4 ⊢
    refine ⟨fun q hq => ?_, by simp only [List.map_cons, b2], by simp only [szB]; omega, by simp only [szB]; omega, fun u hu => ?_⟩
    · rcases List.mem_cons.1 hq with rfl | hq
      · exact a1
      · exact b1 q hq
    · rcases b5 u hu with h1 | h1
      · exact a4 u h1
      · exact .inr h1
theorem zg4 {z : Bool} {F : Co → List Su → Co × List Su} : ∀ (l : List Co) (m : List Su), (∀ p ∈ l, ∀ m, Res B B' t z p m (F p m)) →
    (∀ q ∈ (mapK F l m).1, Fl B' z q) ∧ szK (mapK F l m).1 ≤ 3 * szK l ∧ szU (mapK F l m).2 ≤ szU m + szK l ∧ ∀ u ∈ (mapK F l m).2, u ∈ m ∨ NewU B t u
  | [], m, _ => ⟨fun q hq => by simp [mapK] at hq, by simp [mapK, szK], by simp [mapK], fun u hu => .inl hu⟩
  | c :: l, m, h => by
    obtain ⟨a1, a2, a3, a4⟩ := h c (List.mem_cons_self ..) m
    obtain ⟨b1, b3, b4, b5⟩ := zg4 l (F c m).2 fun q hq => h q (List.mem_cons_of_mem _ hq)
    simp only [mapK] at a1 a2 a3 a4 ⊢
    refine ⟨fun q hq => ?_, by simp only [szK]; omega, by simp only [szK]; omega, fun u hu => ?_⟩
    · rcases List.mem_cons.1 hq with rfl | hq
      · exact a1
      · exact b1 q hq
    · rcases b5 u hu with h1 | h1
      · exact a4 u h1
      · exact .inr h1
theorem zo2 {F : Hd → Co → List Su → Co × List Su} : ∀ (l : List (Hd × Co)) (m : List Su), (∀ p ∈ l, ∀ m, Res B B' t false p.2 m (F p.1 p.2 m)) →
    (∀ q ∈ (mapA F l m).1, Fl B' false q.2) ∧ (mapA F l m).1.map Prod.fst = l.map Prod.fst ∧ szA (mapA F l m).1 ≤ 3 * szA l ∧ szU (mapA F l m).2 ≤ szU m + szA l ∧ ∀ u ∈ (mapA F l m).2, u ∈ m ∨ NewU B t u
  | [], m, _ => ⟨fun q hq => by simp [mapA] at hq, rfl, by simp [mapA, szA], by simp [mapA], fun u hu => .inl hu⟩
  | (s, c) :: l, m, h => by
    obtain ⟨a1, a2, a3, a4⟩ := h (s, c) (List.mem_cons_self ..) m
    obtain ⟨b1, b2, b3, b4, b5⟩ := zo2 l (F s c m).2 fun q hq => h q (List.mem_cons_of_mem _ hq)
    simp only [mapA] at a1 a2 a3 a4 ⊢
    refine ⟨fun q hq => ?_, by simp only [List.map_cons, b2], by simp only [szA]; omega, by simp only [szA]; omega, fun u hu => ?_⟩
    · rcases List.mem_cons.1 hq with rfl | hq
      · exact a1
      · exact b1 q hq
    · rcases b5 u hu with h1 | h1
      · exact a4 u h1
      · exact .inr h1
theorem zsg {z : Bool} : ∀ (l : List Tx) (c : Co), (∀ z, Fl B' z c) → (∀ x ∈ l, x.length ≤ B') → Fl B' z (zdr c l)
  | [], c, h, _ => h z
  | s :: l, c, h, hl => zsg l (appC' c (varC s)) (fun z => .app (by simp) (h true) (.leaf (.inl rfl) ⟨by decide, by decide⟩ (hl s (List.mem_cons_self ..)))) fun x hx => hl x (List.mem_cons_of_mem _ hx)
theorem zo1 {z : Bool} {c : Co} {ar : List Tx} {m : List Su} (hs : Shp B c) (hB : B ≤ B') (ht : t.length + 22 ≤ B') : Res B B' t z c m (liftM c ar t m) := by
  have hn : (liftN t m).length ≤ t.length + 22 := by
    have := zc0 ((m.length : Int) + 1)
    simp only [liftN, List.length_append, List.length_cons, List.length_nil]
    omega
  have hfl := zju c.size c [] ar []
  simp only [List.length_nil, Nat.zero_add] at hfl
  have hp := zch c
  have hnm : ∀ x ∈ freeM c.size c [] ar [], x.length ≤ B := fun x hx => (zob _ _ _ _ _ hs x hx).resolve_left (by simp)
  refine ⟨zsg _ _ (fun z => .leaf (.inl rfl) ⟨by decide, by decide⟩ (by omega)) fun x hx => by have := hnm x hx; omega, ?_, ?_, fun u hu => ?_⟩
  · simp only [liftM, zx3, zv0]; omega
  · simp only [liftM, ziy, szU]; omega
  · simp only [liftM, List.mem_append, List.mem_cons, List.not_mem_nil, or_false] at hu
    exact hu.imp id fun e => by subst e; exact ⟨hs, hn, hfl, hnm⟩
theorem znz {c : Co} (hs : Shp B c) (hB : B ≤ B') (ht : t.length + 22 ≤ B') : ∀ (z : Bool) (ar : List Tx) (m : List Su), Res B B' t z c m (flM c z ar t m) := by
  induction hs with
  | @leaf f n s hf hn hl =>
    intro z ar m
    cases hli : zdt (.mk f n s [] [] []) z with
    | true =>
      rw [zjb _ _ _ _ _ hli]
      exact zo1 (.leaf hf hn hl) hB ht
    | false =>
      rw [zht _ _ _ _ _ hli]
      simp only [co, fB, fK, fA, List.length_nil, List.take_nil, mapB, mapK, mapA]
      refine ⟨?_, by simp only; omega, by simp only; omega, fun u hu => .inl hu⟩
      rcases hf with rfl | rfl | rfl | rfl
      · exact .leaf (.inl rfl) hn (by omega)
      · exact .leaf (.inr (.inl rfl)) hn (by omega)
      · exact .leaf (.inr (.inr rfl)) hn (by omega)
      · cases z with
        | true => cases hli
        | false => exact .fail
  | @app s a b hl _ _ iha ihb =>
    intro z ar m
    have hli : zdt (.mk 4 0 s [a, b] [] []) z = false := by cases z <;> rfl
    rw [zht _ _ _ _ _ hli]
    have e : (z || ((4 : Int) == 4)) = true := by cases z <;> rfl
    have hk := zg4 (B := B) (B' := B') (t := t) (z := true) (F := fun x m => flM x true (ar ++ []) t m) [a, b] m fun p hp m => by
      simp only [List.mem_cons, List.not_mem_nil, or_false] at hp
      rcases hp with rfl | rfl
      · exact iha _ _ _
      · exact ihb _ _ _
    simp only [co, fB, fK, fA, List.length_nil, List.take_nil, mapB, mapA, e, List.map_nil, List.take_length]
    obtain ⟨k1, k2, k3, k4⟩ := hk
    refine ⟨?_, ?_, ?_, k4⟩
    · simp only [mapK] at k1 ⊢
      exact .app (by omega) (k1 _ (by simp)) (k1 _ (by simp))
    · simp only [Co.size, szB, szA] at k2 ⊢; omega
    · simp only [Co.size, szB, szA] at k3 ⊢; omega
  | @prim s a b hl ha hb iha ihb =>
    intro z ar m
    cases z with
    | true =>
      rw [zjb _ _ _ _ _ rfl]
      exact zo1 (.prim hl ha hb) hB ht
    | false =>
      rw [zht _ _ _ _ _ rfl]
      have e : (false || ((10 : Int) == 4)) = false := rfl
      have hk := zg4 (B := B) (B' := B') (t := t) (z := false) (F := fun x m => flM x false (ar ++ []) t m) [a, b] m fun p hp m => by
        simp only [List.mem_cons, List.not_mem_nil, or_false] at hp
        rcases hp with rfl | rfl
        · exact iha _ _ _
        · exact ihb _ _ _
      simp only [co, fB, fK, fA, List.length_nil, List.take_nil, mapB, mapA, e, List.map_nil, List.take_length]
      obtain ⟨k1, k2, k3, k4⟩ := hk
      refine ⟨?_, ?_, ?_, k4⟩
      · simp only [mapK] at k1 ⊢
        exact .prim (by omega) (k1 _ (by simp)) (k1 _ (by simp))
      · simp only [Co.size, szB, szA] at k2 ⊢; omega
      · simp only [Co.size, szB, szA] at k3 ⊢; omega
  | @lt s b bs hl hbn hbs hb ihs ihb =>
    intro z ar m
    have hli : zdt (.mk 8 0 s [b] bs []) z = false := by cases z <;> rfl
    rw [zht _ _ _ _ _ hli]
    have e : (z || ((8 : Int) == 4)) = z := by cases z <;> rfl
    obtain ⟨b1, b2, b3, b4, b5⟩ := zo3 (B := B) (B' := B') (t := t) (F := fun x m => flM x true (ar ++ bs.map Prod.fst) t m) bs m fun p hp m => ihs p hp _ _ _
    obtain ⟨k1, k2, k3, k4⟩ := zg4 (B := B) (B' := B') (t := t) (z := z) (F := fun x m => flM x z (ar ++ bs.map Prod.fst) t m) [b] (mapB (fun x m => flM x true (ar ++ bs.map Prod.fst) t m) bs m).2 fun p hp m => by
      simp only [List.mem_cons, List.not_mem_nil, or_false] at hp
      subst hp
      exact ihb _ _ _
    simp only [co, fB, fK, fA, List.length_nil, List.take_nil, mapA, e, List.take_length]
    refine ⟨?_, ?_, ?_, fun u hu => ?_⟩
    · simp only [mapK] at k1 ⊢
      refine .lt (by omega) (fun p hp => ?_) b1 (k1 _ (by simp))
      have hm : p.1 ∈ (mapB (fun x m => flM x true (ar ++ bs.map Prod.fst) t m) bs m).1.map Prod.fst := List.mem_map.2 ⟨p, hp, rfl⟩
      rw [b2] at hm
      obtain ⟨q, hq, e⟩ := List.mem_map.1 hm
      have := hbn q hq
      rw [← e]
      omega
    · simp only [Co.size, szA] at k2 ⊢; omega
    · simp only [Co.size, szA] at k3 ⊢; omega
    · rcases k4 u hu with h1 | h1
      · exact b5 u h1
      · exact .inr h1
  | @cas s x al hl hal hx hxs ihx ihs =>
    intro z ar m
    cases z with
    | true =>
      rw [zjb _ _ _ _ _ rfl]
      exact zo1 (.cas hl hal hx hxs) hB ht
    | false =>
      rw [zht _ _ _ _ _ rfl]
      have e : (false || ((9 : Int) == 4)) = false := rfl
      obtain ⟨k1, k2, k3, k4⟩ := zg4 (B := B) (B' := B') (t := t) (z := false) (F := fun x m => flM x false (ar ++ []) t m) [x] m fun p hp m => by
        simp only [List.mem_cons, List.not_mem_nil, or_false] at hp
        subst hp
        exact ihx _ _ _
      obtain ⟨a1, a2, a3, a4, a5⟩ := zo2 (B := B) (B' := B') (t := t) (F := fun h x m => flM x false (ar ++ h.vars) t m) al (mapK (fun x m => flM x false (ar ++ []) t m) [x] m).2 fun p hp m => ihs p hp _ _ _
      simp only [co, fB, fK, fA, List.length_nil, List.take_nil, mapB, e, List.map_nil, List.take_length]
      refine ⟨?_, ?_, ?_, fun u hu => ?_⟩
      · simp only [mapK] at k1 a1 a2 ⊢
        refine .cas (by omega) (fun p hp => ?_) (k1 _ (by simp)) a1
        have hm : p.1 ∈ (mapA (fun h x m => flM x false (ar ++ h.vars) t m) al (flM x false (ar ++ []) t m).2).1.map Prod.fst := List.mem_map.2 ⟨p, hp, rfl⟩
        rw [a2] at hm
        obtain ⟨q, hq, e⟩ := List.mem_map.1 hm
        have := hal q hq
        rw [← e]
        exact ⟨this.1, by omega, fun v hv => by have := this.2.2 v hv; omega⟩
      · simp only [Co.size, szB] at k2 ⊢; omega
      · simp only [Co.size, szB] at k3 ⊢; omega
      · rcases a5 u hu with h1 | h1
        · exact k4 u h1
        · exact .inr h1
end
theorem zf1b {B B' : Nat} {t : Tx} {c : Co} (hs : Shp B c) (hB : B ≤ B') (ht : t.length + 22 ≤ B') (ar : List Tx) (m : List Su) : szU (flM c false ar t m).2 + 1 ≤ szU m + c.size := by
  have hli : zdt c false = false := rfl
  rw [zht _ _ _ _ _ hli]
  have hsz := za3 c
  have hparts := zvz hs
  have h1 := (zo3 (B := B) (B' := B') (t := t) (F := fun x m => flM x true (ar ++ c.bs.map Prod.fst) t m) c.bs m fun p hp m => znz (hparts _ (by simp only [zac, List.mem_append, List.mem_map]; exact .inl (.inl ⟨p, hp, rfl⟩))) hB ht _ _ _).2.2.2.1
  have h2 := (zg4 (B := B) (B' := B') (t := t) (z := false || (c.f == 4)) (F := fun x m => flM x (false || (c.f == 4)) (ar ++ c.bs.map Prod.fst) t m) c.ks (fB c ar t m c.bs.length).2 fun p hp m => znz (hparts _ (by simp only [zac, List.mem_append]; exact .inl (.inr hp))) hB ht _ _ _).2.2.1
  have h3 := (zo2 (B := B) (B' := B') (t := t) (F := fun h x m => flM x false (ar ++ h.vars) t m) c.al (fK c false ar t (fB c ar t m c.bs.length).2 c.ks.length).2 fun p hp m => znz (hparts _ (by simp only [zac, List.mem_append, List.mem_map]; exact .inr ⟨p, hp, rfl⟩)) hB ht _ _ _).2.2.2.1
  have e1 : fB c ar t m c.bs.length = mapB (fun x m => flM x true (ar ++ c.bs.map Prod.fst) t m) c.bs m := by rw [fB, List.take_length]
  have e2 : ∀ m, fK c false ar t m c.ks.length = mapK (fun x m => flM x (false || (c.f == 4)) (ar ++ c.bs.map Prod.fst) t m) c.ks m := fun m => by rw [fK, List.take_length]
  have e3 : ∀ m, fA c ar t m c.al.length = mapA (fun h x m => flM x false (ar ++ h.vars) t m) c.al m := fun m => by rw [fA, List.take_length]
  rw [e1] at h2 h3 ⊢
  rw [e2] at h3 ⊢
  simp only [e3]
  omega
end Go.Fu
