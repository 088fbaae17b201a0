/-
  Types made of numbers, without TAlls.
-/
import Derived.Test.YtkgdpcnobfadaaaGreatDoorFnAp
import Derived.Test.YtkgdpcnobfadaaaGreatDoorFnX2
import Derived.Test.YtkgdpcnobfadaaaGreatDoorFnF1
set_option linter.unusedSimpArgs false
set_option linter.unusedVariables false
namespace Go.Fu
open Go Go.Mx
set_option maxRecDepth 10000
theorem zidb (n m : Nat) : ((n : Int)).tmod (m : Int) = ((n % m : Nat) : Int) := by
  rw [Int.tmod_eq_emod_of_nonneg (by omega)]
  omega
theorem zbg (n m : Nat) (h : n < 1048576) : IntKind.i64.wrap (((n : Int)).tdiv (m : Int)) = ((n / m : Nat) : Int) := by
  rw [Int.tdiv_eq_ediv_of_nonneg (by omega)]
  have h1 : n / m ≤ n := Nat.div_le_self n m
  have e : (n : Int) / (m : Int) = ((n / m : Nat) : Int) := rfl
  rw [e]
  generalize n / m = q at h1
  exact zbc (by omega) (by omega)
theorem zc6 {n m k : Nat} (M K : Int) (hM : M = m) (hK : K = k) (h : n % m = k) : ((n : Int)).tmod M = K := by
  subst hM hK
  rw [zidb, h]
section
variable {m : Nat} {d d1 : D} {n deep l : Nat} {x : Int} {σ : Store}
theorem zfkb (hl : lenOf d = some 0) : T (m + 1) n_8 [d, .int .i64 deep, .bool false] σ = some (.ret ⟨false, .tup [dT (.con [73, 110, 116]), d]⟩, σ) := by
  rw [T_fun (af := a_7) rfl rfl]
  simp only [a_7, de0, de1, de2, szQ, szB, szL, sy0, sy1, sy2, sy3, sy4, sy5, zad, zaa, zac, zae, adel, zah, zag, zai, zaf, evalV, aget, aset, adel1, nth, AOp.kind, Nat.reduceAdd, Nat.reduceSub, Nat.reduceMul, Nat.reduceBEq, Nat.ble, bindO, Nat.reduceLeDiff, Int.reduceBEq, Int.reduceBNe, Int.reduceLE, Int.reduceLT, Int.reduceGE, Int.reduceGT, Int.reduceNeg, ks, hl, lz, dT]
theorem ztx (hl : lenOf d = some l) (h0 : 0 < l) (hx : zav 1 d 0 = some (.eptr (.int .i64 x))) (hs : zbd 1 d 1 none = some d1) (hn : n < 40) (hp : T m n_5 [.int .i64 x, .int .i64 40] σ = some (.ret ⟨false, .int .i64 n⟩, σ)) (hdeep : deep ≤ 4) (hdl : deep < 100) (hk : n % 10 = 0) {s : List UInt8} (hnm : T m n_24 [.int .i64 ((n / 10 : Nat) : Int)] σ = some (.ret ⟨false, .str s⟩, σ)) :
    T (m + 1) n_8 [d, .int .i64 deep, .bool false] σ = some (.ret ⟨false, .tup [dT (.var s), d1]⟩, σ) := by
  have hdp : ¬ ((deep : Int) > 4) := by omega
  have hr := zc6 (n := n) (m := 10) (k := 0) 10 0 rfl rfl hk
  have q10 : IntKind.i64.wrap ((n : Int).tdiv 10) = ((n / 10 : Nat) : Int) := zbg n 10 (by omega)
  have q5 : IntKind.i64.wrap ((n : Int).tdiv 5) = ((n / 5 : Nat) : Int) := zbg n 5 (by omega)
  have hne : (((l : Nat) : Int) == 0) = false := by simp; omega
  rw [T_fun (af := a_7) rfl rfl]
  simp only [a_7, de0, de1, de2, szQ, szB, szL, sy0, sy1, sy2, sy3, sy4, sy5, zad, zaa, zac, zae, adel, zah, zag, zai, zaf, evalV, aget, aset, adel1, nth, AOp.kind, Nat.reduceAdd, Nat.reduceSub, Nat.reduceMul, Nat.reduceBEq, Nat.ble, bindO, Nat.reduceLeDiff, Int.reduceBEq, Int.reduceBNe, Int.reduceLE, Int.reduceLT, Int.reduceGE, Int.reduceGT, Int.reduceNeg, ks, hl, hx, hs, hp, hne, hdp, hr, q10, q5, hnm, dT]
theorem ztw (hl : lenOf d = some l) (h0 : 0 < l) (hx : zav 1 d 0 = some (.eptr (.int .i64 x))) (hs : zbd 1 d 1 none = some d1) (hn : n < 40) (hp : T m n_5 [.int .i64 x, .int .i64 40] σ = some (.ret ⟨false, .int .i64 n⟩, σ)) (hdeep : 4 < deep) (hdl : deep < 100) (hk : n % 5 = 0) {s : List UInt8} (hnm : T m n_24 [.int .i64 ((n / 10 : Nat) : Int)] σ = some (.ret ⟨false, .str s⟩, σ)) :
    T (m + 1) n_8 [d, .int .i64 deep, .bool false] σ = some (.ret ⟨false, .tup [dT (.var s), d1]⟩, σ) := by
  have hdp : ((deep : Int) > 4) := by omega
  have hr := zc6 (n := n) (m := 5) (k := 0) 5 0 rfl rfl hk
  have q10 : IntKind.i64.wrap ((n : Int).tdiv 10) = ((n / 10 : Nat) : Int) := zbg n 10 (by omega)
  have q5 : IntKind.i64.wrap ((n : Int).tdiv 5) = ((n / 5 : Nat) : Int) := zbg n 5 (by omega)
  have hne : (((l : Nat) : Int) == 0) = false := by simp; omega
  rw [T_fun (af := a_7) rfl rfl]
  simp only [a_7, de0, de1, de2, szQ, szB, szL, sy0, sy1, sy2, sy3, sy4, sy5, zad, zaa, zac, zae, adel, zah, zag, zai, zaf, evalV, aget, aset, adel1, nth, AOp.kind, Nat.reduceAdd, Nat.reduceSub, Nat.reduceMul, Nat.reduceBEq, Nat.ble, bindO, Nat.reduceLeDiff, Int.reduceBEq, Int.reduceBNe, Int.reduceLE, Int.reduceLT, Int.reduceGE, Int.reduceGT, Int.reduceNeg, ks, hl, hx, hs, hp, hne, hdp, hr, q10, q5, hnm, dT]
theorem ztz (hl : lenOf d = some l) (h0 : 0 < l) (hx : zav 1 d 0 = some (.eptr (.int .i64 x))) (hs : zbd 1 d 1 none = some d1) (hn : n < 40) (hp : T m n_5 [.int .i64 x, .int .i64 40] σ = some (.ret ⟨false, .int .i64 n⟩, σ)) (hdeep : deep ≤ 4) (hdl : deep < 100) (hk : n % 10 = 1) {s : List UInt8} (hnm : T m n_24 [.int .i64 ((n / 10 : Nat) : Int)] σ = some (.ret ⟨false, .str s⟩, σ)) :
    T (m + 1) n_8 [d, .int .i64 deep, .bool false] σ = some (.ret ⟨false, .tup [dT (.var s), d1]⟩, σ) := by
  have hdp : ¬ ((deep : Int) > 4) := by omega
  have hr := zc6 (n := n) (m := 10) (k := 1) 10 1 rfl rfl hk
  have q10 : IntKind.i64.wrap ((n : Int).tdiv 10) = ((n / 10 : Nat) : Int) := zbg n 10 (by omega)
  have q5 : IntKind.i64.wrap ((n : Int).tdiv 5) = ((n / 5 : Nat) : Int) := zbg n 5 (by omega)
  have hne : (((l : Nat) : Int) == 0) = false := by simp; omega
  rw [T_fun (af := a_7) rfl rfl]
  simp only [a_7, de0, de1, de2, szQ, szB, szL, sy0, sy1, sy2, sy3, sy4, sy5, zad, zaa, zac, zae, adel, zah, zag, zai, zaf, evalV, aget, aset, adel1, nth, AOp.kind, Nat.reduceAdd, Nat.reduceSub, Nat.reduceMul, Nat.reduceBEq, Nat.ble, bindO, Nat.reduceLeDiff, Int.reduceBEq, Int.reduceBNe, Int.reduceLE, Int.reduceLT, Int.reduceGE, Int.reduceGT, Int.reduceNeg, ks, hl, hx, hs, hp, hne, hdp, hr, q10, q5, hnm, dT]
theorem zty (hl : lenOf d = some l) (h0 : 0 < l) (hx : zav 1 d 0 = some (.eptr (.int .i64 x))) (hs : zbd 1 d 1 none = some d1) (hn : n < 40) (hp : T m n_5 [.int .i64 x, .int .i64 40] σ = some (.ret ⟨false, .int .i64 n⟩, σ)) (hdeep : 4 < deep) (hdl : deep < 100) (hk : n % 5 = 1) {s : List UInt8} (hnm : T m n_24 [.int .i64 ((n / 10 : Nat) : Int)] σ = some (.ret ⟨false, .str s⟩, σ)) :
    T (m + 1) n_8 [d, .int .i64 deep, .bool false] σ = some (.ret ⟨false, .tup [dT (.var s), d1]⟩, σ) := by
  have hdp : ((deep : Int) > 4) := by omega
  have hr := zc6 (n := n) (m := 5) (k := 1) 5 1 rfl rfl hk
  have q10 : IntKind.i64.wrap ((n : Int).tdiv 10) = ((n / 10 : Nat) : Int) := zbg n 10 (by omega)
  have q5 : IntKind.i64.wrap ((n : Int).tdiv 5) = ((n / 5 : Nat) : Int) := zbg n 5 (by omega)
  have hne : (((l : Nat) : Int) == 0) = false := by simp; omega
  rw [T_fun (af := a_7) rfl rfl]
  simp only [a_7, de0, de1, de2, szQ, szB, szL, sy0, sy1, sy2, sy3, sy4, sy5, zad, zaa, zac, zae, adel, zah, zag, zai, zaf, evalV, aget, aset, adel1, nth, AOp.kind, Nat.reduceAdd, Nat.reduceSub, Nat.reduceMul, Nat.reduceBEq, Nat.ble, bindO, Nat.reduceLeDiff, Int.reduceBEq, Int.reduceBNe, Int.reduceLE, Int.reduceLT, Int.reduceGE, Int.reduceGT, Int.reduceNeg, ks, hl, hx, hs, hp, hne, hdp, hr, q10, q5, hnm, dT]
theorem zq8 (hl : lenOf d = some l) (h0 : 0 < l) (hx : zav 1 d 0 = some (.eptr (.int .i64 x))) (hs : zbd 1 d 1 none = some d1) (hn : n < 40) (hp : T m n_5 [.int .i64 x, .int .i64 40] σ = some (.ret ⟨false, .int .i64 n⟩, σ)) (hdeep : deep ≤ 4) (hdl : deep < 100) (hk : n % 10 = 2) :
    T (m + 1) n_8 [d, .int .i64 deep, .bool false] σ = some (.ret ⟨false, .tup [dT (.hole ((1 + n / 10 : Nat) : Int)), d1]⟩, σ) := by
  have hdp : ¬ ((deep : Int) > 4) := by omega
  have hr := zc6 (n := n) (m := 10) (k := 2) 10 2 rfl rfl hk
  have q10 : IntKind.i64.wrap ((n : Int).tdiv 10) = ((n / 10 : Nat) : Int) := zbg n 10 (by omega)
  have q5 : IntKind.i64.wrap ((n : Int).tdiv 5) = ((n / 5 : Nat) : Int) := zbg n 5 (by omega)
  have hne : (((l : Nat) : Int) == 0) = false := by simp; omega
  have w1 : IntKind.i64.wrap (1 + ((n / 10 : Nat) : Int)) = ((1 + n / 10 : Nat) : Int) := by rw [zbc (by omega) (by omega)]; omega
  rw [T_fun (af := a_7) rfl rfl]
  simp only [a_7, de0, de1, de2, szQ, szB, szL, sy0, sy1, sy2, sy3, sy4, sy5, zad, zaa, zac, zae, adel, zah, zag, zai, zaf, evalV, aget, aset, adel1, nth, AOp.kind, Nat.reduceAdd, Nat.reduceSub, Nat.reduceMul, Nat.reduceBEq, Nat.ble, bindO, Nat.reduceLeDiff, Int.reduceBEq, Int.reduceBNe, Int.reduceLE, Int.reduceLT, Int.reduceGE, Int.reduceGT, Int.reduceNeg, ks, hl, hx, hs, hp, hne, hdp, hr, q10, q5, dT, w1]
theorem zq7 (hl : lenOf d = some l) (h0 : 0 < l) (hx : zav 1 d 0 = some (.eptr (.int .i64 x))) (hs : zbd 1 d 1 none = some d1) (hn : n < 40) (hp : T m n_5 [.int .i64 x, .int .i64 40] σ = some (.ret ⟨false, .int .i64 n⟩, σ)) (hdeep : 4 < deep) (hdl : deep < 100) (hk : n % 5 = 2) :
    T (m + 1) n_8 [d, .int .i64 deep, .bool false] σ = some (.ret ⟨false, .tup [dT (.hole ((1 + n / 10 : Nat) : Int)), d1]⟩, σ) := by
  have hdp : ((deep : Int) > 4) := by omega
  have hr := zc6 (n := n) (m := 5) (k := 2) 5 2 rfl rfl hk
  have q10 : IntKind.i64.wrap ((n : Int).tdiv 10) = ((n / 10 : Nat) : Int) := zbg n 10 (by omega)
  have q5 : IntKind.i64.wrap ((n : Int).tdiv 5) = ((n / 5 : Nat) : Int) := zbg n 5 (by omega)
  have hne : (((l : Nat) : Int) == 0) = false := by simp; omega
  have w1 : IntKind.i64.wrap (1 + ((n / 10 : Nat) : Int)) = ((1 + n / 10 : Nat) : Int) := by rw [zbc (by omega) (by omega)]; omega
  rw [T_fun (af := a_7) rfl rfl]
  simp only [a_7, de0, de1, de2, szQ, szB, szL, sy0, sy1, sy2, sy3, sy4, sy5, zad, zaa, zac, zae, adel, zah, zag, zai, zaf, evalV, aget, aset, adel1, nth, AOp.kind, Nat.reduceAdd, Nat.reduceSub, Nat.reduceMul, Nat.reduceBEq, Nat.ble, bindO, Nat.reduceLeDiff, Int.reduceBEq, Int.reduceBNe, Int.reduceLE, Int.reduceLT, Int.reduceGE, Int.reduceGT, Int.reduceNeg, ks, hl, hx, hs, hp, hne, hdp, hr, q10, q5, dT, w1]
theorem ztq (hl : lenOf d = some l) (h0 : 0 < l) (hx : zav 1 d 0 = some (.eptr (.int .i64 x))) (hs : zbd 1 d 1 none = some d1) (hn : n < 40) (hp : T m n_5 [.int .i64 x, .int .i64 40] σ = some (.ret ⟨false, .int .i64 n⟩, σ)) (hdeep : deep ≤ 4) (hdl : deep < 100) (hk : n % 10 = 3) {s : List UInt8} (hnm : T m n_93 [.int .i64 ((n / 5 : Nat) : Int)] σ = some (.ret ⟨false, .str s⟩, σ)) :
    T (m + 1) n_8 [d, .int .i64 deep, .bool false] σ = some (.ret ⟨false, .tup [dT (.con s), d1]⟩, σ) := by
  have hdp : ¬ ((deep : Int) > 4) := by omega
  have hr := zc6 (n := n) (m := 10) (k := 3) 10 3 rfl rfl hk
  have q10 : IntKind.i64.wrap ((n : Int).tdiv 10) = ((n / 10 : Nat) : Int) := zbg n 10 (by omega)
  have q5 : IntKind.i64.wrap ((n : Int).tdiv 5) = ((n / 5 : Nat) : Int) := zbg n 5 (by omega)
  have hne : (((l : Nat) : Int) == 0) = false := by simp; omega
  rw [T_fun (af := a_7) rfl rfl]
  simp only [a_7, de0, de1, de2, szQ, szB, szL, sy0, sy1, sy2, sy3, sy4, sy5, zad, zaa, zac, zae, adel, zah, zag, zai, zaf, evalV, aget, aset, adel1, nth, AOp.kind, Nat.reduceAdd, Nat.reduceSub, Nat.reduceMul, Nat.reduceBEq, Nat.ble, bindO, Nat.reduceLeDiff, Int.reduceBEq, Int.reduceBNe, Int.reduceLE, Int.reduceLT, Int.reduceGE, Int.reduceGT, Int.reduceNeg, ks, hl, hx, hs, hp, hne, hdp, hr, q10, q5, hnm, dT]
theorem ztp (hl : lenOf d = some l) (h0 : 0 < l) (hx : zav 1 d 0 = some (.eptr (.int .i64 x))) (hs : zbd 1 d 1 none = some d1) (hn : n < 40) (hp : T m n_5 [.int .i64 x, .int .i64 40] σ = some (.ret ⟨false, .int .i64 n⟩, σ)) (hdeep : 4 < deep) (hdl : deep < 100) (hk : n % 5 = 3) {s : List UInt8} (hnm : T m n_93 [.int .i64 ((n / 5 : Nat) : Int)] σ = some (.ret ⟨false, .str s⟩, σ)) :
    T (m + 1) n_8 [d, .int .i64 deep, .bool false] σ = some (.ret ⟨false, .tup [dT (.con s), d1]⟩, σ) := by
  have hdp : ((deep : Int) > 4) := by omega
  have hr := zc6 (n := n) (m := 5) (k := 3) 5 3 rfl rfl hk
  have q10 : IntKind.i64.wrap ((n : Int).tdiv 10) = ((n / 10 : Nat) : Int) := zbg n 10 (by omega)
  have q5 : IntKind.i64.wrap ((n : Int).tdiv 5) = ((n / 5 : Nat) : Int) := zbg n 5 (by omega)
  have hne : (((l : Nat) : Int) == 0) = false := by simp; omega
  rw [T_fun (af := a_7) rfl rfl]
  simp only [a_7, de0, de1, de2, szQ, szB, szL, sy0, sy1, sy2, sy3, sy4, sy5, zad, zaa, zac, zae, adel, zah, zag, zai, zaf, evalV, aget, aset, adel1, nth, AOp.kind, Nat.reduceAdd, Nat.reduceSub, Nat.reduceMul, Nat.reduceBEq, Nat.ble, bindO, Nat.reduceLeDiff, Int.reduceBEq, Int.reduceBNe, Int.reduceLE, Int.reduceLT, Int.reduceGE, Int.reduceGT, Int.reduceNeg, ks, hl, hx, hs, hp, hne, hdp, hr, q10, q5, hnm, dT]
theorem zts (hl : lenOf d = some l) (h0 : 0 < l) (hx : zav 1 d 0 = some (.eptr (.int .i64 x))) (hs : zbd 1 d 1 none = some d1) (hn : n < 40) (hp : T m n_5 [.int .i64 x, .int .i64 40] σ = some (.ret ⟨false, .int .i64 n⟩, σ)) (hdeep : deep ≤ 4) (hdl : deep < 100) (hk : n % 10 = 4) {s : List UInt8} (hnm : T m n_93 [.int .i64 ((n / 5 : Nat) : Int)] σ = some (.ret ⟨false, .str s⟩, σ)) :
    T (m + 1) n_8 [d, .int .i64 deep, .bool false] σ = some (.ret ⟨false, .tup [dT (.con s), d1]⟩, σ) := by
  have hdp : ¬ ((deep : Int) > 4) := by omega
  have hr := zc6 (n := n) (m := 10) (k := 4) 10 4 rfl rfl hk
  have q10 : IntKind.i64.wrap ((n : Int).tdiv 10) = ((n / 10 : Nat) : Int) := zbg n 10 (by omega)
  have q5 : IntKind.i64.wrap ((n : Int).tdiv 5) = ((n / 5 : Nat) : Int) := zbg n 5 (by omega)
  have hne : (((l : Nat) : Int) == 0) = false := by simp; omega
  rw [T_fun (af := a_7) rfl rfl]
  simp only [a_7, de0, de1, de2, szQ, szB, szL, sy0, sy1, sy2, sy3, sy4, sy5, zad, zaa, zac, zae, adel, zah, zag, zai, zaf, evalV, aget, aset, adel1, nth, AOp.kind, Nat.reduceAdd, Nat.reduceSub, Nat.reduceMul, Nat.reduceBEq, Nat.ble, bindO, Nat.reduceLeDiff, Int.reduceBEq, Int.reduceBNe, Int.reduceLE, Int.reduceLT, Int.reduceGE, Int.reduceGT, Int.reduceNeg, ks, hl, hx, hs, hp, hne, hdp, hr, q10, q5, hnm, dT]
theorem ztr (hl : lenOf d = some l) (h0 : 0 < l) (hx : zav 1 d 0 = some (.eptr (.int .i64 x))) (hs : zbd 1 d 1 none = some d1) (hn : n < 40) (hp : T m n_5 [.int .i64 x, .int .i64 40] σ = some (.ret ⟨false, .int .i64 n⟩, σ)) (hdeep : 4 < deep) (hdl : deep < 100) (hk : n % 5 = 4) {s : List UInt8} (hnm : T m n_93 [.int .i64 ((n / 5 : Nat) : Int)] σ = some (.ret ⟨false, .str s⟩, σ)) :
    T (m + 1) n_8 [d, .int .i64 deep, .bool false] σ = some (.ret ⟨false, .tup [dT (.con s), d1]⟩, σ) := by
  have hdp : ((deep : Int) > 4) := by omega
  have hr := zc6 (n := n) (m := 5) (k := 4) 5 4 rfl rfl hk
  have q10 : IntKind.i64.wrap ((n : Int).tdiv 10) = ((n / 10 : Nat) : Int) := zbg n 10 (by omega)
  have q5 : IntKind.i64.wrap ((n : Int).tdiv 5) = ((n / 5 : Nat) : Int) := zbg n 5 (by omega)
  have hne : (((l : Nat) : Int) == 0) = false := by simp; omega
  rw [T_fun (af := a_7) rfl rfl]
  simp only [a_7, de0, de1, de2, szQ, szB, szL, sy0, sy1, sy2, sy3, sy4, sy5, zad, zaa, zac, zae, adel, zah, zag, zai, zaf, evalV, aget, aset, adel1, nth, AOp.kind, Nat.reduceAdd, Nat.reduceSub, Nat.reduceMul, Nat.reduceBEq, Nat.ble, bindO, Nat.reduceLeDiff, Int.reduceBEq, Int.reduceBNe, Int.reduceLE, Int.reduceLT, Int.reduceGE, Int.reduceGT, Int.reduceNeg, ks, hl, hx, hs, hp, hne, hdp, hr, q10, q5, hnm, dT]
theorem ztt (hl : lenOf d = some l) (h0 : 0 < l) (hx : zav 1 d 0 = some (.eptr (.int .i64 x))) (hs : zbd 1 d 1 none = some d1) (hn : n < 40) (hp : T m n_5 [.int .i64 x, .int .i64 40] σ = some (.ret ⟨false, .int .i64 n⟩, σ)) (hdeep : deep ≤ 4) (hdl : deep < 100) (hk : n % 10 = 5) {a b : Tp} {d2 d3 : D} (hc : T m n_8 [d1, .int .i64 (deep + 1 : Nat), .bool false] σ = some (.ret ⟨false, .tup [dT a, d2]⟩, σ)) (hc2 : T m n_8 [d2, .int .i64 (deep + 1 : Nat), .bool false] σ = some (.ret ⟨false, .tup [dT b, d3]⟩, σ)) (ha : T m n_111 [dT a, dT b] σ = some (.ret ⟨false, dT (.app (.app (.con [45, 62]) a) b)⟩, σ)) :
    T (m + 1) n_8 [d, .int .i64 deep, .bool false] σ = some (.ret ⟨false, .tup [dT (.app (.app (.con [45, 62]) a) b), d3]⟩, σ) := by
  have hdp : ¬ ((deep : Int) > 4) := by omega
  have hr := zc6 (n := n) (m := 10) (k := 5) 10 5 rfl rfl hk
  have q10 : IntKind.i64.wrap ((n : Int).tdiv 10) = ((n / 10 : Nat) : Int) := zbg n 10 (by omega)
  have q5 : IntKind.i64.wrap ((n : Int).tdiv 5) = ((n / 5 : Nat) : Int) := zbg n 5 (by omega)
  have hne : (((l : Nat) : Int) == 0) = false := by simp; omega
  simp only [dT] at ha
  have w2 := zam (i := deep) (by omega)
  simp only [dT_eq, cT] at hc hc2 ha
  rw [T_fun (af := a_7) rfl rfl]
  simp only [a_7, de0, de1, de2, szQ, szB, szL, sy0, sy1, sy2, sy3, sy4, sy5, zad, zaa, zac, zae, adel, zah, zag, zai, zaf, evalV, aget, aset, adel1, nth, AOp.kind, Nat.reduceAdd, Nat.reduceSub, Nat.reduceMul, Nat.reduceBEq, Nat.ble, bindO, Nat.reduceLeDiff, Int.reduceBEq, Int.reduceBNe, Int.reduceLE, Int.reduceLT, Int.reduceGE, Int.reduceGT, Int.reduceNeg, ks, hl, hx, hs, hp, hne, hdp, hr, q10, q5, dT, dT_eq a, dT_eq b, cT, w2, hc, hc2, ha]
theorem ztu (hl : lenOf d = some l) (h0 : 0 < l) (hx : zav 1 d 0 = some (.eptr (.int .i64 x))) (hs : zbd 1 d 1 none = some d1) (hn : n < 40) (hp : T m n_5 [.int .i64 x, .int .i64 40] σ = some (.ret ⟨false, .int .i64 n⟩, σ)) (hdeep : deep ≤ 4) (hdl : deep < 100) (hk : n % 10 = 6) {a b : Tp} {d2 d3 : D} (hc : T m n_8 [d1, .int .i64 (deep + 1 : Nat), .bool false] σ = some (.ret ⟨false, .tup [dT a, d2]⟩, σ)) (hc2 : T m n_8 [d2, .int .i64 (deep + 1 : Nat), .bool false] σ = some (.ret ⟨false, .tup [dT b, d3]⟩, σ)) (ha : T m n_111 [dT a, dT b] σ = some (.ret ⟨false, dT (.app (.app (.con [45, 62]) a) b)⟩, σ)) :
    T (m + 1) n_8 [d, .int .i64 deep, .bool false] σ = some (.ret ⟨false, .tup [dT (.app (.app (.con [45, 62]) a) b), d3]⟩, σ) := by
  have hdp : ¬ ((deep : Int) > 4) := by omega
  have hr := zc6 (n := n) (m := 10) (k := 6) 10 6 rfl rfl hk
  have q10 : IntKind.i64.wrap ((n : Int).tdiv 10) = ((n / 10 : Nat) : Int) := zbg n 10 (by omega)
  have q5 : IntKind.i64.wrap ((n : Int).tdiv 5) = ((n / 5 : Nat) : Int) := zbg n 5 (by omega)
  have hne : (((l : Nat) : Int) == 0) = false := by simp; omega
  simp only [dT] at ha
  have w2 := zam (i := deep) (by omega)
  simp only [dT_eq, cT] at hc hc2 ha
  rw [T_fun (af := a_7) rfl rfl]
  simp only [a_7, de0, de1, de2, szQ, szB, szL, sy0, sy1, sy2, sy3, sy4, sy5, zad, zaa, zac, zae, adel, zah, zag, zai, zaf, evalV, aget, aset, adel1, nth, AOp.kind, Nat.reduceAdd, Nat.reduceSub, Nat.reduceMul, Nat.reduceBEq, Nat.ble, bindO, Nat.reduceLeDiff, Int.reduceBEq, Int.reduceBNe, Int.reduceLE, Int.reduceLT, Int.reduceGE, Int.reduceGT, Int.reduceNeg, ks, hl, hx, hs, hp, hne, hdp, hr, q10, q5, dT, dT_eq a, dT_eq b, cT, w2, hc, hc2, ha]
theorem ztv (hl : lenOf d = some l) (h0 : 0 < l) (hx : zav 1 d 0 = some (.eptr (.int .i64 x))) (hs : zbd 1 d 1 none = some d1) (hn : n < 40) (hp : T m n_5 [.int .i64 x, .int .i64 40] σ = some (.ret ⟨false, .int .i64 n⟩, σ)) (hdeep : deep ≤ 4) (hdl : deep < 100) (hk : n % 10 = 7) {a b : Tp} {d2 d3 : D} (hc : T m n_8 [d1, .int .i64 (deep + 1 : Nat), .bool false] σ = some (.ret ⟨false, .tup [dT a, d2]⟩, σ)) (hc2 : T m n_8 [d2, .int .i64 (deep + 1 : Nat), .bool false] σ = some (.ret ⟨false, .tup [dT b, d3]⟩, σ)) (ha : T m n_111 [dT a, dT b] σ = some (.ret ⟨false, dT (.app (.app (.con [45, 62]) a) b)⟩, σ)) :
    T (m + 1) n_8 [d, .int .i64 deep, .bool false] σ = some (.ret ⟨false, .tup [dT (.app (.app (.con [45, 62]) a) b), d3]⟩, σ) := by
  have hdp : ¬ ((deep : Int) > 4) := by omega
  have hr := zc6 (n := n) (m := 10) (k := 7) 10 7 rfl rfl hk
  have q10 : IntKind.i64.wrap ((n : Int).tdiv 10) = ((n / 10 : Nat) : Int) := zbg n 10 (by omega)
  have q5 : IntKind.i64.wrap ((n : Int).tdiv 5) = ((n / 5 : Nat) : Int) := zbg n 5 (by omega)
  have hne : (((l : Nat) : Int) == 0) = false := by simp; omega
  simp only [dT] at ha
  have w2 := zam (i := deep) (by omega)
  simp only [dT_eq, cT] at hc hc2 ha
  rw [T_fun (af := a_7) rfl rfl]
  simp only [a_7, de0, de1, de2, szQ, szB, szL, sy0, sy1, sy2, sy3, sy4, sy5, zad, zaa, zac, zae, adel, zah, zag, zai, zaf, evalV, aget, aset, adel1, nth, AOp.kind, Nat.reduceAdd, Nat.reduceSub, Nat.reduceMul, Nat.reduceBEq, Nat.ble, bindO, Nat.reduceLeDiff, Int.reduceBEq, Int.reduceBNe, Int.reduceLE, Int.reduceLT, Int.reduceGE, Int.reduceGT, Int.reduceNeg, ks, hl, hx, hs, hp, hne, hdp, hr, q10, q5, dT, dT_eq a, dT_eq b, cT, w2, hc, hc2, ha]
theorem ztn (hl : lenOf d = some l) (h0 : 0 < l) (hx : zav 1 d 0 = some (.eptr (.int .i64 x))) (hs : zbd 1 d 1 none = some d1) (hn : n < 40) (hp : T m n_5 [.int .i64 x, .int .i64 40] σ = some (.ret ⟨false, .int .i64 n⟩, σ)) (hdeep : deep ≤ 4) (hdl : deep < 100) (hk : n % 10 = 8) {a b : Tp} {d2 d3 : D} (hc : T m n_8 [d1, .int .i64 (deep + 1 : Nat), .bool false] σ = some (.ret ⟨false, .tup [dT a, d2]⟩, σ)) (hc2 : T m n_8 [d2, .int .i64 (deep + 1 : Nat), .bool false] σ = some (.ret ⟨false, .tup [dT b, d3]⟩, σ)) (ha : T m n_61 [dT a, dT b] σ = some (.ret ⟨false, dT (.app a b)⟩, σ)) :
    T (m + 1) n_8 [d, .int .i64 deep, .bool false] σ = some (.ret ⟨false, .tup [dT (.app a b), d3]⟩, σ) := by
  have hdp : ¬ ((deep : Int) > 4) := by omega
  have hr := zc6 (n := n) (m := 10) (k := 8) 10 8 rfl rfl hk
  have q10 : IntKind.i64.wrap ((n : Int).tdiv 10) = ((n / 10 : Nat) : Int) := zbg n 10 (by omega)
  have q5 : IntKind.i64.wrap ((n : Int).tdiv 5) = ((n / 5 : Nat) : Int) := zbg n 5 (by omega)
  have hne : (((l : Nat) : Int) == 0) = false := by simp; omega
  simp only [dT] at ha
  have w2 := zam (i := deep) (by omega)
  simp only [dT_eq, cT] at hc hc2 ha
  rw [T_fun (af := a_7) rfl rfl]
  simp only [a_7, de0, de1, de2, szQ, szB, szL, sy0, sy1, sy2, sy3, sy4, sy5, zad, zaa, zac, zae, adel, zah, zag, zai, zaf, evalV, aget, aset, adel1, nth, AOp.kind, Nat.reduceAdd, Nat.reduceSub, Nat.reduceMul, Nat.reduceBEq, Nat.ble, bindO, Nat.reduceLeDiff, Int.reduceBEq, Int.reduceBNe, Int.reduceLE, Int.reduceLT, Int.reduceGE, Int.reduceGT, Int.reduceNeg, ks, hl, hx, hs, hp, hne, hdp, hr, q10, q5, dT, dT_eq a, dT_eq b, cT, w2, hc, hc2, ha]
theorem zto (hl : lenOf d = some l) (h0 : 0 < l) (hx : zav 1 d 0 = some (.eptr (.int .i64 x))) (hs : zbd 1 d 1 none = some d1) (hn : n < 40) (hp : T m n_5 [.int .i64 x, .int .i64 40] σ = some (.ret ⟨false, .int .i64 n⟩, σ)) (hdeep : deep ≤ 4) (hdl : deep < 100) (hk : n % 10 = 9) {a b : Tp} {d2 d3 : D} (hc : T m n_8 [d1, .int .i64 (deep + 1 : Nat), .bool false] σ = some (.ret ⟨false, .tup [dT a, d2]⟩, σ)) (hc2 : T m n_8 [d2, .int .i64 (deep + 1 : Nat), .bool false] σ = some (.ret ⟨false, .tup [dT b, d3]⟩, σ)) (ha : T m n_61 [dT a, dT b] σ = some (.ret ⟨false, dT (.app a b)⟩, σ)) :
    T (m + 1) n_8 [d, .int .i64 deep, .bool false] σ = some (.ret ⟨false, .tup [dT (.app a b), d3]⟩, σ) := by
  have hdp : ¬ ((deep : Int) > 4) := by omega
  have hr := zc6 (n := n) (m := 10) (k := 9) 10 9 rfl rfl hk
  have q10 : IntKind.i64.wrap ((n : Int).tdiv 10) = ((n / 10 : Nat) : Int) := zbg n 10 (by omega)
  have q5 : IntKind.i64.wrap ((n : Int).tdiv 5) = ((n / 5 : Nat) : Int) := zbg n 5 (by omega)
  have hne : (((l : Nat) : Int) == 0) = false := by simp; omega
  simp only [dT] at ha
  have w2 := zam (i := deep) (by omega)
  simp only [dT_eq, cT] at hc hc2 ha
  rw [T_fun (af := a_7) rfl rfl]
  simp only [a_7, de0, de1, de2, szQ, szB, szL, sy0, sy1, sy2, sy3, sy4, sy5, zad, zaa, zac, zae, adel, zah, zag, zai, zaf, evalV, aget, aset, adel1, nth, AOp.kind, Nat.reduceAdd, Nat.reduceSub, Nat.reduceMul, Nat.reduceBEq, Nat.ble, bindO, Nat.reduceLeDiff, Int.reduceBEq, Int.reduceBNe, Int.reduceLE, Int.reduceLT, Int.reduceGE, Int.reduceGT, Int.reduceNeg, ks, hl, hx, hs, hp, hne, hdp, hr, q10, q5, dT, dT_eq a, dT_eq b, cT, w2, hc, hc2, ha]
end
end Go.Fu
namespace Go.Fu
open Go Go.Mx
set_option maxRecDepth 10000
def tyB : Tp → Bool
  | .hole x => decide (0 ≤ x) && decide (x < 6)
  | .var s => okV s
  | .con c => decide (c.length ≤ 6)
  | .app f a => tyB f && tyB a
theorem zg9 : ∀ t : Tp, okA t = true → tyB t = true
  | .hole x, h => h
  | .var s, h => h
  | .con c, h => by rcases ze2 h with rfl | rfl | rfl | rfl <;> rfl
  | .app f a, h => by
    simp only [okA, Bool.and_eq_true] at h
    simp only [tyB, Bool.and_eq_true]
    exact ⟨zg9 f h.1, zg9 a h.2⟩
def bz : Nat → Nat
  | 0 => 1
  | r + 1 => 2 * bz r + 3
theorem zff : ∀ r, 1 ≤ bz r
  | 0 => Nat.le_refl _
  | r + 1 => by have := zff r; simp only [bz]; omega
theorem zaxb (x : Int) : okV (nmS x) = true := by
  unfold nmS
  split <;> rfl
theorem zhnb (x : Int) : (cnS x).length ≤ 6 := by
  unfold cnS
  split <;> decide
def V5 : List (List UInt8) := [[97], [98], [99], [120], [102]]
def v5T : Tp → Bool
  | .var s => V5.contains s
  | .app f a => v5T f && v5T a
  | _ => true
theorem zayb (x : Int) : V5.contains (nmS x) = true := by
  unfold nmS
  split <;> rfl
def LA (r : Nat) (t : Tp) : Prop := (okA t = true ∧ v5T t = true) ∧ nT t ≤ bz r
def LB (r : Nat) (t : Tp) : Prop := (tyB t = true ∧ v5T t = true) ∧ nT t ≤ bz r
theorem zr2 {r : Nat} (x : Int) : LA r (.var (nmS x)) := ⟨⟨zaxb x, zayb x⟩, zff r⟩
theorem zavb {r : Nat} : LA r (.con [73, 110, 116]) := ⟨⟨rfl, rfl⟩, zff r⟩
theorem zwo {r : Nat} : LA r (.con [66, 111, 111, 108]) := ⟨⟨rfl, rfl⟩, zff r⟩
theorem zwp {r : Nat} (n : Nat) : LA r (.hole ((1 + n % 2 : Nat) : Int)) := ⟨⟨by simp only [okA, Bool.and_eq_true, decide_eq_true_eq]; omega, rfl⟩, zff r⟩
theorem lw_L {r : Nat} {a : Tp} (h : LA r a) : LA (r + 1) (.app (.con [76]) a) := by
  refine ⟨⟨by simp only [okA, Bool.and_eq_true]; exact ⟨rfl, h.1.1⟩, by simp only [v5T, Bool.and_eq_true, true_and]; exact h.1.2⟩, ?_⟩
  have := h.2
  simp only [nT, bz]; omega
theorem lw_i {r : Nat} {a : Tp} (h : LA r a) : LA (r + 1) (.app (.con [73, 110, 116]) a) := by
  refine ⟨⟨by simp only [okA, Bool.and_eq_true]; exact ⟨rfl, h.1.1⟩, by simp only [v5T, Bool.and_eq_true, true_and]; exact h.1.2⟩, ?_⟩
  have := h.2
  simp only [nT, bz]; omega
theorem lw_f {r : Nat} {a : Tp} (h : LA r a) : LA (r + 1) (.app (.var [102]) a) := by
  refine ⟨⟨by simp only [okA, Bool.and_eq_true]; exact ⟨rfl, h.1.1⟩, by simp only [v5T, Bool.and_eq_true]; exact ⟨rfl, h.1.2⟩⟩, ?_⟩
  have := h.2
  simp only [nT, bz]; omega
theorem lw_P {r : Nat} {a b : Tp} (h : LA r a) (h' : LA r b) : LA (r + 1) (.app (.app (.con [80]) a) b) := by
  refine ⟨⟨by simp only [okA, Bool.and_eq_true]; exact ⟨⟨rfl, h.1.1⟩, h'.1.1⟩, by simp only [v5T, Bool.and_eq_true, true_and]; exact ⟨h.1.2, h'.1.2⟩⟩, ?_⟩
  have := h.2
  have := h'.2
  simp only [nT, bz]; omega
theorem zhtb {r : Nat} : LB r (.con [73, 110, 116]) := ⟨⟨rfl, rfl⟩, zff r⟩
theorem zn1 {r : Nat} (x : Int) : LB r (.var (nmS x)) := ⟨⟨zaxb x, zayb x⟩, zff r⟩
theorem zn0 {r : Nat} (x : Int) : LB r (.con (cnS x)) := ⟨⟨by simp only [tyB, decide_eq_true_eq]; exact zhnb x, rfl⟩, zff r⟩
theorem zwl {r n : Nat} (h : n < 40) : LB r (.hole ((1 + n / 10 : Nat) : Int)) := ⟨⟨by simp only [tyB, Bool.and_eq_true, decide_eq_true_eq]; omega, rfl⟩, zff r⟩
theorem zrz {r : Nat} {a b : Tp} (h : LB r a) (h' : LB r b) : LB (r + 1) (.app (.app (.con [45, 62]) a) b) := by
  refine ⟨⟨by simp only [tyB, Bool.and_eq_true]; exact ⟨⟨rfl, h.1.1⟩, h'.1.1⟩, by simp only [v5T, Bool.and_eq_true, true_and]; exact ⟨h.1.2, h'.1.2⟩⟩, ?_⟩
  have := h.2
  have := h'.2
  simp only [nT, bz]; omega
theorem zaib {r : Nat} {a b : Tp} (h : LB r a) (h' : LB r b) : LB (r + 1) (.app a b) := by
  refine ⟨⟨by simp only [tyB, Bool.and_eq_true]; exact ⟨h.1.1, h'.1.1⟩, by simp only [v5T, Bool.and_eq_true]; exact ⟨h.1.2, h'.1.2⟩⟩, ?_⟩
  have := h.2
  have := h'.2
  simp only [nT, bz]; omega
theorem LA.toB {r : Nat} {t : Tp} (h : LA r t) : LB (r + 1) t := ⟨⟨zg9 t h.1.1, h.1.2⟩, by have := h.2; simp only [bz]; omega⟩
end Go.Fu
namespace Go.Fu
open Go Go.Mx
set_option maxRecDepth 10000
def zbj (xs : List Int) : Prop := ∀ x ∈ xs, Small x
theorem zco {n : Nat} (h : n < 1048576) : Small (n : Int) := by unfold Small; omega
theorem zwy {d : D} {xs : List Int} (h : Row d xs) (hs : zbj xs) : ∃ d1 xs1, Tail d d1 ∧ Row d1 xs1 ∧ zbj xs1 ∧ xs1.length ≤ xs.length := by
  have hl := zda h
  cases xs with
  | nil => exact ⟨d, [], ⟨0, hl, .inr ⟨rfl, rfl⟩⟩, h, hs, Nat.le_refl _⟩
  | cons x r =>
    obtain ⟨d', h1, h2⟩ := zhu h
    exact ⟨d', r, ⟨_, hl, .inl ⟨by simp, h1⟩⟩, h2, fun y hy => hs y (List.mem_cons_of_mem _ hy), by simp⟩
def TypOK (r deep : Nat) (d : D) (xs : List Int) : Prop := ∃ t d' xs', LA r t ∧ Row d' xs' ∧ zbj xs' ∧ xs'.length ≤ xs.length ∧ Evly fun n => ∀ σ, T n n_9 [d, .int .i64 deep] σ = some (.ret ⟨false, .tup [dT t, d']⟩, σ)
theorem zos : ∀ (r deep : Nat), deep + r = 4 → ∀ d xs, Row d xs → zbj xs → TypOK r deep d xs
  | 0, deep, hr, d, xs, hR, hS => by
    obtain ⟨d1, xs1, hT, hR1, hS1, hl1⟩ := zwy hR hS
    have hpick := znf d xs hR hS
    have hn := pk_lt xs
    generalize pk xs = n at hpick hn
    have hk : n % 4 = 0 ∨ n % 4 = 1 ∨ n % 4 = 2 ∨ n % 4 = 3 := by omega
    rcases hk with hk | hk | hk | hk
    · exact ⟨_, d1, xs1, zr2 _, hR1, hS1, hl1, (hpick.and ze1).step 0 fun m _ h σ => zvp hT hn (h.1 σ) (by omega) (by omega) hk (h.2 _ σ (zco (by omega)))⟩
    · exact ⟨_, d1, xs1, zavb, hR1, hS1, hl1, hpick.step 0 fun m _ h σ => zvn hT hn (h σ) (by omega) (by omega) hk⟩
    · exact ⟨_, d1, xs1, zwo, hR1, hS1, hl1, hpick.step 0 fun m _ h σ => zs9 hT hn (h σ) (by omega) (by omega) hk⟩
    · exact ⟨_, d1, xs1, zwp _, hR1, hS1, hl1, hpick.step 0 fun m _ h σ => ztb hT hn (h σ) (by omega) (by omega) hk⟩
  | r + 1, deep, hr, d, xs, hR, hS => by
    obtain ⟨d1, xs1, hT, hR1, hS1, hl1⟩ := zwy hR hS
    have hpick := znf d xs hR hS
    have hn := pk_lt xs
    generalize pk xs = n at hpick hn
    obtain ⟨a, d2, xs2, hLa, hR2, hS2, hl2, ha⟩ := zos r (deep + 1) (by omega) d1 xs1 hR1 hS1
    have hk : n % 9 = 0 ∨ n % 9 = 1 ∨ n % 9 = 2 ∨ n % 9 = 3 ∨ n % 9 = 4 ∨ n % 9 = 5 ∨ n % 9 = 6 ∨ n % 9 = 7 ∨ n % 9 = 8 := by omega
    rcases hk with hk | hk | hk | hk | hk | hk | hk | hk | hk
    · exact ⟨_, d1, xs1, zr2 _, hR1, hS1, hl1, (hpick.and ze1).step 0 fun m _ h σ => zvq hT hn (h.1 σ) (by omega) (by omega) hk (h.2 _ σ (zco (by omega)))⟩
    · exact ⟨_, d1, xs1, zavb, hR1, hS1, hl1, hpick.step 0 fun m _ h σ => zvo hT hn (h σ) (by omega) (by omega) hk⟩
    · exact ⟨_, d1, xs1, zwo, hR1, hS1, hl1, hpick.step 0 fun m _ h σ => zta hT hn (h σ) (by omega) (by omega) hk⟩
    · exact ⟨_, d1, xs1, zwp _, hR1, hS1, hl1, hpick.step 0 fun m _ h σ => ztc hT hn (h σ) (by omega) (by omega) hk⟩
    · exact ⟨_, d1, xs1, zr2 _, hR1, hS1, hl1, (hpick.and ze1).step 0 fun m _ h σ => zvr hT hn (h.1 σ) (by omega) (by omega) hk (h.2 _ σ (zco (by omega)))⟩
    · exact ⟨_, d2, xs2, lw_L hLa, hR2, hS2, by omega, (hpick.and ha).step 0 fun m _ h σ => zbub hT hn (h.1 σ) (by omega) (by omega) hk (h.2 σ)⟩
    · exact ⟨_, d2, xs2, lw_L hLa, hR2, hS2, by omega, (hpick.and ha).step 0 fun m _ h σ => zbvb hT hn (h.1 σ) (by omega) (by omega) hk (h.2 σ)⟩
    · obtain ⟨b, d3, xs3, hLb, hR3, hS3, hl3, hb⟩ := zos r (deep + 1) (by omega) d2 xs2 hR2 hS2
      exact ⟨_, d3, xs3, lw_P hLa hLb, hR3, hS3, by omega, (hpick.and (ha.and hb)).step 0 fun m _ h σ => zbwb hT hn (h.1 σ) (by omega) (by omega) hk (h.2.1 σ) (h.2.2 σ)⟩
    · by_cases h3 : n / 9 % 3 = 0
      · exact ⟨_, d2, xs2, lw_i hLa, hR2, hS2, by omega, (hpick.and ha).step 0 fun m _ h σ => zbyb hT hn (h.1 σ) (by omega) (by omega) hk h3 (h.2 σ)⟩
      · exact ⟨_, d2, xs2, lw_f hLa, hR2, hS2, by omega, (hpick.and ha).step 0 fun m _ h σ => zbxb hT hn (h.1 σ) (by omega) (by omega) hk h3 (h.2 σ)⟩
theorem zf7 {xs : List Int} (h : zbj xs) (m : Nat) : zbj (xs.take m) := fun x hx => h x (List.mem_of_mem_take hx)
theorem zfab (d : D) (xs : List Int) (hR : Row d xs) (hS : zbj xs) : ∃ t, LA 4 t ∧ Evly fun n => ∀ σ, T n n_180 [d] σ = some (.ret ⟨false, dT t⟩, σ) := by
  obtain ⟨d1, hR1, o, h1⟩ := zj1 d xs 12 hR (by omega)
  obtain ⟨t, d2, xs2, hL, _, _, _, h2⟩ := zos 4 0 (by omega) d1 _ hR1 (zf7 hS 12)
  refine ⟨t, hL, (h1.and h2).step 0 fun m _ h σ => ?_⟩
  have e1 := h.1 σ
  have e2 := h.2 σ
  rw [T_fun (af := a_134) rfl rfl]
  rw [dT_eq t] at e2 ⊢
  have l12 : ((12 : Nat) : Int) = 12 := rfl
  simp only [cT, l12, zeroI] at e1 e2 ⊢
  simp only [a_134, de0, de1, de2, szQ, szB, szL, sy0, sy1, sy2, sy3, sy4, sy5, zad, zaa, zac, zae, adel, zah, zag, zai, zaf, evalV, aget, aset, adel1, nth, AOp.kind, Nat.reduceAdd, Nat.reduceSub, Nat.reduceMul, Nat.reduceBEq, Nat.ble, bindO, Nat.reduceLeDiff, Int.reduceBEq, Int.reduceBNe, Int.reduceLE, Int.reduceLT, Int.reduceGE, Int.reduceGT, Int.reduceNeg, ks, e1, e2]
def BldOK (r deep : Nat) (d : D) (xs : List Int) : Prop := ∃ t d' xs', LB r t ∧ Row d' xs' ∧ zbj xs' ∧ Evly fun n => ∀ σ, T n n_8 [d, .int .i64 deep, .bool false] σ = some (.ret ⟨false, .tup [dT t, d']⟩, σ)
theorem zm1 : ∀ (r deep : Nat), deep + r = 5 → ∀ d xs, Row d xs → zbj xs → BldOK r deep d xs
  | _, deep, _, d, [], hR, hS => ⟨_, d, [], zhtb, hR, hS, any _ fun n σ => zfkb (zda hR)⟩
  | 0, deep, hr, d, x :: xs, hR, hS => by
    obtain ⟨d1, hs, hR1⟩ := zhu hR
    have hS1 : zbj xs := fun y hy => hS y (List.mem_cons_of_mem _ hy)
    have hl := zda hR
    have hx := zl0 hR 0 (by simp)
    have h0 : 0 < (x :: xs).length := by simp
    simp only [List.getElem_cons_zero] at hx
    have hpick : Evly fun n => ∀ σ, T n n_5 [.int .i64 x, .int .i64 40] σ = some (.ret ⟨false, .int .i64 (aro x 40)⟩, σ) := zd0.mono fun n h σ => h x 40 40 σ (hS x (by simp)) rfl (by omega) (by omega)
    have hn := zf9 x (m := 40) (by omega)
    generalize aro x 40 = n at hpick hn
    have hk : n % 5 = 0 ∨ n % 5 = 1 ∨ n % 5 = 2 ∨ n % 5 = 3 ∨ n % 5 = 4 := by omega
    rcases hk with hk | hk | hk | hk | hk
    · exact ⟨_, d1, xs, zn1 _, hR1, hS1, (hpick.and ze1).step 0 fun m _ h σ => ztw hl h0 hx hs hn (h.1 σ) (by omega) (by omega) hk (h.2 _ σ (zco (by omega)))⟩
    · exact ⟨_, d1, xs, zn1 _, hR1, hS1, (hpick.and ze1).step 0 fun m _ h σ => zty hl h0 hx hs hn (h.1 σ) (by omega) (by omega) hk (h.2 _ σ (zco (by omega)))⟩
    · exact ⟨_, d1, xs, zwl hn, hR1, hS1, hpick.step 0 fun m _ h σ => zq7 hl h0 hx hs hn (h σ) (by omega) (by omega) hk⟩
    · exact ⟨_, d1, xs, zn0 _, hR1, hS1, (hpick.and zlv).step 0 fun m _ h σ => ztp hl h0 hx hs hn (h.1 σ) (by omega) (by omega) hk (h.2 _ σ (zco (by omega)))⟩
    · exact ⟨_, d1, xs, zn0 _, hR1, hS1, (hpick.and zlv).step 0 fun m _ h σ => ztr hl h0 hx hs hn (h.1 σ) (by omega) (by omega) hk (h.2 _ σ (zco (by omega)))⟩
  | r + 1, deep, hr, d, x :: xs, hR, hS => by
    obtain ⟨d1, hs, hR1⟩ := zhu hR
    have hS1 : zbj xs := fun y hy => hS y (List.mem_cons_of_mem _ hy)
    have hl := zda hR
    have hx := zl0 hR 0 (by simp)
    have h0 : 0 < (x :: xs).length := by simp
    simp only [List.getElem_cons_zero] at hx
    have hpick : Evly fun n => ∀ σ, T n n_5 [.int .i64 x, .int .i64 40] σ = some (.ret ⟨false, .int .i64 (aro x 40)⟩, σ) := zd0.mono fun n h σ => h x 40 40 σ (hS x (by simp)) rfl (by omega) (by omega)
    have hn := zf9 x (m := 40) (by omega)
    generalize aro x 40 = n at hpick hn
    obtain ⟨a, d2, xs2, hLa, hR2, hS2, ha⟩ := zm1 r (deep + 1) (by omega) d1 xs hR1 hS1
    obtain ⟨b, d3, xs3, hLb, hR3, hS3, hb⟩ := zm1 r (deep + 1) (by omega) d2 xs2 hR2 hS2
    have hk : n % 10 = 0 ∨ n % 10 = 1 ∨ n % 10 = 2 ∨ n % 10 = 3 ∨ n % 10 = 4 ∨ n % 10 = 5 ∨ n % 10 = 6 ∨ n % 10 = 7 ∨ n % 10 = 8 ∨ n % 10 = 9 := by omega
    rcases hk with hk | hk | hk | hk | hk | hk | hk | hk | hk | hk
    · exact ⟨_, d1, xs, zn1 _, hR1, hS1, (hpick.and ze1).step 0 fun m _ h σ => ztx hl h0 hx hs hn (h.1 σ) (by omega) (by omega) hk (h.2 _ σ (zco (by omega)))⟩
    · exact ⟨_, d1, xs, zn1 _, hR1, hS1, (hpick.and ze1).step 0 fun m _ h σ => ztz hl h0 hx hs hn (h.1 σ) (by omega) (by omega) hk (h.2 _ σ (zco (by omega)))⟩
    · exact ⟨_, d1, xs, zwl hn, hR1, hS1, hpick.step 0 fun m _ h σ => zq8 hl h0 hx hs hn (h σ) (by omega) (by omega) hk⟩
    · exact ⟨_, d1, xs, zn0 _, hR1, hS1, (hpick.and zlv).step 0 fun m _ h σ => ztq hl h0 hx hs hn (h.1 σ) (by omega) (by omega) hk (h.2 _ σ (zco (by omega)))⟩
    · exact ⟨_, d1, xs, zn0 _, hR1, hS1, (hpick.and zlv).step 0 fun m _ h σ => zts hl h0 hx hs hn (h.1 σ) (by omega) (by omega) hk (h.2 _ σ (zco (by omega)))⟩
    · exact ⟨_, d3, xs3, zrz hLa hLb, hR3, hS3, (hpick.and (ha.and (hb.and zoz))).step 0 fun m _ h σ => ztt hl h0 hx hs hn (h.1 σ) (by omega) (by omega) hk (h.2.1 σ) (h.2.2.1 σ) (h.2.2.2 a b σ)⟩
    · exact ⟨_, d3, xs3, zrz hLa hLb, hR3, hS3, (hpick.and (ha.and (hb.and zoz))).step 0 fun m _ h σ => ztu hl h0 hx hs hn (h.1 σ) (by omega) (by omega) hk (h.2.1 σ) (h.2.2.1 σ) (h.2.2.2 a b σ)⟩
    · exact ⟨_, d3, xs3, zrz hLa hLb, hR3, hS3, (hpick.and (ha.and (hb.and zoz))).step 0 fun m _ h σ => ztv hl h0 hx hs hn (h.1 σ) (by omega) (by omega) hk (h.2.1 σ) (h.2.2.1 σ) (h.2.2.2 a b σ)⟩
    · exact ⟨_, d3, xs3, zaib hLa hLb, hR3, hS3, (hpick.and (ha.and (hb.and zls))).step 0 fun m _ h σ => ztn hl h0 hx hs hn (h.1 σ) (by omega) (by omega) hk (h.2.1 σ) (h.2.2.1 σ) (h.2.2.2 a b σ)⟩
    · exact ⟨_, d3, xs3, zaib hLa hLb, hR3, hS3, (hpick.and (ha.and (hb.and zls))).step 0 fun m _ h σ => zto hl h0 hx hs hn (h.1 σ) (by omega) (by omega) hk (h.2.1 σ) (h.2.2.1 σ) (h.2.2.2 a b σ)⟩
theorem zbab (d : D) (xs : List Int) (hR : Row d xs) (hS : zbj xs) : ∃ t, LB 5 t ∧ Evly fun n => ∀ σ, T n n_178 [d] σ = some (.ret ⟨false, dT t⟩, σ) := by
  obtain ⟨d1, hR1, o, h1⟩ := zj1 d xs 24 hR (by omega)
  obtain ⟨t, d2, xs2, hL, _, _, h2⟩ := zm1 5 0 (by omega) d1 _ hR1 (zf7 hS 24)
  refine ⟨t, hL, (h1.and h2).step 0 fun m _ h σ => ?_⟩
  have e1 := h.1 σ
  have e2 := h.2 σ
  rw [T_fun (af := a_129) rfl rfl]
  rw [dT_eq t] at e2 ⊢
  have l24 : ((24 : Nat) : Int) = 24 := rfl
  simp only [cT, l24, zeroI] at e1 e2 ⊢
  simp only [a_129, de0, de1, de2, szQ, szB, szL, sy0, sy1, sy2, sy3, sy4, sy5, zad, zaa, zac, zae, adel, zah, zag, zai, zaf, evalV, aget, aset, adel1, nth, AOp.kind, Nat.reduceAdd, Nat.reduceSub, Nat.reduceMul, Nat.reduceBEq, Nat.ble, bindO, Nat.reduceLeDiff, Int.reduceBEq, Int.reduceBNe, Int.reduceLE, Int.reduceLT, Int.reduceGE, Int.reduceGT, Int.reduceNeg, ks, e1, e2]
end Go.Fu
