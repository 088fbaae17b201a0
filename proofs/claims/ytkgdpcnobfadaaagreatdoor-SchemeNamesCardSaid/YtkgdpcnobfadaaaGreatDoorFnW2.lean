/-
  Types in print, run.
-/
import Derived.Test.YtkgdpcnobfadaaaGreatDoorFnX2
set_option linter.unusedSimpArgs false
set_option linter.unusedVariables false
namespace Go.Fu
open Go Go.Mx
set_option maxRecDepth 10000
def szT : Tp → Nat
  | .app f a => szT f + szT a + 10
  | _ => 10
def smT : Tp → Bool
  | .hole x => decide (0 ≤ x) && decide (x < 6)
  | .var s => decide (s.length ≤ 6)
  | .con c => decide (c.length ≤ 6)
  | .app f a => smT f && smT a
theorem zlt (b : Bool) (s : List UInt8) : (brS b s).length ≤ s.length + 2 := by
  unfold brS
  split <;> simp
theorem zbn : ∀ (t : Tp) (k : Nat), smT t = true → (prT t k).length ≤ szT t
  | .hole x, k, _ => by simp [prT, szT]
  | .var s, k, h => by
    simp only [smT, decide_eq_true_eq] at h
    simp only [prT, szT]; omega
  | .con c, k, h => by
    simp only [smT, decide_eq_true_eq] at h
    have := zlt (c == arrS0) c
    simp only [prT, szT]; omega
  | .app (.app (.con c) a) b, k, h => by
    simp only [smT, Bool.and_eq_true, decide_eq_true_eq] at h
    have ha := zbn a 1 h.1.2
    have hb := zbn b 0 h.2
    have hb3 := zbn b 3 h.2
    have hf := zbn (.app (.con c) a) 2 (by simp [smT, h.1.1, h.1.2])
    simp only [szT] at hf
    rw [prT]
    split
    · have := zlt (k != 0) (prT a 1 ++ [32, 45, 62, 32] ++ prT b 0)
      simp only [List.length_append, List.length_cons, List.length_nil] at this
      simp only [szT]; omega
    · have := zlt (k == 3) (prT (.app (.con c) a) 2 ++ [32] ++ prT b 3)
      simp only [List.length_append, List.length_cons, List.length_nil] at this
      simp only [szT]; omega
  | .app (.hole x) a, k, h => prT_len_app (.hole x) a k (zbn (.hole x) 2 (by simp only [smT, Bool.and_eq_true] at h; simpa [smT] using h.1)) (zbn a 3 (by simp only [smT, Bool.and_eq_true] at h; exact h.2)) rfl
  | .app (.var x) a, k, h => prT_len_app (.var x) a k (zbn (.var x) 2 (by simp only [smT, Bool.and_eq_true] at h; simpa [smT] using h.1)) (zbn a 3 (by simp only [smT, Bool.and_eq_true] at h; exact h.2)) rfl
  | .app (.con x) a, k, h => prT_len_app (.con x) a k (zbn (.con x) 2 (by simp only [smT, Bool.and_eq_true] at h; simpa [smT] using h.1)) (zbn a 3 (by simp only [smT, Bool.and_eq_true] at h; exact h.2)) rfl
  | .app (.app (.hole x) b) a, k, h => prT_len_app (.app (.hole x) b) a k (zbn (.app (.hole x) b) 2 (by simp only [smT, Bool.and_eq_true] at h ⊢; simpa using h.1)) (zbn a 3 (by simp only [smT, Bool.and_eq_true] at h; exact h.2)) rfl
  | .app (.app (.var x) b) a, k, h => prT_len_app (.app (.var x) b) a k (zbn (.app (.var x) b) 2 (by simp only [smT, Bool.and_eq_true] at h ⊢; simpa using h.1)) (zbn a 3 (by simp only [smT, Bool.and_eq_true] at h; exact h.2)) rfl
  | .app (.app (.app x y) b) a, k, h => prT_len_app (.app (.app x y) b) a k (zbn (.app (.app x y) b) 2 (by simp only [smT, Bool.and_eq_true] at h ⊢; simpa using h.1)) (zbn a 3 (by simp only [smT, Bool.and_eq_true] at h; exact h.2)) rfl
where
  prT_len_app (f a : Tp) (k : Nat) (h1 : (prT f 2).length ≤ szT f) (h2 : (prT a 3).length ≤ szT a) (he : prT (.app f a) k = brS (k == 3) (prT f 2 ++ [32] ++ prT a 3)) : (prT (.app f a) k).length ≤ szT (.app f a) := by
    rw [he]
    have := zlt (k == 3) (prT f 2 ++ [32] ++ prT a 3)
    simp only [List.length_append, List.length_cons, List.length_nil] at this
    simp only [szT]; omega
def z4D : D := .agg [.int .i64 0, .int .i64 0, .str [], .nils]
def zeb : Tp → Option (Tp × Tp)
  | .app (.app (.con c) a) b => if c == arrS0 then some (a, b) else none
  | _ => none
theorem zg6 (t : Tp) (h : zeb t = none) : Evly fun n => ∀ σ, T n n_99 [dT t] σ = some (.ret ⟨false, .tup [z4D, z4D, .bool false]⟩, σ) := any _ fun n σ => by
  rw [T_fun (af := a_14) rfl rfl]
  cases t with
  | hole x => simp only [a_14, de0, de1, de2, szQ, szB, szL, sy0, sy1, sy2, sy3, sy4, sy5, zad, zaa, zac, zae, adel, zah, zag, zai, zaf, evalV, aget, aset, adel1, nth, AOp.kind, Nat.reduceAdd, Nat.reduceSub, Nat.reduceMul, Nat.reduceBEq, Nat.ble, bindO, Nat.reduceLeDiff, Int.reduceBEq, Int.reduceBNe, Int.reduceLE, Int.reduceLT, Int.reduceGE, Int.reduceGT, Int.reduceNeg, ks, lz, dT, z4D, Mx.part]
  | var s => simp only [a_14, de0, de1, de2, szQ, szB, szL, sy0, sy1, sy2, sy3, sy4, sy5, zad, zaa, zac, zae, adel, zah, zag, zai, zaf, evalV, aget, aset, adel1, nth, AOp.kind, Nat.reduceAdd, Nat.reduceSub, Nat.reduceMul, Nat.reduceBEq, Nat.ble, bindO, Nat.reduceLeDiff, Int.reduceBEq, Int.reduceBNe, Int.reduceLE, Int.reduceLT, Int.reduceGE, Int.reduceGT, Int.reduceNeg, ks, lz, dT, z4D, Mx.part]
  | con s => simp only [a_14, de0, de1, de2, szQ, szB, szL, sy0, sy1, sy2, sy3, sy4, sy5, zad, zaa, zac, zae, adel, zah, zag, zai, zaf, evalV, aget, aset, adel1, nth, AOp.kind, Nat.reduceAdd, Nat.reduceSub, Nat.reduceMul, Nat.reduceBEq, Nat.ble, bindO, Nat.reduceLeDiff, Int.reduceBEq, Int.reduceBNe, Int.reduceLE, Int.reduceLT, Int.reduceGE, Int.reduceGT, Int.reduceNeg, ks, lz, dT, z4D, Mx.part]
  | app f b =>
    cases f with
    | hole x => simp only [a_14, de0, de1, de2, szQ, szB, szL, sy0, sy1, sy2, sy3, sy4, sy5, zad, zaa, zac, zae, adel, zah, zag, zai, zaf, evalV, aget, aset, adel1, nth, AOp.kind, Nat.reduceAdd, Nat.reduceSub, Nat.reduceMul, Nat.reduceBEq, Nat.ble, bindO, Nat.reduceLeDiff, Int.reduceBEq, Int.reduceBNe, Int.reduceLE, Int.reduceLT, Int.reduceGE, Int.reduceGT, Int.reduceNeg, ks, lz, dT, z4D, Mx.part]
    | var s => simp only [a_14, de0, de1, de2, szQ, szB, szL, sy0, sy1, sy2, sy3, sy4, sy5, zad, zaa, zac, zae, adel, zah, zag, zai, zaf, evalV, aget, aset, adel1, nth, AOp.kind, Nat.reduceAdd, Nat.reduceSub, Nat.reduceMul, Nat.reduceBEq, Nat.ble, bindO, Nat.reduceLeDiff, Int.reduceBEq, Int.reduceBNe, Int.reduceLE, Int.reduceLT, Int.reduceGE, Int.reduceGT, Int.reduceNeg, ks, lz, dT, z4D, Mx.part]
    | con s => simp only [a_14, de0, de1, de2, szQ, szB, szL, sy0, sy1, sy2, sy3, sy4, sy5, zad, zaa, zac, zae, adel, zah, zag, zai, zaf, evalV, aget, aset, adel1, nth, AOp.kind, Nat.reduceAdd, Nat.reduceSub, Nat.reduceMul, Nat.reduceBEq, Nat.ble, bindO, Nat.reduceLeDiff, Int.reduceBEq, Int.reduceBNe, Int.reduceLE, Int.reduceLT, Int.reduceGE, Int.reduceGT, Int.reduceNeg, ks, lz, dT, z4D, Mx.part]
    | app g a =>
      cases g with
      | hole x => simp only [a_14, de0, de1, de2, szQ, szB, szL, sy0, sy1, sy2, sy3, sy4, sy5, zad, zaa, zac, zae, adel, zah, zag, zai, zaf, evalV, aget, aset, adel1, nth, AOp.kind, Nat.reduceAdd, Nat.reduceSub, Nat.reduceMul, Nat.reduceBEq, Nat.ble, bindO, Nat.reduceLeDiff, Int.reduceBEq, Int.reduceBNe, Int.reduceLE, Int.reduceLT, Int.reduceGE, Int.reduceGT, Int.reduceNeg, ks, lz, dT, z4D, Mx.part]
      | var s => simp only [a_14, de0, de1, de2, szQ, szB, szL, sy0, sy1, sy2, sy3, sy4, sy5, zad, zaa, zac, zae, adel, zah, zag, zai, zaf, evalV, aget, aset, adel1, nth, AOp.kind, Nat.reduceAdd, Nat.reduceSub, Nat.reduceMul, Nat.reduceBEq, Nat.ble, bindO, Nat.reduceLeDiff, Int.reduceBEq, Int.reduceBNe, Int.reduceLE, Int.reduceLT, Int.reduceGE, Int.reduceGT, Int.reduceNeg, ks, lz, dT, z4D, Mx.part]
      | app g a => simp only [a_14, de0, de1, de2, szQ, szB, szL, sy0, sy1, sy2, sy3, sy4, sy5, zad, zaa, zac, zae, adel, zah, zag, zai, zaf, evalV, aget, aset, adel1, nth, AOp.kind, Nat.reduceAdd, Nat.reduceSub, Nat.reduceMul, Nat.reduceBEq, Nat.ble, bindO, Nat.reduceLeDiff, Int.reduceBEq, Int.reduceBNe, Int.reduceLE, Int.reduceLT, Int.reduceGE, Int.reduceGT, Int.reduceNeg, ks, lz, dT, z4D, Mx.part]
      | con c =>
        have hc : (c == ([45, 62] : List UInt8)) = false := by
          cases hb : c == ([45, 62] : List UInt8) with
          | false => rfl
          | true => simp only [zeb, arrS0, hb, if_true] at h; cases h
        simp only [a_14, de0, de1, de2, szQ, szB, szL, sy0, sy1, sy2, sy3, sy4, sy5, zad, zaa, zac, zae, adel, zah, zag, zai, zaf, evalV, aget, aset, adel1, nth, AOp.kind, Nat.reduceAdd, Nat.reduceSub, Nat.reduceMul, Nat.reduceBEq, Nat.ble, bindO, Nat.reduceLeDiff, Int.reduceBEq, Int.reduceBNe, Int.reduceLE, Int.reduceLT, Int.reduceGE, Int.reduceGT, Int.reduceNeg, ks, lz, dT, z4D, Mx.part, hc]
theorem zyd (t a b : Tp) (h : zeb t = some (a, b)) : Evly fun n => ∀ σ, T n n_99 [dT t] σ = some (.ret ⟨false, .tup [dT a, dT b, .bool true]⟩, σ) := any _ fun n σ => by
  unfold zeb at h
  split at h
  · rename_i c a' b'
    split at h
    · rename_i hc
      cases h
      have hc : (c == ([45, 62] : List UInt8)) = true := hc
      rw [T_fun (af := a_14) rfl rfl]
      simp only [a_14, de0, de1, de2, szQ, szB, szL, sy0, sy1, sy2, sy3, sy4, sy5, zad, zaa, zac, zae, adel, zah, zag, zai, zaf, evalV, aget, aset, adel1, nth, AOp.kind, Nat.reduceAdd, Nat.reduceSub, Nat.reduceMul, Nat.reduceBEq, Nat.ble, bindO, Nat.reduceLeDiff, Int.reduceBEq, Int.reduceBNe, Int.reduceLE, Int.reduceLT, Int.reduceGE, Int.reduceGT, Int.reduceNeg, ks, lz, dT, dT_eq a, dT_eq b, cT, Mx.part, hc]
    · cases h
  · cases h
theorem zzg : Evly fun n => ∀ σ, T n n_187 [.bool false] σ = some (.ret ⟨false, .int .i64 0⟩, σ) := any _ fun n σ => by
  rw [T_fun (af := a_160) rfl rfl]
  simp only [a_160, de0, de1, de2, szQ, szB, szL, sy0, sy1, sy2, sy3, sy4, sy5, zad, zaa, zac, zae, adel, zah, zag, zai, zaf, evalV, aget, aset, adel1, nth, AOp.kind, Nat.reduceAdd, Nat.reduceSub, Nat.reduceMul, Nat.reduceBEq, Nat.ble, bindO, Nat.reduceLeDiff, Int.reduceBEq, Int.reduceBNe, Int.reduceLE, Int.reduceLT, Int.reduceGE, Int.reduceGT, Int.reduceNeg, ks, lz]
theorem zph (m : Nat) (t : Tp) (k : Int) (σ : Store) (ht : isApp t = false) (hs : smT t = true) (h0 : T m n_99 [dT t] σ = some (.ret ⟨false, .tup [z4D, z4D, .bool false]⟩, σ)) (h1 : ∀ (x : Nat), x < 6 → T m n_53 [.int .i64 (x : Int)] σ = some (.ret ⟨false, .str [UInt8.ofNat (48 + x)]⟩, σ)) (j : Nat) :
    T (m + 1) n_16 [dT t, .int .i64 k] σ = some (.ret ⟨false, .str (prT t j)⟩, σ) := by
  rw [T_fun (af := a_17) rfl rfl]
  cases t with
  | app f a => cases ht
  | hole x =>
    simp only [smT, Bool.and_eq_true, decide_eq_true_eq] at hs
    obtain ⟨y, rfl⟩ : ∃ y : Nat, x = y := ⟨x.toNat, by omega⟩
    have h2 := h1 y (by omega)
    simp only [dT, z4D] at h0 ⊢
    simp only [a_17, de0, de1, de2, szQ, szB, szL, sy0, sy1, sy2, sy3, sy4, sy5, zad, zaa, zac, zae, adel, zah, zag, zai, zaf, evalV, aget, aset, adel1, nth, AOp.kind, Nat.reduceAdd, Nat.reduceSub, Nat.reduceMul, Nat.reduceBEq, Nat.ble, bindO, Nat.reduceLeDiff, Int.reduceBEq, Int.reduceBNe, Int.reduceLE, Int.reduceLT, Int.reduceGE, Int.reduceGT, Int.reduceNeg, ks, lz, h0, h2, prT, Int.toNat_natCast]
  | var s =>
    simp only [dT, z4D] at h0 ⊢
    simp only [a_17, de0, de1, de2, szQ, szB, szL, sy0, sy1, sy2, sy3, sy4, sy5, zad, zaa, zac, zae, adel, zah, zag, zai, zaf, evalV, aget, aset, adel1, nth, AOp.kind, Nat.reduceAdd, Nat.reduceSub, Nat.reduceMul, Nat.reduceBEq, Nat.ble, bindO, Nat.reduceLeDiff, Int.reduceBEq, Int.reduceBNe, Int.reduceLE, Int.reduceLT, Int.reduceGE, Int.reduceGT, Int.reduceNeg, ks, lz, h0, prT]
  | con c =>
    simp only [smT, decide_eq_true_eq] at hs
    simp only [dT, z4D] at h0 ⊢
    cases hc : c == ([45, 62] : List UInt8) with
    | false => simp only [a_17, de0, de1, de2, szQ, szB, szL, sy0, sy1, sy2, sy3, sy4, sy5, zad, zaa, zac, zae, adel, zah, zag, zai, zaf, evalV, aget, aset, adel1, nth, AOp.kind, Nat.reduceAdd, Nat.reduceSub, Nat.reduceMul, Nat.reduceBEq, Nat.ble, bindO, Nat.reduceLeDiff, Int.reduceBEq, Int.reduceBNe, Int.reduceLE, Int.reduceLT, Int.reduceGE, Int.reduceGT, Int.reduceNeg, ks, lz, h0, prT, brS, arrS0, hc, Bool.false_eq_true, if_false]
    | true =>
      have he : c = [45, 62] := by simpa using hc
      subst he
      simp only [a_17, de0, de1, de2, szQ, szB, szL, sy0, sy1, sy2, sy3, sy4, sy5, zad, zaa, zac, zae, adel, zah, zag, zai, zaf, evalV, aget, aset, adel1, nth, AOp.kind, Nat.reduceAdd, Nat.reduceSub, Nat.reduceMul, Nat.reduceBEq, Nat.ble, bindO, Nat.reduceLeDiff, Int.reduceBEq, Int.reduceBNe, Int.reduceLE, Int.reduceLT, Int.reduceGE, Int.reduceGT, Int.reduceNeg, ks, lz, h0, prT, brS, arrS0, hc, if_true]
theorem ziab (m : Nat) (t a b : Tp) (k : Nat) (σ : Store) (ht : zeb t = some (a, b)) (hs : smT t = true) (hz : szT t ≤ 1048576) (h0 : T m n_99 [dT t] σ = some (.ret ⟨false, .tup [dT a, dT b, .bool true]⟩, σ)) (hb : T m n_187 [.bool false] σ = some (.ret ⟨false, .int .i64 0⟩, σ))
    (h1 : T m n_16 [dT a, .int .i64 1] σ = some (.ret ⟨false, .str (prT a 1)⟩, σ)) (h2 : T m n_16 [dT b, .int .i64 0] σ = some (.ret ⟨false, .str (prT b 0)⟩, σ)) :
    T (m + 1) n_16 [dT t, .int .i64 k] σ = some (.ret ⟨false, .str (prT t k)⟩, σ) := by
  unfold zeb at ht
  split at ht
  · rename_i c a' b'
    split at ht
    · rename_i hc
      cases ht
      have hc : (c == arrS0) = true := hc
      have hl := zbn (.app (.app (.con c) a) b) 0 hs
      have he : prT (.app (.app (.con c) a) b) k = brS (k != 0) (prT a 1 ++ [32, 45, 62, 32] ++ prT b 0) := by rw [prT, hc]; rfl
      have he0 : prT (.app (.app (.con c) a) b) 0 = prT a 1 ++ [32, 45, 62, 32] ++ prT b 0 := by rw [prT, hc]; rfl
      rw [he0, List.length_append, List.length_append] at hl
      rw [he]
      generalize prT a 1 = sa at *
      generalize prT b 0 = sb at *
      simp only [List.length_cons, List.length_nil] at hl
      have d1 : sa.length ≤ 281474976710652 := by omega
      have d2 : (sa ++ [32, 45, 62, 32]).length + sb.length ≤ 281474976710656 := by simp; omega
      have d3 : (sa ++ [32, 45, 62, 32] ++ sb).length ≤ 281474976710655 := by simp; omega
      have d4 : (sa ++ [32, 45, 62, 32] ++ sb).length ≤ 281474976710654 := by simp; omega
      have d5 : 1 + (sa ++ [32, 45, 62, 32] ++ sb).length ≤ 281474976710656 := by simp; omega
      have d6 : (sa ++ [32, 45, 62, 32] ++ sb).length + 1 ≤ 281474976710655 := by simp; omega
      have w0 : IntKind.i64.wrap (0 + 0) = 0 := by decide
      have hfb : (b.form == 5) = false := by cases b <;> rfl
      rw [T_fun (af := a_17) rfl rfl]
      rw [dT_eq a] at h0 h1
      rw [dT_eq b] at h0 h2
      simp only [dT, cT, dT_eq a, dT_eq b] at h0 h1 h2 ⊢
      cases hk : k != 0 with
      | false =>
        have hk' : ((k : Int) != 0) = false := by simpa using hk
        simp only [a_17, de0, de1, de2, szQ, szB, szL, sy0, sy1, sy2, sy3, sy4, sy5, zad, zaa, zac, zae, adel, zah, zag, zai, zaf, evalV, aget, aset, adel1, nth, AOp.kind, Nat.reduceAdd, Nat.reduceSub, Nat.reduceMul, Nat.reduceBEq, Nat.ble, bindO, Nat.reduceLeDiff, Int.reduceBEq, Int.reduceBNe, Int.reduceLE, Int.reduceLT, Int.reduceGE, Int.reduceGT, Int.reduceNeg, ks, lz, h0, h1, h2, hb, d1, d2, w0, hfb, hk', brS, Bool.false_eq_true, if_false]
      | true =>
        have hk' : ((k : Int) != 0) = true := by simpa using hk
        simp only [a_17, de0, de1, de2, szQ, szB, szL, sy0, sy1, sy2, sy3, sy4, sy5, zad, zaa, zac, zae, adel, zah, zag, zai, zaf, evalV, aget, aset, adel1, nth, AOp.kind, Nat.reduceAdd, Nat.reduceSub, Nat.reduceMul, Nat.reduceBEq, Nat.ble, bindO, Nat.reduceLeDiff, Int.reduceBEq, Int.reduceBNe, Int.reduceLE, Int.reduceLT, Int.reduceGE, Int.reduceGT, Int.reduceNeg, ks, lz, h0, h1, h2, hb, d1, d2, d3, d4, d5, d6, w0, hfb, hk', brS, if_true]
    · cases ht
  · cases ht
theorem zh9b (m : Nat) (f a : Tp) (k : Nat) (σ : Store) (hs : smT (.app f a) = true) (hz : szT (.app f a) ≤ 1048576) (hp : prT (.app f a) k = brS (k == 3) (prT f 2 ++ [32] ++ prT a 3)) (h0 : T m n_99 [dT (.app f a)] σ = some (.ret ⟨false, .tup [z4D, z4D, .bool false]⟩, σ))
    (h1 : T m n_16 [dT f, .int .i64 2] σ = some (.ret ⟨false, .str (prT f 2)⟩, σ)) (h2 : T m n_16 [dT a, .int .i64 3] σ = some (.ret ⟨false, .str (prT a 3)⟩, σ)) :
    T (m + 1) n_16 [dT (.app f a), .int .i64 k] σ = some (.ret ⟨false, .str (prT (.app f a) k)⟩, σ) := by
  simp only [smT, Bool.and_eq_true] at hs
  have l1 := zbn f 2 hs.1
  have l2 := zbn a 3 hs.2
  simp only [szT] at hz
  rw [hp]
  generalize prT f 2 = sa at *
  generalize prT a 3 = sb at *
  have d1 : sa.length ≤ 281474976710655 := by omega
  have d2 : (sa ++ [32]).length + sb.length ≤ 281474976710656 := by simp; omega
  have d3 : (sa ++ [32] ++ sb).length ≤ 281474976710655 := by simp; omega
  have d4 : (sa ++ [32] ++ sb).length ≤ 281474976710654 := by simp; omega
  have d5 : 1 + (sa ++ [32] ++ sb).length ≤ 281474976710656 := by simp; omega
  have d6 : (sa ++ [32] ++ sb).length + 1 ≤ 281474976710655 := by simp; omega
  rw [T_fun (af := a_17) rfl rfl]
  rw [dT_eq f] at h1
  rw [dT_eq a] at h2
  simp only [dT, cT, dT_eq f, dT_eq a, z4D] at h0 h1 h2 ⊢
  cases hk : k == 3 with
  | false =>
    have hk' : ((k : Int) == 3) = false := by simp at hk ⊢; omega
    simp only [a_17, de0, de1, de2, szQ, szB, szL, sy0, sy1, sy2, sy3, sy4, sy5, zad, zaa, zac, zae, adel, zah, zag, zai, zaf, evalV, aget, aset, adel1, nth, AOp.kind, Nat.reduceAdd, Nat.reduceSub, Nat.reduceMul, Nat.reduceBEq, Nat.ble, bindO, Nat.reduceLeDiff, Int.reduceBEq, Int.reduceBNe, Int.reduceLE, Int.reduceLT, Int.reduceGE, Int.reduceGT, Int.reduceNeg, ks, lz, Mx.part, h0, h1, h2, d1, d2, hk', brS, Bool.false_eq_true, if_false]
  | true =>
    have hk' : ((k : Int) == 3) = true := by simp at hk ⊢; omega
    simp only [a_17, de0, de1, de2, szQ, szB, szL, sy0, sy1, sy2, sy3, sy4, sy5, zad, zaa, zac, zae, adel, zah, zag, zai, zaf, evalV, aget, aset, adel1, nth, AOp.kind, Nat.reduceAdd, Nat.reduceSub, Nat.reduceMul, Nat.reduceBEq, Nat.ble, bindO, Nat.reduceLeDiff, Int.reduceBEq, Int.reduceBNe, Int.reduceLE, Int.reduceLT, Int.reduceGE, Int.reduceGT, Int.reduceNeg, ks, lz, Mx.part, h0, h1, h2, d1, d2, d3, d4, d5, d6, hk', brS, if_true]
theorem zye (f a : Tp) (k : Nat) (h : zeb (.app f a) = none) : prT (.app f a) k = brS (k == 3) (prT f 2 ++ [32] ++ prT a 3) := by
  cases f with
  | hole x => rfl
  | var s => rfl
  | con c => rfl
  | app g b =>
    cases g with
    | hole x => rfl
    | var s => rfl
    | app g b => rfl
    | con c =>
      rw [prT]
      cases hc : c == arrS0 with
      | false => rfl
      | true => simp only [zeb, hc, if_true] at h; cases h
theorem zzy {t a b : Tp} (h : zeb t = some (a, b)) : nT a < nT t ∧ nT b < nT t ∧ (smT t = true → smT a = true ∧ smT b = true) ∧ szT a ≤ szT t ∧ szT b ≤ szT t := by
  unfold zeb at h
  split at h
  · split at h
    · cases h
      refine ⟨by simp only [nT]; omega, by simp only [nT]; omega, fun h => ?_, by simp only [szT]; omega, by simp only [szT]; omega⟩
      simp only [smT, Bool.and_eq_true] at h
      exact ⟨h.1.2, h.2⟩
    · cases h
  · cases h
theorem zgk : ∀ (N : Nat) (t : Tp), nT t ≤ N → smT t = true → szT t ≤ 1048576 → Evly fun n => ∀ (k : Nat) σ, T n n_16 [dT t, .int .i64 k] σ = some (.ret ⟨false, .str (prT t k)⟩, σ)
  | 0, t, hn, _, _ => by cases t <;> simp [nT] at hn
  | N + 1, t, hn, hs, hz => by
    cases hf : zeb t with
    | some ab =>
      obtain ⟨a, b⟩ := ab
      have hlt := zzy hf
      have hsm := hlt.2.2.1 hs
      have ia := zgk N a (by omega) hsm.1 (by omega)
      have ib := zgk N b (by omega) hsm.2 (by omega)
      exact ((zyd t a b hf).and (zzg.and (ia.and ib))).step 0 fun m _ h k σ => ziab m t a b k σ hf hs hz (h.1 σ) (h.2.1 σ) (h.2.2.1 1 σ) (h.2.2.2 0 σ)
    | none =>
      cases t with
      | app f a =>
        have hs' := hs
        simp only [smT, Bool.and_eq_true] at hs'
        have hz' := hz
        simp only [szT] at hz'
        simp only [nT] at hn
        have ia := zgk N f (by omega) hs'.1 (by omega)
        have ib := zgk N a (by omega) hs'.2 (by omega)
        exact ((zg6 _ hf).and (ia.and ib)).step 0 fun m _ h k σ => zh9b m f a k σ hs hz (zye f a k hf) (h.1 σ) (h.2.1 2 σ) (h.2.2 3 σ)
      | hole x => exact ((zg6 _ hf).and zm8).step 0 fun m _ h k σ => zph m _ k σ rfl hs (h.1 σ) (fun x hx => h.2 x σ hx) k
      | var s => exact ((zg6 _ hf).and zm8).step 0 fun m _ h k σ => zph m _ k σ rfl hs (h.1 σ) (fun x hx => h.2 x σ hx) k
      | con c => exact ((zg6 _ hf).and zm8).step 0 fun m _ h k σ => zph m _ k σ rfl hs (h.1 σ) (fun x hx => h.2 x σ hx) k
theorem zhx (t : Tp) (hs : smT t = true) (hz : szT t ≤ 1048576) : Evly fun n => ∀ σ, T n n_67 [dT t] σ = some (.ret ⟨false, .str (prT t 0)⟩, σ) := (zgk (nT t) t (Nat.le_refl _) hs hz).step 0 fun m _ h σ => by
  have h1 := h 0 σ
  rw [T_fun (af := a_156) rfl rfl]
  rw [dT_eq t] at h1 ⊢
  simp only [cT, zeroI] at h1 ⊢
  simp only [a_156, de0, de1, de2, szQ, szB, szL, sy0, sy1, sy2, sy3, sy4, sy5, zad, zaa, zac, zae, adel, zah, zag, zai, zaf, evalV, aget, aset, adel1, nth, AOp.kind, Nat.reduceAdd, Nat.reduceSub, Nat.reduceMul, Nat.reduceBEq, Nat.ble, bindO, Nat.reduceLeDiff, Int.reduceBEq, Int.reduceBNe, Int.reduceLE, Int.reduceLT, Int.reduceGE, Int.reduceGT, Int.reduceNeg, ks, lz, h1]
end Go.Fu
namespace Go.Fu
open Go Go.Mx
set_option maxRecDepth 10000
theorem zdb : ∀ a : List UInt8, Op.bytesLess a a = false
  | [] => rfl
  | x :: a => by
    have h : ¬ (x < x) := by rw [UInt8.lt_iff_toNat_lt]; omega
    simp [Op.bytesLess, zdb a]
theorem zhk : ∀ a b : List UInt8, Op.bytesLess a b = true → Op.bytesLess b a = false
  | [], [], h => by cases h
  | [], y :: b, h => rfl
  | x :: a, [], h => by cases h
  | x :: a, y :: b, h => by
    simp only [Op.bytesLess, Bool.or_eq_true, Bool.and_eq_true, decide_eq_true_eq, beq_iff_eq] at h
    simp only [Op.bytesLess, Bool.or_eq_false_iff, Bool.and_eq_false_iff, decide_eq_false_iff_not, beq_eq_false_iff_ne]
    rw [UInt8.lt_iff_toNat_lt] at h ⊢
    rcases h with h | ⟨h1, h2⟩
    · refine ⟨by omega, .inl fun e => ?_⟩
      rw [e] at h; omega
    · rw [h1]
      exact ⟨by omega, .inr (zhk a b h2)⟩
theorem zm0 : ∀ a b c : List UInt8, Op.bytesLess a b = true → Op.bytesLess b c = true → Op.bytesLess a c = true
  | [], [], c, h, _ => by cases h
  | [], y :: b, [], _, h => by cases h
  | [], y :: b, z :: c, _, _ => rfl
  | x :: a, [], c, h, _ => by cases h
  | x :: a, y :: b, [], _, h => by cases h
  | x :: a, y :: b, z :: c, h, h' => by
    simp only [Op.bytesLess, Bool.or_eq_true, Bool.and_eq_true, decide_eq_true_eq, beq_iff_eq, UInt8.lt_iff_toNat_lt] at h h' ⊢
    rcases h with h | ⟨h1, h2⟩
    · rcases h' with h' | ⟨h3, h4⟩
      · exact .inl (by omega)
      · rw [← h3]; exact .inl h
    · rcases h' with h' | ⟨h3, h4⟩
      · rw [h1]; exact .inl h'
      · exact .inr ⟨h1.trans h3, zm0 a b c h2 h4⟩
theorem znq : ∀ a b : List UInt8, Op.bytesLess a b = false → Op.bytesLess b a = false → a = b
  | [], [], _, _ => rfl
  | [], y :: b, h, _ => by cases h
  | x :: a, [], _, h => by cases h
  | x :: a, y :: b, h, h' => by
    simp only [Op.bytesLess, Bool.or_eq_false_iff, Bool.and_eq_false_iff, decide_eq_false_iff_not, beq_eq_false_iff_ne, UInt8.lt_iff_toNat_lt] at h h'
    have e : x = y := UInt8.toNat_inj.1 (by omega)
    subst e
    have h1 : Op.bytesLess a b = false := h.2.resolve_left (by simp)
    have h2 : Op.bytesLess b a = false := h'.2.resolve_left (by simp)
    rw [znq a b h1 h2]
def cmpS (a b : List UInt8) : Int := if Op.bytesLess a b then -1 else if (Op.bytesLess a b || a == b) then 0 else 1
def byC (p q : Pr) : Int := if cmpS p.cls q.cls != 0 then cmpS p.cls q.cls else cmpS (prT p.ty 0) (prT q.ty 0)
def ltP (p q : Pr) : Bool := decide (byC p q < 0)
theorem zv6 {a b : List UInt8} : cmpS a b < 0 ↔ Op.bytesLess a b = true := by
  unfold cmpS
  cases h : Op.bytesLess a b with
  | true => simp
  | false => cases a == b <;> simp
theorem zlu {a b : List UInt8} : cmpS a b = 0 ↔ a = b := by
  unfold cmpS
  cases h : Op.bytesLess a b with
  | true =>
    simp only [if_true]
    constructor
    · intro h; omega
    · rintro rfl; rw [zdb] at h; cases h
  | false => by_cases he : a = b <;> simp [he]
theorem zo2 {p q : Pr} : ltP p q = true ↔ Op.bytesLess p.cls q.cls = true ∨ (p.cls = q.cls ∧ Op.bytesLess (prT p.ty 0) (prT q.ty 0) = true) := by
  unfold ltP byC
  by_cases h : p.cls = q.cls
  · have hc := zlu.2 h
    rw [hc]
    simp only [bne_self_eq_false, Bool.false_eq_true, if_false, decide_eq_true_eq, zv6, h, zdb, false_or, true_and]
  · have hc : cmpS p.cls q.cls ≠ 0 := fun e => h (zlu.1 e)
    have hb : (cmpS p.cls q.cls != 0) = true := by simp [hc]
    simp only [hb, if_true, decide_eq_true_eq, zv6, h, false_and, or_false]
def leP (p q : Pr) : Prop := ltP q p = false
theorem zaub {p q : Pr} (h : ltP p q = true) : ltP q p = false := by
  cases hc : ltP q p with
  | false => rfl
  | true =>
    rw [zo2] at h hc
    rcases h with h | ⟨h1, h2⟩
    · rcases hc with hc | ⟨h3, _⟩
      · rw [zhk _ _ h] at hc; cases hc
      · rw [h3, zdb] at h; cases h
    · rcases hc with hc | ⟨h3, h4⟩
      · rw [h1, zdb] at hc; cases hc
      · rw [zhk _ _ h2] at h4; cases h4
theorem zwm {p q : Pr} : leP p q ↔ Op.bytesLess p.cls q.cls = true ∨ (p.cls = q.cls ∧ Op.bytesLess (prT q.ty 0) (prT p.ty 0) = false) := by
  unfold leP
  constructor
  · intro h
    have hn : ¬ (Op.bytesLess q.cls p.cls = true ∨ (q.cls = p.cls ∧ Op.bytesLess (prT q.ty 0) (prT p.ty 0) = true)) := fun e => by rw [zo2.2 e] at h; cases h
    cases hb : Op.bytesLess p.cls q.cls with
    | true => exact .inl rfl
    | false =>
      have h2 : Op.bytesLess q.cls p.cls = false := by
        cases h3 : Op.bytesLess q.cls p.cls with
        | false => rfl
        | true => exact absurd (.inl h3) hn
      have he := znq _ _ hb h2
      refine .inr ⟨he, ?_⟩
      cases h3 : Op.bytesLess (prT q.ty 0) (prT p.ty 0) with
      | false => rfl
      | true => exact absurd (.inr ⟨he.symm, h3⟩) hn
  · intro h
    cases hc : ltP q p with
    | false => rfl
    | true =>
      rw [zo2] at hc
      rcases h with h | ⟨h1, h2⟩
      · rcases hc with hc | ⟨h3, _⟩
        · rw [zhk _ _ h] at hc; cases hc
        · rw [h3, zdb] at h; cases h
      · rcases hc with hc | ⟨_, h4⟩
        · rw [h1, zdb] at hc; cases hc
        · rw [h2] at h4; cases h4
theorem zajb {p q r : Pr} (h : leP p q) (h' : leP q r) : leP p r := by
  rw [zwm] at h h' ⊢
  rcases h with h | ⟨h1, h2⟩
  · rcases h' with h' | ⟨h3, h4⟩
    · exact .inl (zm0 _ _ _ h h')
    · rw [← h3]; exact .inl h
  · rcases h' with h' | ⟨h3, h4⟩
    · rw [h1]; exact .inl h'
    · refine .inr ⟨h1.trans h3, ?_⟩
      cases hc : Op.bytesLess (prT r.ty 0) (prT p.ty 0) with
      | false => rfl
      | true =>
        cases hq : Op.bytesLess (prT r.ty 0) (prT q.ty 0) with
        | true => rw [hq] at h4; cases h4
        | false =>
          cases hq2 : Op.bytesLess (prT q.ty 0) (prT r.ty 0) with
          | true => rw [zm0 _ _ _ hq2 hc] at h2; cases h2
          | false => rw [← znq _ _ hq2 hq] at hc; rw [hc] at h2; cases h2
theorem zd2b {p q : Pr} (hp : okA p.ty = true) (hq : okA q.ty = true) (h : leP p q) (h' : leP q p) : p = q := by
  rw [zwm] at h h'
  rcases h with h | ⟨h1, h2⟩
  · rcases h' with h' | ⟨h3, _⟩
    · rw [zhk _ _ h] at h'; cases h'
    · rw [h3, zdb] at h; cases h
  · rcases h' with h' | ⟨_, h4⟩
    · rw [h1, zdb] at h'; cases h'
    · have := print_inj' _ _ hp hq (znq _ _ h4 h2)
      cases p; cases q
      simp only at h1 this
      rw [h1, this]
def insP (x : Pr) : List Pr → List Pr
  | [] => [x]
  | y :: q => if ltP x y then y :: insP x q else x :: y :: q
def srt (l : List Pr) : List Pr := l.foldl (fun q x => insP x q) []
theorem zk6 (x : Pr) : ∀ q, (insP x q).Perm (x :: q)
  | [] => List.Perm.refl _
  | y :: q => by
    unfold insP
    split
    · exact ((zk6 x q).cons y).trans (List.Perm.swap x y q)
    · exact List.Perm.refl _
theorem zmd (x : Pr) : ∀ q, q.Pairwise (fun a b => leP b a) → (insP x q).Pairwise (fun a b => leP b a)
  | [], _ => by simp [insP]
  | y :: q, h => by
    rw [List.pairwise_cons] at h
    unfold insP
    cases hc : ltP x y with
    | true =>
      rw [if_pos rfl, List.pairwise_cons]
      refine ⟨fun z hz => ?_, zmd x q h.2⟩
      have := (zk6 x q).mem_iff.1 hz
      rcases List.mem_cons.1 this with rfl | hz
      · exact zaub hc
      · exact h.1 z hz
    | false =>
      rw [if_neg (by simp), List.pairwise_cons]
      refine ⟨fun z hz => ?_, List.pairwise_cons.2 h⟩
      rcases List.mem_cons.1 hz with rfl | hz
      · exact hc
      · exact zajb (h.1 z hz) hc
theorem zfa (l : List Pr) : ∀ q, q.Pairwise (fun a b => leP b a) → (l.foldl (fun q x => insP x q) q).Pairwise (fun a b => leP b a) ∧ (l.foldl (fun q x => insP x q) q).Perm (q ++ l) := by
  induction l with
  | nil => intro q h; exact ⟨h, by simp⟩
  | cons x l ih =>
    intro q h
    have := ih (insP x q) (zmd x q h)
    refine ⟨this.1, this.2.trans ?_⟩
    exact ((zk6 x q).append_right l).trans List.perm_middle.symm
theorem ze4b (l l' : List Pr) (hp : l.Perm l') (hA : ∀ p ∈ l, okA p.ty = true) : srt l = srt l' := by
  have h1 := zfa l [] List.Pairwise.nil
  have h2 := zfa l' [] List.Pairwise.nil
  simp only [List.nil_append] at h1 h2
  refine List.Perm.eq_of_pairwise (le := fun a b => leP b a) (fun a b ha hb h h' => ?_) h1.1 h2.1 (h1.2.trans (hp.trans h2.2.symm))
  exact zd2b (hA a (h1.2.mem_iff.1 ha)) (hA b (hp.mem_iff.2 (h2.2.mem_iff.1 hb))) h' h
end Go.Fu
namespace Go.Fu
open Go Go.Mx
set_option maxRecDepth 10000
theorem zpz {body : Env → Store → XRes} {k : Nat} {e e' : Env} {σ σ' : Store} (h : body e σ = some (.ret, e', σ')) : loopN body (k + 1) e σ = some (.ret, e', σ') := by
  rw [loopN, h]
theorem zgxb : Evly fun n => ∀ (s : List UInt8) σ, T n n_177 [.str s] σ = some (.ret ⟨false, .bool false⟩, σ) := any _ fun n s σ => by
  rw [T_fun (af := a_119) rfl rfl]
  have h : (s == s) = true := by simp
  simp only [a_119, de0, de1, de2, szQ, szB, szL, sy0, sy1, sy2, sy3, sy4, sy5, zad, zaa, zac, zae, adel, zah, zag, zai, zaf, evalV, aget, aset, adel1, nth, AOp.kind, Nat.reduceAdd, Nat.reduceSub, Nat.reduceMul, Nat.reduceBEq, Nat.ble, bindO, Nat.reduceLeDiff, Int.reduceBEq, Int.reduceBNe, Int.reduceLE, Int.reduceLT, Int.reduceGE, Int.reduceGT, Int.reduceNeg, ks, lz, h]
theorem zfnb : Evly fun n => ∀ (a b : List UInt8) σ, T n n_176 [.str a, .str b] σ = some (.ret ⟨false, .int .i64 (cmpS a b)⟩, σ) := zgxb.step 0 fun m _ h a b σ => by
  have h1 := h a σ
  have h2 := h b σ
  rw [T_fun (af := a_68) rfl rfl]
  cases hl : Op.bytesLess a b with
  | true => simp only [a_68, de0, de1, de2, szQ, szB, szL, sy0, sy1, sy2, sy3, sy4, sy5, zad, zaa, zac, zae, adel, zah, zag, zai, zaf, evalV, aget, aset, adel1, nth, AOp.kind, Nat.reduceAdd, Nat.reduceSub, Nat.reduceMul, Nat.reduceBEq, Nat.ble, bindO, Nat.reduceLeDiff, Int.reduceBEq, Int.reduceBNe, Int.reduceLE, Int.reduceLT, Int.reduceGE, Int.reduceGT, Int.reduceNeg, ks, lz, h1, h2, hl, cmpS, if_true]
  | false =>
    cases he : a == b with
    | true => simp only [a_68, de0, de1, de2, szQ, szB, szL, sy0, sy1, sy2, sy3, sy4, sy5, zad, zaa, zac, zae, adel, zah, zag, zai, zaf, evalV, aget, aset, adel1, nth, AOp.kind, Nat.reduceAdd, Nat.reduceSub, Nat.reduceMul, Nat.reduceBEq, Nat.ble, bindO, Nat.reduceLeDiff, Int.reduceBEq, Int.reduceBNe, Int.reduceLE, Int.reduceLT, Int.reduceGE, Int.reduceGT, Int.reduceNeg, ks, lz, h1, h2, hl, he, cmpS, Bool.false_eq_true, if_true, if_false]
    | false => simp only [a_68, de0, de1, de2, szQ, szB, szL, sy0, sy1, sy2, sy3, sy4, sy5, zad, zaa, zac, zae, adel, zah, zag, zai, zaf, evalV, aget, aset, adel1, nth, AOp.kind, Nat.reduceAdd, Nat.reduceSub, Nat.reduceMul, Nat.reduceBEq, Nat.ble, bindO, Nat.reduceLeDiff, Int.reduceBEq, Int.reduceBNe, Int.reduceLE, Int.reduceLT, Int.reduceGE, Int.reduceGT, Int.reduceNeg, ks, lz, h1, h2, hl, he, cmpS, Bool.false_eq_true, if_true, if_false]
def orE (a b : Int) (i : Nat) : Env := { slots := [(3, ⟨false, .int .i64 0⟩), (6, ⟨false, .list k_int [.int .i64 a, .int .i64 b]⟩), (7, ⟨false, .int .i64 2⟩), (8, ⟨false, .int .i64 i⟩)], locs := [], boxes := [], defers := [] }
theorem zh6b : Evly fun n => ∀ (o : Bool) (a b : Int) σ, T n n_195 [.list k_int [.int .i64 a, .int .i64 b]] σ = some (.ret ⟨false, .int .i64 (if a != 0 then a else b)⟩, σ) := (Evly.all (p := fun _ => True) fun _ => trivial).step 4 fun m hm _ o a b σ => by
  obtain ⟨j, rfl⟩ : ∃ j, m = j + 3 := ⟨m - 3, by omega⟩
  have w1 : IntKind.i64.wrap (0 + 1) = 1 := by decide
  have w2 : IntKind.i64.wrap (1 + 1) = 2 := by decide
  have h02 : (0 : Nat) < 2 := by decide
  have s0 : (a != 0) = true → exec (T (j + 3)) (j + 3) a_22 (orE a b 0) σ = some (.ret, { slots := [(2, ⟨false, .int .i64 a⟩)], locs := [], boxes := [], defers := [] }, σ) := fun ha => by
    simp only [a_22, orE, de0, de1, de2, szQ, szB, szL, sy0, sy1, sy2, sy3, sy4, sy5, zad, zaa, zac, zae, adel, zah, zag, zai, zaf, evalV, aget, aset, adel1, nth, AOp.kind, Nat.reduceAdd, Nat.reduceSub, Nat.reduceMul, Nat.reduceBEq, Nat.ble, bindO, Nat.reduceLeDiff, Int.reduceBEq, Int.reduceBNe, Int.reduceLE, Int.reduceLT, Int.reduceGE, Int.reduceGT, Int.reduceNeg, ks, lz, w1, ha]
  have s1 : (a != 0) = false → exec (T (j + 3)) (j + 3) a_22 (orE a b 0) σ = some (.normal, orE a b 1, σ) := fun ha => by
    simp only [a_22, orE, de0, de1, de2, szQ, szB, szL, sy0, sy1, sy2, sy3, sy4, sy5, zad, zaa, zac, zae, adel, zah, zag, zai, zaf, evalV, aget, aset, adel1, nth, AOp.kind, Nat.reduceAdd, Nat.reduceSub, Nat.reduceMul, Nat.reduceBEq, Nat.ble, bindO, Nat.reduceLeDiff, Int.reduceBEq, Int.reduceBNe, Int.reduceLE, Int.reduceLT, Int.reduceGE, Int.reduceGT, Int.reduceNeg, ks, lz, w1, ha]
  have t0 : (b != 0) = true → exec (T (j + 3)) (j + 3) a_22 (orE a b 1) σ = some (.ret, { slots := [(2, ⟨false, .int .i64 b⟩)], locs := [], boxes := [], defers := [] }, σ) := fun ha => by
    simp only [a_22, orE, de0, de1, de2, szQ, szB, szL, sy0, sy1, sy2, sy3, sy4, sy5, zad, zaa, zac, zae, adel, zah, zag, zai, zaf, evalV, aget, aset, adel1, nth, AOp.kind, Nat.reduceAdd, Nat.reduceSub, Nat.reduceMul, Nat.reduceBEq, Nat.ble, bindO, Nat.reduceLeDiff, Int.reduceBEq, Int.reduceBNe, Int.reduceLE, Int.reduceLT, Int.reduceGE, Int.reduceGT, Int.reduceNeg, ks, lz, w2, ha]
  have t1 : (b != 0) = false → exec (T (j + 3)) (j + 3) a_22 (orE a b 1) σ = some (.normal, orE a b 2, σ) := fun ha => by
    simp only [a_22, orE, de0, de1, de2, szQ, szB, szL, sy0, sy1, sy2, sy3, sy4, sy5, zad, zaa, zac, zae, adel, zah, zag, zai, zaf, evalV, aget, aset, adel1, nth, AOp.kind, Nat.reduceAdd, Nat.reduceSub, Nat.reduceMul, Nat.reduceBEq, Nat.ble, bindO, Nat.reduceLeDiff, Int.reduceBEq, Int.reduceBNe, Int.reduceLE, Int.reduceLT, Int.reduceGE, Int.reduceGT, Int.reduceNeg, ks, lz, w2, ha]
  have u0 : exec (T (j + 3)) (j + 3) a_22 (orE a b 2) σ = some (.exit 0, { slots := [(3, ⟨false, .int .i64 0⟩), (6, ⟨false, .list k_int [.int .i64 a, .int .i64 b]⟩), (7, ⟨false, .int .i64 2⟩), (8, ⟨false, .int .i64 2⟩), (9, ⟨false, .bool false⟩)], locs := [], boxes := [], defers := [] }, σ) := by
    simp only [a_22, orE, de0, de1, de2, szQ, szB, szL, sy0, sy1, sy2, sy3, sy4, sy5, zad, zaa, zac, zae, adel, zah, zag, zai, zaf, evalV, aget, aset, adel1, nth, AOp.kind, Nat.reduceAdd, Nat.reduceSub, Nat.reduceMul, Nat.reduceBEq, Nat.ble, bindO, Nat.reduceLeDiff, Int.reduceBEq, Int.reduceBNe, Int.reduceLE, Int.reduceLT, Int.reduceGE, Int.reduceGT, Int.reduceNeg, ks, lz]
  rw [T_fun (af := a_69) rfl rfl]
  cases ha : a != 0 with
  | true =>
    have hloop := zpz (k := j + 2) (s0 ha)
    simp only [orE, zeroI] at hloop
    simp only [a_69, de0, de1, de2, szQ, szB, szL, sy0, sy1, sy2, sy3, sy4, sy5, zad, zaa, zac, zae, adel, zah, zag, zai, zaf, evalV, aget, aset, adel1, nth, AOp.kind, Nat.reduceAdd, Nat.reduceSub, Nat.reduceMul, Nat.reduceBEq, Nat.ble, bindO, Nat.reduceLeDiff, Int.reduceBEq, Int.reduceBNe, Int.reduceLE, Int.reduceLT, Int.reduceGE, Int.reduceGT, Int.reduceNeg, ks, lz, hloop, if_true]
  | false =>
    cases hb : b != 0 with
    | true =>
      have hloop := (zb4 (k := j + 2) (s1 ha)).trans (zpz (k := j + 1) (t0 hb))
      simp only [orE, zeroI] at hloop
      simp only [a_69, de0, de1, de2, szQ, szB, szL, sy0, sy1, sy2, sy3, sy4, sy5, zad, zaa, zac, zae, adel, zah, zag, zai, zaf, evalV, aget, aset, adel1, nth, AOp.kind, Nat.reduceAdd, Nat.reduceSub, Nat.reduceMul, Nat.reduceBEq, Nat.ble, bindO, Nat.reduceLeDiff, Int.reduceBEq, Int.reduceBNe, Int.reduceLE, Int.reduceLT, Int.reduceGE, Int.reduceGT, Int.reduceNeg, ks, lz, hloop, Bool.false_eq_true, if_false]
    | false =>
      have hb0 : b = 0 := by simpa using hb
      have hloop := (zb4 (k := j + 2) (s1 ha)).trans ((zb4 (k := j + 1) (t1 hb)).trans (za7 (k := j) u0))
      simp only [orE, zeroI] at hloop
      simp only [a_69, de0, de1, de2, szQ, szB, szL, sy0, sy1, sy2, sy3, sy4, sy5, zad, zaa, zac, zae, adel, zah, zag, zai, zaf, evalV, aget, aset, adel1, nth, AOp.kind, Nat.reduceAdd, Nat.reduceSub, Nat.reduceMul, Nat.reduceBEq, Nat.ble, bindO, Nat.reduceLeDiff, Int.reduceBEq, Int.reduceBNe, Int.reduceLE, Int.reduceLT, Int.reduceGE, Int.reduceGT, Int.reduceNeg, ks, lz, hloop, Bool.false_eq_true, if_false]
      rw [hb0]
def okP (p : Pr) : Prop := smT p.ty = true ∧ szT p.ty ≤ 1048576
theorem zov (p q : Pr) (hp : okP p) (hq : okP q) : Evly fun n => ∀ σ, T n n_15 [dP p, dP q] σ = some (.ret ⟨false, .int .i64 (byC p q)⟩, σ) :=
  (zfnb.and ((zhx p.ty hp.1 hp.2).and ((zhx q.ty hq.1 hq.2).and zh6b))).step 0 fun m _ h σ => by
  have h1 := h.1 p.cls q.cls σ
  have h2 := h.1 (prT p.ty 0) (prT q.ty 0) σ
  have h3 := h.2.1 σ
  have h4 := h.2.2.1 σ
  have h5 := h.2.2.2 true (cmpS p.cls q.cls) (cmpS (prT p.ty 0) (prT q.ty 0)) σ
  rw [T_fun (af := a_143) rfl rfl]
  rw [dT_eq] at h3 h4
  simp only [dP, cT] at h3 h4 ⊢
  simp only [a_143, de0, de1, de2, szQ, szB, szL, sy0, sy1, sy2, sy3, sy4, sy5, zad, zaa, zac, zae, adel, zah, zag, zai, zaf, evalV, aget, aset, adel1, nth, AOp.kind, Nat.reduceAdd, Nat.reduceSub, Nat.reduceMul, Nat.reduceBEq, Nat.ble, bindO, Nat.reduceLeDiff, Int.reduceBEq, Int.reduceBNe, Int.reduceLE, Int.reduceLT, Int.reduceGE, Int.reduceGT, Int.reduceNeg, ks, lz, h1, h2, h3, h4, h5, byC]
end Go.Fu
