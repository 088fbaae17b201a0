/-
  A value's text, by the document.
-/
import Derived.Test.YtdoppkjoemlhjaaDoorShRefGood
import Derived.Test.YtdoppkjoemlhjaaDoorShMade
import Derived.Test.YtdoppkjoemlhjaaDoorShLaws
set_option linter.unusedSimpArgs false
set_option linter.unusedVariables false
namespace Go.Proofs.YtdoppkjoemlhjaaDoor.Sh
open Go Go.Mx
set_option maxRecDepth 10000
section
variable {C : CallF} {n : Nat} {σ : Store}
def E45 (x m : Int) (s : List UInt8) : Env := { slots := [(0, ⟨false, .int .i64 x⟩), (3, ⟨false, .str s⟩), (4, ⟨false, .int .i64 m⟩)], locs := [], boxes := [], defers := [] }
theorem digit_u8 (d : Nat) (h : d < 10) : UInt8.ofNat ((48 + (d : Int)).toNat) = UInt8.ofNat (48 + d) := by
  congr 1
theorem l45_step (x m : Int) (s : List UInt8) (hm : Small' m) (hs : s.length < 1000) (hgo : m ≠ 0 ∨ s = []) : exec C n a45_l0 (E45 x m s) σ = some (.normal, E45 x (m.tdiv 10) (UInt8.ofNat (48 + m.natAbs % 10) :: s), σ) := by
  obtain ⟨h1, h2⟩ := hm
  obtain ⟨dn, hdn⟩ : ∃ dn, dn = m.natAbs % 10 := ⟨_, rfl⟩
  have hd10 : dn < 10 := by omega
  rw [← hdn]
  have hq : IntKind.i64.wrap (m.tdiv 10) = m.tdiv 10 := by
    by_cases h0 : 0 ≤ m
    · rw [Int.tdiv_eq_ediv_of_nonneg h0]
      exact wrap64 (by omega) (by omega)
    · obtain ⟨y, rfl⟩ : ∃ y, m = -y := ⟨-m, by omega⟩
      rw [Int.neg_tdiv, Int.tdiv_eq_ediv_of_nonneg (by omega)]
      exact wrap64 (by omega) (by omega)
  have hadd : IntKind.i64.wrap (48 + (dn : Int)) = 48 + (dn : Int) := wrap64 (by omega) (by omega)
  have hu8 : IntKind.u8.wrap (48 + (dn : Int)) = 48 + (dn : Int) := by
    simp [IntKind.wrap, IntKind.bits, IntKind.signed]
    omega
  have hby : bytesOf [.int .u8 (48 + (dn : Int))] = some [UInt8.ofNat (48 + dn)] := by
    have e1 : (0 : Int) ≤ 48 + (dn : Int) := by omega
    have e2 : 48 + (dn : Int) < 256 := by omega
    simp only [bytesOf, decide_eq_true e1, decide_eq_true e2, Bool.and_self, ifB_true, bindO, caseO_some, digit_u8 dn hd10]
  have hlen : 1 + s.length ≤ 281474976710656 := by omega
  have hcond : (m != 0) = true ∨ ((m != 0) = false ∧ (s == []) = true) := by
    by_cases h0 : m = 0
    · right
      rcases hgo with h | h
      · exact absurd h0 h
      · rw [h0, h]; exact ⟨rfl, rfl⟩
    · left; simpa using h0
  by_cases hneg : m.tmod 10 < 0
  · have hmod : m.tmod 10 = -(dn : Int) := by
      have h0 : m < 0 := by
        by_cases h0 : 0 ≤ m
        · rw [Int.tmod_eq_emod_of_nonneg h0] at hneg; omega
        · omega
      obtain ⟨y, rfl⟩ : ∃ y, m = -y := ⟨-m, by omega⟩
      rw [Int.neg_tmod, Int.tmod_eq_emod_of_nonneg (by omega), hdn]
      omega
    have hw : IntKind.i64.wrap (0 - -(dn : Int)) = (dn : Int) := by rw [wrap64 (by omega) (by omega)]; omega
    rw [hmod] at hneg
    rcases hcond with hc | ⟨hc, hc2⟩
    · simp only [a45_l0, E45, sy0, sy1, sy2, sy3, sy4, sy5, clearEnv, adel, mem, initEnv, initSlots, stepOp, wantedA, evalOp, callOf, panicOf, evalV, addr, opd, opds, aget, aset, adel1, lkill, readCells, nth, Env.put, Env.putV, Env.box, Env.bare, dropOwn, dropOwnS, binD, binBD, binBool, binInt, binStr, unD, AOpd.drop, Cell.of, AOp.kind, sameKind, assertD, eqlB, isUndef, takeC, unownAt, fits, layCells, putCells, putD, fillD, partsOf, optLo, optHi, allSize, Option.getD_some, Option.getD_none, runDefers, readRes, readRes1, readRess, Nat.reduceAdd, Nat.reduceSub, Nat.reduceMul, Nat.reduceBEq, Bool.false_and, Bool.true_and, Bool.and_true, Bool.and_false, Nat.zero_add, Nat.add_zero, beq_self_eq_true, Bool.true_beq, Bool.false_beq, Bool.not_true, Bool.not_false, decide_true, decide_false, bindO, List.map_cons, List.map_nil, List.length_cons, List.length_nil, List.append_nil, List.nil_append, List.cons_append, List.isEmpty_nil, List.isEmpty_cons, Nat.reduceLeDiff, Int.reduceBEq, Int.reduceNeg, Nat.le_refl, hc, hmod, hneg, hw, hadd, hu8, hby, hlen, hq]
    · simp only [a45_l0, E45, sy0, sy1, sy2, sy3, sy4, sy5, clearEnv, adel, mem, initEnv, initSlots, stepOp, wantedA, evalOp, callOf, panicOf, evalV, addr, opd, opds, aget, aset, adel1, lkill, readCells, nth, Env.put, Env.putV, Env.box, Env.bare, dropOwn, dropOwnS, binD, binBD, binBool, binInt, binStr, unD, AOpd.drop, Cell.of, AOp.kind, sameKind, assertD, eqlB, isUndef, takeC, unownAt, fits, layCells, putCells, putD, fillD, partsOf, optLo, optHi, allSize, Option.getD_some, Option.getD_none, runDefers, readRes, readRes1, readRess, Nat.reduceAdd, Nat.reduceSub, Nat.reduceMul, Nat.reduceBEq, Bool.false_and, Bool.true_and, Bool.and_true, Bool.and_false, Nat.zero_add, Nat.add_zero, beq_self_eq_true, Bool.true_beq, Bool.false_beq, Bool.not_true, Bool.not_false, decide_true, decide_false, bindO, List.map_cons, List.map_nil, List.length_cons, List.length_nil, List.append_nil, List.nil_append, List.cons_append, List.isEmpty_nil, List.isEmpty_cons, Nat.reduceLeDiff, Int.reduceBEq, Int.reduceNeg, Nat.le_refl, hc, hc2, hmod, hneg, hw, hadd, hu8, hby, hlen, hq]
  · have hmod : m.tmod 10 = (dn : Int) := by
      by_cases h0 : 0 ≤ m
      · rw [Int.tmod_eq_emod_of_nonneg h0, hdn]; omega
      · obtain ⟨y, rfl⟩ : ∃ y, m = -y := ⟨-m, by omega⟩
        rw [Int.neg_tmod, Int.tmod_eq_emod_of_nonneg (by omega)] at hneg ⊢
        rw [hdn]
        omega
    rw [hmod] at hneg
    rcases hcond with hc | ⟨hc, hc2⟩
    · simp only [a45_l0, E45, sy0, sy1, sy2, sy3, sy4, sy5, clearEnv, adel, mem, initEnv, initSlots, stepOp, wantedA, evalOp, callOf, panicOf, evalV, addr, opd, opds, aget, aset, adel1, lkill, readCells, nth, Env.put, Env.putV, Env.box, Env.bare, dropOwn, dropOwnS, binD, binBD, binBool, binInt, binStr, unD, AOpd.drop, Cell.of, AOp.kind, sameKind, assertD, eqlB, isUndef, takeC, unownAt, fits, layCells, putCells, putD, fillD, partsOf, optLo, optHi, allSize, Option.getD_some, Option.getD_none, runDefers, readRes, readRes1, readRess, Nat.reduceAdd, Nat.reduceSub, Nat.reduceMul, Nat.reduceBEq, Bool.false_and, Bool.true_and, Bool.and_true, Bool.and_false, Nat.zero_add, Nat.add_zero, beq_self_eq_true, Bool.true_beq, Bool.false_beq, Bool.not_true, Bool.not_false, decide_true, decide_false, bindO, List.map_cons, List.map_nil, List.length_cons, List.length_nil, List.append_nil, List.nil_append, List.cons_append, List.isEmpty_nil, List.isEmpty_cons, Nat.reduceLeDiff, Int.reduceBEq, Int.reduceNeg, Nat.le_refl, hc, hmod, hneg, hadd, hu8, hby, hlen, hq]
    · simp only [a45_l0, E45, sy0, sy1, sy2, sy3, sy4, sy5, clearEnv, adel, mem, initEnv, initSlots, stepOp, wantedA, evalOp, callOf, panicOf, evalV, addr, opd, opds, aget, aset, adel1, lkill, readCells, nth, Env.put, Env.putV, Env.box, Env.bare, dropOwn, dropOwnS, binD, binBD, binBool, binInt, binStr, unD, AOpd.drop, Cell.of, AOp.kind, sameKind, assertD, eqlB, isUndef, takeC, unownAt, fits, layCells, putCells, putD, fillD, partsOf, optLo, optHi, allSize, Option.getD_some, Option.getD_none, runDefers, readRes, readRes1, readRess, Nat.reduceAdd, Nat.reduceSub, Nat.reduceMul, Nat.reduceBEq, Bool.false_and, Bool.true_and, Bool.and_true, Bool.and_false, Nat.zero_add, Nat.add_zero, beq_self_eq_true, Bool.true_beq, Bool.false_beq, Bool.not_true, Bool.not_false, decide_true, decide_false, bindO, List.map_cons, List.map_nil, List.length_cons, List.length_nil, List.append_nil, List.nil_append, List.cons_append, List.isEmpty_nil, List.isEmpty_cons, Nat.reduceLeDiff, Int.reduceBEq, Int.reduceNeg, Nat.le_refl, hc, hc2, hmod, hneg, hadd, hu8, hby, hlen, hq]
theorem l45_end (x : Int) (s : List UInt8) (hs : s ≠ []) : exec C n a45_l0 (E45 x 0 s) σ = some (.exit 0, { slots := [(0, ⟨false, .int .i64 x⟩), (3, ⟨false, .str s⟩), (4, ⟨false, .int .i64 0⟩), (12, ⟨false, .bool false⟩)], locs := [], boxes := [], defers := [] }, σ) := by
  have h : (s == []) = false := by simpa using hs
  simp only [a45_l0, E45, sy0, sy1, sy2, sy3, sy4, sy5, clearEnv, adel, mem, initEnv, initSlots, stepOp, wantedA, evalOp, callOf, panicOf, evalV, addr, opd, opds, aget, aset, adel1, lkill, readCells, nth, Env.put, Env.putV, Env.box, Env.bare, dropOwn, dropOwnS, binD, binBD, binBool, binInt, binStr, unD, AOpd.drop, Cell.of, AOp.kind, sameKind, assertD, eqlB, isUndef, takeC, unownAt, fits, layCells, putCells, putD, fillD, partsOf, optLo, optHi, allSize, Option.getD_some, Option.getD_none, runDefers, readRes, readRes1, readRess, Nat.reduceAdd, Nat.reduceSub, Nat.reduceMul, Nat.reduceBEq, Bool.false_and, Bool.true_and, Bool.and_true, Bool.and_false, Nat.zero_add, Nat.add_zero, beq_self_eq_true, Bool.true_beq, Bool.false_beq, Bool.not_true, Bool.not_false, decide_true, decide_false, bindO, List.map_cons, List.map_nil, List.length_cons, List.length_nil, List.append_nil, List.nil_append, List.cons_append, List.isEmpty_nil, List.isEmpty_cons, Nat.reduceLeDiff, Int.reduceBEq, Int.reduceNeg, Nat.le_refl, h, bne_self_eq_false]
theorem tdiv_abs (m : Int) : (m.tdiv 10).natAbs = m.natAbs / 10 := by
  rw [Int.natAbs_tdiv]
  rfl
theorem small_div (m : Int) (h : Small' m) : Small' (m.tdiv 10) := by
  have := tdiv_abs m
  obtain ⟨h1, h2⟩ := h
  exact ⟨by omega, by omega⟩
theorem l45_loop (x : Int) : ∀ (k : Nat) (m : Int) (s : List UInt8) (N : Nat), m.natAbs < 10 ^ (k + 1) → Small' m → s.length + k < 900 → (m ≠ 0 ∨ s = []) → k + 2 < N →
    loopN (exec C n a45_l0) N (E45 x m s) σ = some (.exit 0, { slots := [(0, ⟨false, .int .i64 x⟩), (3, ⟨false, .str (digF (k + 1) m.natAbs s)⟩), (4, ⟨false, .int .i64 0⟩), (12, ⟨false, .bool false⟩)], locs := [], boxes := [], defers := [] }, σ)
  | k, m, s, 0, _, _, _, _, h => by omega
  | k, m, s, N + 1, hm, hsm, hs, hgo, hN => by
    rw [loopN, l45_step x m s hsm (by omega) hgo, digF]
    simp only
    have ha := tdiv_abs m
    by_cases h10 : m.natAbs < 10
    · rw [decide_eq_true h10, ifB_true]
      have h0 : m.tdiv 10 = 0 := by
        have : (m.tdiv 10).natAbs = 0 := by omega
        omega
      have hmod : m.natAbs % 10 = m.natAbs := by omega
      rw [h0, hmod]
      obtain ⟨N, rfl⟩ : ∃ N', N = N' + 1 := ⟨N - 1, by omega⟩
      rw [loopN, l45_end x _ (by simp)]
    · rw [decide_eq_false h10, ifB_false]
      cases k with
      | zero => simp at hm; omega
      | succ k =>
        have := l45_loop x k (m.tdiv 10) (UInt8.ofNat (48 + m.natAbs % 10) :: s) N (by rw [ha]; rw [Nat.pow_succ] at hm; omega) (small_div m hsm) (by simp only [List.length_cons]; omega) (.inl (by intro e; rw [e] at ha; simp at ha; omega)) (by omega)
        rw [ha] at this
        exact this
end
theorem number_all : Evly fun n => ∀ x : Int, Small' x → ∀ σ, T n 45 [.int .i64 x] σ = some (.ret ⟨false, .str (itoaN x)⟩, σ) := (Evly.all (p := fun _ => True) fun _ => trivial).step 40 fun m hm _ x hx σ => by
  rw [T_fun (af := a45) rfl rfl, itoaN_sgn x]
  have hp : x.natAbs < 10 ^ (19 + 1) := by
    obtain ⟨h1, h2⟩ := hx
    have : x.natAbs ≤ 9223372036854775808 := by omega
    have e : (10 : Nat) ^ (19 + 1) = 100000000000000000000 := by decide
    omega
  have hloop := l45_loop (C := T m) (n := m) (σ := σ) x 19 x [] m hp hx (by simp) (.inr rfl) (by omega)
  simp only [E45] at hloop
  have hl : (digF 20 x.natAbs []).length ≤ 20 := by have := digF_len 20 x.natAbs []; simpa using this
  have hl2 : 1 + (digF 20 x.natAbs []).length ≤ 281474976710656 := by omega
  generalize digF (19 + 1) x.natAbs [] = ds at *
  by_cases h0 : x < 0
  · simp only [a45, sy0, sy1, sy2, sy3, sy4, sy5, clearEnv, adel, mem, initEnv, initSlots, stepOp, wantedA, evalOp, callOf, panicOf, evalV, addr, opd, opds, aget, aset, adel1, lkill, readCells, nth, Env.put, Env.putV, Env.box, Env.bare, dropOwn, dropOwnS, binD, binBD, binBool, binInt, binStr, unD, AOpd.drop, Cell.of, AOp.kind, sameKind, assertD, eqlB, isUndef, takeC, unownAt, fits, layCells, putCells, putD, fillD, partsOf, optLo, optHi, allSize, Option.getD_some, Option.getD_none, runDefers, readRes, readRes1, readRess, Nat.reduceAdd, Nat.reduceSub, Nat.reduceMul, Nat.reduceBEq, Bool.false_and, Bool.true_and, Bool.and_true, Bool.and_false, Nat.zero_add, Nat.add_zero, beq_self_eq_true, Bool.true_beq, Bool.false_beq, Bool.not_true, Bool.not_false, decide_true, decide_false, bindO, List.map_cons, List.map_nil, List.length_cons, List.length_nil, List.append_nil, List.nil_append, List.cons_append, List.isEmpty_nil, List.isEmpty_cons, Nat.reduceLeDiff, Int.reduceBEq, Int.reduceNeg, Nat.le_refl, hloop, h0, hl2]
  · simp only [a45, sy0, sy1, sy2, sy3, sy4, sy5, clearEnv, adel, mem, initEnv, initSlots, stepOp, wantedA, evalOp, callOf, panicOf, evalV, addr, opd, opds, aget, aset, adel1, lkill, readCells, nth, Env.put, Env.putV, Env.box, Env.bare, dropOwn, dropOwnS, binD, binBD, binBool, binInt, binStr, unD, AOpd.drop, Cell.of, AOp.kind, sameKind, assertD, eqlB, isUndef, takeC, unownAt, fits, layCells, putCells, putD, fillD, partsOf, optLo, optHi, allSize, Option.getD_some, Option.getD_none, runDefers, readRes, readRes1, readRess, Nat.reduceAdd, Nat.reduceSub, Nat.reduceMul, Nat.reduceBEq, Bool.false_and, Bool.true_and, Bool.and_true, Bool.and_false, Nat.zero_add, Nat.add_zero, beq_self_eq_true, Bool.true_beq, Bool.false_beq, Bool.not_true, Bool.not_false, decide_true, decide_false, bindO, List.map_cons, List.map_nil, List.length_cons, List.length_nil, List.append_nil, List.nil_append, List.cons_append, List.isEmpty_nil, List.isEmpty_cons, Nat.reduceLeDiff, Int.reduceBEq, Int.reduceNeg, Nat.le_refl, hloop, h0]
theorem number_run (x : Int) (hx : Small' x) : Evly fun n => ∀ σ, T n 45 [.int .i64 x] σ = some (.ret ⟨false, .str (itoaN x)⟩, σ) := number_all.mono fun n h => h x hx
mutual
/-- A value's text, by the document. -/
def rtext : V → List UInt8
  | .mk f n s ks => ifB (f == 2) (itoaN n) (ifB (f == 3) [60, 102, 117, 110, 62] (ifB (f == 4) [46, 46, 46] (s ++ rtexts ks)))
def rtexts : List V → List UInt8
  | [] => []
  | k :: r => ifB (decide (0 < k.kids.length) || decide (k.n < 0)) ([32, 40] ++ rtext k ++ [41]) ([32] ++ rtext k) ++ rtexts r
end
def rkid (k : V) : List UInt8 := ifB (decide (0 < k.kids.length) || decide (k.n < 0)) ([32, 40] ++ rtext k ++ [41]) ([32] ++ rtext k)
theorem rtexts_take (ks : List V) (i : Nat) (h : i < ks.length) : rtexts (ks.take (i + 1)) = rtexts (ks.take i) ++ rkid ks[i] := by
  induction ks generalizing i with
  | nil => simp at h
  | cons k r ih =>
    cases i with
    | zero => simp [rtexts, rkid]
    | succ i => simp only [List.take_succ_cons, rtexts, ih i (by simpa using h), List.getElem_cons_succ, List.append_assoc]
mutual
theorem rtext_len : ∀ v : V, (rtext v).length + 5 ≤ wt v
  | .mk f n s ks => by
    rw [rtext, wt]
    have h1 := itoaN_len n
    have h2 := rtexts_len ks
    cases f == 2 <;> cases f == 3 <;> cases f == 4 <;> simp only [ifB_true, ifB_false, List.length_append, List.length_cons, List.length_nil] <;> omega
theorem rtexts_len : ∀ l : List V, (rtexts l).length ≤ wts l
  | [] => Nat.le_refl _
  | k :: r => by
    rw [rtexts, wts]
    have h1 := rtext_len k
    have h2 := rtexts_len r
    cases (decide (0 < k.kids.length) || decide (k.n < 0)) <;> simp only [ifB_true, ifB_false, List.length_append, List.length_cons, List.length_nil] <;> omega
end
theorem rtexts_pre (ks : List V) (i : Nat) : (rtexts (ks.take i)).length ≤ wts ks := by
  have := rtexts_len (ks.take i)
  have := wts_take_drop ks i
  omega
section
variable {C : CallF} {n : Nat} {v : V} {i : Nat} {σ : Store}
def E33 (v : V) (p : List UInt8) (i : Nat) : Env := { slots := [(3, ⟨false, .str p⟩), (4, ⟨false, .int .i64 i⟩)], locs := [(1, (1, 0))], boxes := [(1, bx v)], defers := [] }
theorem l33_step (p t : List UInt8) (h : i < v.kids.length) (hl : v.kids.length < 1048576) (hp : p.length + t.length < 2000000) (hc : C 33 [dV v.kids[i]] σ = some (.ret ⟨false, .str t⟩, σ)) :
    exec C n a33_l0 (E33 v p i) σ = some (.normal, E33 v (p ++ ifB (decide (0 < v.kids[i].kids.length) || decide (v.kids[i].n < 0)) ([32, 40] ++ t ++ [41]) ([32] ++ t)) (i + 1), σ) := by
  have hi : ((i : Int) < (v.kids.length : Int)) := by omega
  rw [dV_eq v.kids[i]] at hc
  have hk2 := kid_nthx _ _ h
  have hrow := kid_row _ _ h
  have hw := wrap64_succ (i := i) (by omega)
  have f1 : p.length + 2 ≤ 281474976710656 := by omega
  have f2 : (p ++ [32, 40]).length + t.length ≤ 281474976710656 := by simp only [List.length_append, List.length_cons, List.length_nil]; omega
  have f3 : (p ++ [32, 40] ++ t).length + 1 ≤ 281474976710656 := by simp only [List.length_append, List.length_cons, List.length_nil]; omega
  have f4 : p.length + 1 ≤ 281474976710656 := by omega
  have f5 : (p ++ [32]).length + t.length ≤ 281474976710656 := by simp only [List.length_append, List.length_cons, List.length_nil]; omega
  have e1 : p ++ ([32, 40] ++ t ++ [41]) = p ++ [32, 40] ++ t ++ [41] := by simp only [List.append_assoc]
  have e2 : p ++ ([32] ++ t) = p ++ [32] ++ t := by simp only [List.append_assoc]
  generalize v.kids[i] = k at *
  by_cases gk : 0 < k.kids.length
  · have gk2 : ((k.kids.length : Int) > 0) := by omega
    rw [decide_eq_true gk, Bool.true_or, ifB_true, e1]
    simp only [a33_l0, E33, bx, sy0, sy1, sy2, sy3, sy4, sy5, clearEnv, adel, mem, initEnv, initSlots, stepOp, wantedA, evalOp, callOf, panicOf, evalV, addr, opd, opds, aget, aset, adel1, lkill, readCells, nth, Env.put, Env.putV, Env.box, Env.bare, dropOwn, dropOwnS, binD, binBD, binBool, binInt, binStr, unD, AOpd.drop, Cell.of, AOp.kind, sameKind, assertD, eqlB, isUndef, takeC, unownAt, fits, layCells, putCells, putD, fillD, partsOf, optLo, optHi, allSize, Option.getD_some, Option.getD_none, runDefers, readRes, readRes1, readRess, Nat.reduceAdd, Nat.reduceSub, Nat.reduceMul, Nat.reduceBEq, Bool.false_and, Bool.true_and, Bool.and_true, Bool.and_false, Nat.zero_add, Nat.add_zero, beq_self_eq_true, Bool.true_beq, Bool.false_beq, Bool.not_true, Bool.not_false, decide_true, decide_false, bindO, List.map_cons, List.map_nil, List.length_cons, List.length_nil, List.append_nil, List.nil_append, List.cons_append, List.isEmpty_nil, List.isEmpty_cons, Nat.reduceLeDiff, Int.reduceBEq, Int.reduceNeg, Nat.le_refl, List.length_map, hk2, hrow, hi, hw, hc, gk2, f1, f2, f3]
  · have gk2 : ¬ ((k.kids.length : Int) > 0) := by omega
    by_cases gn : k.n < 0
    · rw [decide_eq_true gn, Bool.or_true, ifB_true, e1]
      simp only [a33_l0, E33, bx, sy0, sy1, sy2, sy3, sy4, sy5, clearEnv, adel, mem, initEnv, initSlots, stepOp, wantedA, evalOp, callOf, panicOf, evalV, addr, opd, opds, aget, aset, adel1, lkill, readCells, nth, Env.put, Env.putV, Env.box, Env.bare, dropOwn, dropOwnS, binD, binBD, binBool, binInt, binStr, unD, AOpd.drop, Cell.of, AOp.kind, sameKind, assertD, eqlB, isUndef, takeC, unownAt, fits, layCells, putCells, putD, fillD, partsOf, optLo, optHi, allSize, Option.getD_some, Option.getD_none, runDefers, readRes, readRes1, readRess, Nat.reduceAdd, Nat.reduceSub, Nat.reduceMul, Nat.reduceBEq, Bool.false_and, Bool.true_and, Bool.and_true, Bool.and_false, Nat.zero_add, Nat.add_zero, beq_self_eq_true, Bool.true_beq, Bool.false_beq, Bool.not_true, Bool.not_false, decide_true, decide_false, bindO, List.map_cons, List.map_nil, List.length_cons, List.length_nil, List.append_nil, List.nil_append, List.cons_append, List.isEmpty_nil, List.isEmpty_cons, Nat.reduceLeDiff, Int.reduceBEq, Int.reduceNeg, Nat.le_refl, List.length_map, hk2, hrow, hi, hw, hc, gk2, gn, f1, f2, f3]
    · rw [decide_eq_false gk, decide_eq_false gn, Bool.or_self, ifB_false, e2]
      simp only [a33_l0, E33, bx, sy0, sy1, sy2, sy3, sy4, sy5, clearEnv, adel, mem, initEnv, initSlots, stepOp, wantedA, evalOp, callOf, panicOf, evalV, addr, opd, opds, aget, aset, adel1, lkill, readCells, nth, Env.put, Env.putV, Env.box, Env.bare, dropOwn, dropOwnS, binD, binBD, binBool, binInt, binStr, unD, AOpd.drop, Cell.of, AOp.kind, sameKind, assertD, eqlB, isUndef, takeC, unownAt, fits, layCells, putCells, putD, fillD, partsOf, optLo, optHi, allSize, Option.getD_some, Option.getD_none, runDefers, readRes, readRes1, readRess, Nat.reduceAdd, Nat.reduceSub, Nat.reduceMul, Nat.reduceBEq, Bool.false_and, Bool.true_and, Bool.and_true, Bool.and_false, Nat.zero_add, Nat.add_zero, beq_self_eq_true, Bool.true_beq, Bool.false_beq, Bool.not_true, Bool.not_false, decide_true, decide_false, bindO, List.map_cons, List.map_nil, List.length_cons, List.length_nil, List.append_nil, List.nil_append, List.cons_append, List.isEmpty_nil, List.isEmpty_cons, Nat.reduceLeDiff, Int.reduceBEq, Int.reduceNeg, Nat.le_refl, List.length_map, hk2, hrow, hi, hw, hc, gk2, gn, f4, f5]
theorem l33_end (p : List UInt8) : exec C n a33_l0 (E33 v p v.kids.length) σ = some (.exit 1, { slots := [(3, ⟨false, .str p⟩), (4, ⟨false, .int .i64 v.kids.length⟩), (23, ⟨false, .bool false⟩)], locs := [(1, (1, 0))], boxes := [(1, bx v)], defers := [] }, σ) := by
  have hi : ¬ ((v.kids.length : Int) < (v.kids.length : Int)) := by omega
  simp only [a33_l0, E33, bx, sy0, sy1, sy2, sy3, sy4, sy5, clearEnv, adel, mem, initEnv, initSlots, stepOp, wantedA, evalOp, callOf, panicOf, evalV, addr, opd, opds, aget, aset, adel1, lkill, readCells, nth, Env.put, Env.putV, Env.box, Env.bare, dropOwn, dropOwnS, binD, binBD, binBool, binInt, binStr, unD, AOpd.drop, Cell.of, AOp.kind, sameKind, assertD, eqlB, isUndef, takeC, unownAt, fits, layCells, putCells, putD, fillD, partsOf, optLo, optHi, allSize, Option.getD_some, Option.getD_none, runDefers, readRes, readRes1, readRess, Nat.reduceAdd, Nat.reduceSub, Nat.reduceMul, Nat.reduceBEq, Bool.false_and, Bool.true_and, Bool.and_true, Bool.and_false, Nat.zero_add, Nat.add_zero, beq_self_eq_true, Bool.true_beq, Bool.false_beq, Bool.not_true, Bool.not_false, decide_true, decide_false, bindO, List.map_cons, List.map_nil, List.length_cons, List.length_nil, List.append_nil, List.nil_append, List.cons_append, List.isEmpty_nil, List.isEmpty_cons, Nat.reduceLeDiff, Int.reduceBEq, Int.reduceNeg, Nat.le_refl, List.length_map, hi]
end
theorem rtext_run (v : V) (hf : FitN v) : wt v < 1000000 → Evly fun n => ∀ σ, T n 33 [dV v] σ = some (.ret ⟨false, .str (rtext v)⟩, σ) := by
  induction hf with
  | mk f n s ks hks hn hk ih =>
    intro hw
    rw [wt] at hw
    have hkids : Evly fun m => ∀ i, i < ks.length → ∀ (h : i < ks.length) σ, T m 33 [dV ks[i]] σ = some (.ret ⟨false, .str (rtext ks[i])⟩, σ) :=
      Evly.below _ fun i hi => (ih ks[i] (List.getElem_mem hi) (by have := wt_mem (List.getElem_mem hi); omega)).mono fun n hn _ σ => hn σ
    refine (hkids.and (number_run n hn)).step (ks.length + 1) fun m hm ⟨hrun, hnum⟩ σ => ?_
    rw [T_fun (af := a33) rfl rfl]
    have hva : ∀ f n s ks, dV (.mk f n s ks) = .agg [.int .i64 f, .int .i64 n, .str s, dlist kV (ks.map dV)] := fun f n s ks => dV_eq _
    rw [hva]
    have hnum := hnum σ
    cases h2 : f == 2 with
    | true => simp only [rtext, h2, a33, sy0, sy1, sy2, sy3, sy4, sy5, clearEnv, adel, mem, initEnv, initSlots, stepOp, wantedA, evalOp, callOf, panicOf, evalV, addr, opd, opds, aget, aset, adel1, lkill, readCells, nth, Env.put, Env.putV, Env.box, Env.bare, dropOwn, dropOwnS, binD, binBD, binBool, binInt, binStr, unD, AOpd.drop, Cell.of, AOp.kind, sameKind, assertD, eqlB, isUndef, takeC, unownAt, fits, layCells, putCells, putD, fillD, partsOf, optLo, optHi, allSize, Option.getD_some, Option.getD_none, runDefers, readRes, readRes1, readRess, Nat.reduceAdd, Nat.reduceSub, Nat.reduceMul, Nat.reduceBEq, Bool.false_and, Bool.true_and, Bool.and_true, Bool.and_false, Nat.zero_add, Nat.add_zero, beq_self_eq_true, Bool.true_beq, Bool.false_beq, Bool.not_true, Bool.not_false, decide_true, decide_false, bindO, List.map_cons, List.map_nil, List.length_cons, List.length_nil, List.append_nil, List.nil_append, List.cons_append, List.isEmpty_nil, List.isEmpty_cons, Nat.reduceLeDiff, Int.reduceBEq, Int.reduceNeg, Nat.le_refl, hnum]
    | false =>
    cases h3 : f == 3 with
    | true => simp only [rtext, h2, h3, a33, sy0, sy1, sy2, sy3, sy4, sy5, clearEnv, adel, mem, initEnv, initSlots, stepOp, wantedA, evalOp, callOf, panicOf, evalV, addr, opd, opds, aget, aset, adel1, lkill, readCells, nth, Env.put, Env.putV, Env.box, Env.bare, dropOwn, dropOwnS, binD, binBD, binBool, binInt, binStr, unD, AOpd.drop, Cell.of, AOp.kind, sameKind, assertD, eqlB, isUndef, takeC, unownAt, fits, layCells, putCells, putD, fillD, partsOf, optLo, optHi, allSize, Option.getD_some, Option.getD_none, runDefers, readRes, readRes1, readRess, Nat.reduceAdd, Nat.reduceSub, Nat.reduceMul, Nat.reduceBEq, Bool.false_and, Bool.true_and, Bool.and_true, Bool.and_false, Nat.zero_add, Nat.add_zero, beq_self_eq_true, Bool.true_beq, Bool.false_beq, Bool.not_true, Bool.not_false, decide_true, decide_false, bindO, List.map_cons, List.map_nil, List.length_cons, List.length_nil, List.append_nil, List.nil_append, List.cons_append, List.isEmpty_nil, List.isEmpty_cons, Nat.reduceLeDiff, Int.reduceBEq, Int.reduceNeg, Nat.le_refl]
    | false =>
    cases h4 : f == 4 with
    | true => simp only [rtext, h2, h3, h4, a33, sy0, sy1, sy2, sy3, sy4, sy5, clearEnv, adel, mem, initEnv, initSlots, stepOp, wantedA, evalOp, callOf, panicOf, evalV, addr, opd, opds, aget, aset, adel1, lkill, readCells, nth, Env.put, Env.putV, Env.box, Env.bare, dropOwn, dropOwnS, binD, binBD, binBool, binInt, binStr, unD, AOpd.drop, Cell.of, AOp.kind, sameKind, assertD, eqlB, isUndef, takeC, unownAt, fits, layCells, putCells, putD, fillD, partsOf, optLo, optHi, allSize, Option.getD_some, Option.getD_none, runDefers, readRes, readRes1, readRess, Nat.reduceAdd, Nat.reduceSub, Nat.reduceMul, Nat.reduceBEq, Bool.false_and, Bool.true_and, Bool.and_true, Bool.and_false, Nat.zero_add, Nat.add_zero, beq_self_eq_true, Bool.true_beq, Bool.false_beq, Bool.not_true, Bool.not_false, decide_true, decide_false, bindO, List.map_cons, List.map_nil, List.length_cons, List.length_nil, List.append_nil, List.nil_append, List.cons_append, List.isEmpty_nil, List.isEmpty_cons, Nat.reduceLeDiff, Int.reduceBEq, Int.reduceNeg, Nat.le_refl]
    | false =>
      have hloop := loopN_run (body := exec (T m) m a33_l0) (fun i => E33 (.mk f n s ks) (s ++ rtexts (ks.take i)) i) (fun _ => σ) ks.length (r := _) (fun _ _ h => by cases h)
        (fun i hi => by
          have h1 := rtexts_pre ks i
          have h2 := rtext_len ks[i]
          have h3 := wt_mem (List.getElem_mem hi)
          have := l33_step (v := .mk f n s ks) (C := T m) (n := m) (σ := σ) (s ++ rtexts (ks.take i)) (rtext ks[i]) hi hks (by simp only [List.length_append]; omega) (hrun i hi hi σ)
          rw [rtexts_take ks i hi, ← List.append_assoc]
          exact this) (l33_end _) 0 m (by omega) (by omega)
      simp only [E33, bx, form_mk, n_mk, name_mk, kids_mk, zeroI, List.take_zero, List.take_length, rtexts, List.append_nil] at hloop
      simp only [rtext, h2, h3, h4, a33, sy0, sy1, sy2, sy3, sy4, sy5, clearEnv, adel, mem, initEnv, initSlots, stepOp, wantedA, evalOp, callOf, panicOf, evalV, addr, opd, opds, aget, aset, adel1, lkill, readCells, nth, Env.put, Env.putV, Env.box, Env.bare, dropOwn, dropOwnS, binD, binBD, binBool, binInt, binStr, unD, AOpd.drop, Cell.of, AOp.kind, sameKind, assertD, eqlB, isUndef, takeC, unownAt, fits, layCells, putCells, putD, fillD, partsOf, optLo, optHi, allSize, Option.getD_some, Option.getD_none, runDefers, readRes, readRes1, readRess, Nat.reduceAdd, Nat.reduceSub, Nat.reduceMul, Nat.reduceBEq, Bool.false_and, Bool.true_and, Bool.and_true, Bool.and_false, Nat.zero_add, Nat.add_zero, beq_self_eq_true, Bool.true_beq, Bool.false_beq, Bool.not_true, Bool.not_false, decide_true, decide_false, bindO, List.map_cons, List.map_nil, List.length_cons, List.length_nil, List.append_nil, List.nil_append, List.cons_append, List.isEmpty_nil, List.isEmpty_cons, Nat.reduceLeDiff, Int.reduceBEq, Int.reduceNeg, Nat.le_refl, hloop]
def rprint (v : V) : List UInt8 := ifB (may v) (rtext v) []
theorem rprint_run (v : V) (hn : Nums v) (hw : wt v < 1000000) : Evly fun n => ∀ σ, T n 13 [dV v] σ = some (.ret ⟨false, .str (rprint v)⟩, σ) := ((may_run v hw).and (rtext_run v (fitN_of hn hw) hw)).step 0 fun m _ ⟨h1, h2⟩ σ => by
  have h1 := h1 σ
  have h2 := h2 σ
  rw [T_fun (af := a13) rfl rfl]
  unfold rprint
  rw [dV_eq v] at h1 h2 ⊢
  cases hm : may v with
  | false =>
    rw [hm] at h1
    simp only [a13, sy0, sy1, sy2, sy3, sy4, sy5, clearEnv, adel, mem, initEnv, initSlots, stepOp, wantedA, evalOp, callOf, panicOf, evalV, addr, opd, opds, aget, aset, adel1, lkill, readCells, nth, Env.put, Env.putV, Env.box, Env.bare, dropOwn, dropOwnS, binD, binBD, binBool, binInt, binStr, unD, AOpd.drop, Cell.of, AOp.kind, sameKind, assertD, eqlB, isUndef, takeC, unownAt, fits, layCells, putCells, putD, fillD, partsOf, optLo, optHi, allSize, Option.getD_some, Option.getD_none, runDefers, readRes, readRes1, readRess, Nat.reduceAdd, Nat.reduceSub, Nat.reduceMul, Nat.reduceBEq, Bool.false_and, Bool.true_and, Bool.and_true, Bool.and_false, Nat.zero_add, Nat.add_zero, beq_self_eq_true, Bool.true_beq, Bool.false_beq, Bool.not_true, Bool.not_false, decide_true, decide_false, bindO, List.map_cons, List.map_nil, List.length_cons, List.length_nil, List.append_nil, List.nil_append, List.cons_append, List.isEmpty_nil, List.isEmpty_cons, Nat.reduceLeDiff, Int.reduceBEq, Int.reduceNeg, Nat.le_refl, h1]
  | true =>
    rw [hm] at h1
    simp only [a13, sy0, sy1, sy2, sy3, sy4, sy5, clearEnv, adel, mem, initEnv, initSlots, stepOp, wantedA, evalOp, callOf, panicOf, evalV, addr, opd, opds, aget, aset, adel1, lkill, readCells, nth, Env.put, Env.putV, Env.box, Env.bare, dropOwn, dropOwnS, binD, binBD, binBool, binInt, binStr, unD, AOpd.drop, Cell.of, AOp.kind, sameKind, assertD, eqlB, isUndef, takeC, unownAt, fits, layCells, putCells, putD, fillD, partsOf, optLo, optHi, allSize, Option.getD_some, Option.getD_none, runDefers, readRes, readRes1, readRess, Nat.reduceAdd, Nat.reduceSub, Nat.reduceMul, Nat.reduceBEq, Bool.false_and, Bool.true_and, Bool.and_true, Bool.and_false, Nat.zero_add, Nat.add_zero, beq_self_eq_true, Bool.true_beq, Bool.false_beq, Bool.not_true, Bool.not_false, decide_true, decide_false, bindO, List.map_cons, List.map_nil, List.length_cons, List.length_nil, List.append_nil, List.nil_append, List.cons_append, List.isEmpty_nil, List.isEmpty_cons, Nat.reduceLeDiff, Int.reduceBEq, Int.reduceNeg, Nat.le_refl, h1, h2]
/-! the two prints are one -/
mutual
theorem text_same : ∀ v : V, good v = true → rtext v = ptext v false
  | .mk f n s ks, h => by
    rw [good] at h
    rw [rtext, ptext, Bool.false_and, ifB_false]
    unfold phead
    cases h2 : f == 2 with
    | true =>
      rw [h2] at h
      simp only [ifB_true] at h ⊢
      cases ks with
      | nil => simp [ptexts]
      | cons k r => simp at h
    | false =>
    cases h3 : f == 3 with
    | true =>
      rw [h2, h3] at h
      simp only [ifB_true, ifB_false] at h ⊢
      cases ks with
      | nil => simp [ptexts]
      | cons k r => simp at h
    | false =>
    cases h4 : f == 4 with
    | true =>
      rw [h2, h3, h4] at h
      simp only [ifB_true, ifB_false] at h ⊢
      cases ks with
      | nil => simp [ptexts]
      | cons k r => simp at h
    | false =>
      simp only [ifB_false]
      rw [h2, h3, h4] at h
      cases h1 : f == 1 with
      | false => rw [h1] at h; simp [ifB_false] at h
      | true =>
        rw [h1] at h
        simp only [ifB_true, ifB_false, Bool.and_eq_true] at h
        rw [texts_same ks h.2]
theorem texts_same : ∀ l : List V, goods l = true → rtexts l = ptexts l
  | [], _ => rfl
  | .mk f n s ks :: r, h => by
    rw [goods, Bool.and_eq_true] at h
    have h1 := text_same (.mk f n s ks) h.1
    have e : rtexts (.mk f n s ks :: r) = ifB (decide (0 < ks.length) || decide (n < 0)) ([32, 40] ++ rtext (.mk f n s ks) ++ [41]) ([32] ++ rtext (.mk f n s ks)) ++ rtexts r := by rw [rtexts]; rfl
    rw [e, ptexts, h1, texts_same r h.2]
    rw [ptext, ptext, Bool.false_and, ifB_false, Bool.true_and]
    cases (decide (0 < ks.length) || decide (n < 0)) <;> simp [ifB_true, ifB_false]
end
theorem print_same (v : V) : pprint v = rprint v := by
  unfold pprint rprint may
  rw [told_may v 40]
  cases hg : good v with
  | false => rfl
  | true =>
    rw [text_same v hg]
end Go.Proofs.YtdoppkjoemlhjaaDoor.Sh

/-
  Values made of numbers, spoilt; and the law of prints.
-/
namespace Go.Proofs.YtdoppkjoemlhjaaDoor.Sh
open Go Go.Mx
def wrapS (v : V) : V := .mk 1 0 [83] [v]
def iterS (v : V) : Nat → V
  | 0 => v
  | i + 1 => wrapS (iterS v i)
def wild (v : V) (n : Int) : V :=
  ifB (n == 0) (.mk v.form v.n [110, 105, 108] v.kids) (ifB (n == 1) (.mk 0 v.n v.name v.kids) (ifB (n == 2) (.mk v.form (IntKind.i64.wrap (v.n + 1)) v.name v.kids) (ifB (n == 3) (.mk v.form v.n v.name (v.kids ++ [.mk 1 0 [75, 64] []])) (ifB (n == 4) (iterS v 38) (ifB (n == 5) (.mk 1 0 [84] [v, v, v, v, v, v, v, v, v]) v)))))
set_option maxRecDepth 10000
section
variable {C : CallF} {n : Nat} {v : V} {i : Nat} {σ : Store}
def zeroC : List Cell := [⟨false, .int .i64 0⟩, ⟨false, .int .i64 0⟩, ⟨false, .str []⟩, ⟨false, .nils⟩]
def E11 (v : V) (i : Nat) : Env := { slots := [(6, ⟨false, .int .i64 i⟩)], locs := [(4, (4, 0)), (5, (5, 0))], boxes := [(4, zeroC), (5, bx (iterS v i))], defers := [] }
theorem l11_step (h : i < 38) : exec C n a11_l0 (E11 v i) σ = some (.normal, E11 v (i + 1), σ) := by
  have hi : ((i : Int) < 38) := by omega
  have hb : bx (iterS v (i + 1)) = [⟨false, .int .i64 1⟩, ⟨false, .int .i64 0⟩, ⟨false, .str [83]⟩, ⟨false, .list kV [.agg [.int .i64 (iterS v i).form, .int .i64 (iterS v i).n, .str (iterS v i).name, dlist kV ((iterS v i).kids.map dV)]]⟩] := by
    show bx (wrapS (iterS v i)) = _
    unfold wrapS bx
    simp only [form_mk, n_mk, name_mk, kids_mk, List.map_cons, List.map_nil, dV_eq (iterS v i)]
    rfl
  simp only [a11_l0, E11, hb]
  simp only [bx, sy0, sy1, sy2, sy3, sy4, sy5, clearEnv, adel, mem, initEnv, initSlots, stepOp, wantedA, evalOp, callOf, panicOf, evalV, addr, opd, opds, aget, aset, adel1, lkill, readCells, nth, Env.put, Env.putV, Env.box, Env.bare, dropOwn, dropOwnS, binD, binBD, binBool, binInt, binStr, unD, AOpd.drop, Cell.of, AOp.kind, sameKind, assertD, eqlB, isUndef, takeC, unownAt, fits, layCells, putCells, putD, fillD, partsOf, optLo, optHi, allSize, Option.getD_some, Option.getD_none, runDefers, readRes, readRes1, readRess, Nat.reduceAdd, Nat.reduceSub, Nat.reduceMul, Nat.reduceBEq, Bool.false_and, Bool.true_and, Bool.and_true, Bool.and_false, Nat.zero_add, Nat.add_zero, beq_self_eq_true, Bool.true_beq, Bool.false_beq, Bool.not_true, Bool.not_false, decide_true, decide_false, bindO, List.map_cons, List.map_nil, List.length_cons, List.length_nil, List.append_nil, List.nil_append, List.cons_append, List.isEmpty_nil, List.isEmpty_cons, Nat.reduceLeDiff, Int.reduceBEq, Int.reduceNeg, Nat.le_refl, hi, wrap64_succ (i := i) (by omega)]
theorem l11_end : exec C n a11_l0 (E11 v 38) σ = some (.exit 1, { slots := [(6, ⟨false, .int .i64 38⟩), (34, ⟨false, .bool false⟩)], locs := [(4, (4, 0)), (5, (5, 0))], boxes := [(4, zeroC), (5, bx (iterS v 38))], defers := [] }, σ) := by
  have hi : ¬ (((38 : Nat) : Int) < 38) := by omega
  have h38 : (((38 : Nat) : Int)) = 38 := rfl
  simp only [a11_l0, E11, sy0, sy1, sy2, sy3, sy4, sy5, clearEnv, adel, mem, initEnv, initSlots, stepOp, wantedA, evalOp, callOf, panicOf, evalV, addr, opd, opds, aget, aset, adel1, lkill, readCells, nth, Env.put, Env.putV, Env.box, Env.bare, dropOwn, dropOwnS, binD, binBD, binBool, binInt, binStr, unD, AOpd.drop, Cell.of, AOp.kind, sameKind, assertD, eqlB, isUndef, takeC, unownAt, fits, layCells, putCells, putD, fillD, partsOf, optLo, optHi, allSize, Option.getD_some, Option.getD_none, runDefers, readRes, readRes1, readRess, Nat.reduceAdd, Nat.reduceSub, Nat.reduceMul, Nat.reduceBEq, Bool.false_and, Bool.true_and, Bool.and_true, Bool.and_false, Nat.zero_add, Nat.add_zero, beq_self_eq_true, Bool.true_beq, Bool.false_beq, Bool.not_true, Bool.not_false, decide_true, decide_false, bindO, List.map_cons, List.map_nil, List.length_cons, List.length_nil, List.append_nil, List.nil_append, List.cons_append, List.isEmpty_nil, List.isEmpty_cons, Nat.reduceLeDiff, Int.reduceBEq, Int.reduceNeg, Nat.le_refl, h38, hi, Int.lt_irrefl]
end
theorem wild_run (d : D) (xs : List Int) (hd : ListD d xs) (hxs : ∀ x ∈ xs, Small x) (n : Int) : Evly fun m => ∀ σ, T m 11 [d, .int .i64 n] σ = some (.ret ⟨false, dV (wild (made xs) n)⟩, σ) := by
  refine (made_run d xs hd hxs).step 40 fun m hm h1 σ => ?_
  have h1 := h1 σ
  have hfit := fit_made xs
  generalize made xs = v at *
  have hks : v.kids.length < 1048576 := by cases hfit with | mk f n s ks h hk => exact h
  rw [T_fun (af := a11) rfl rfl]
  rw [dV_eq] at h1 ⊢
  unfold wild
  cases e0 : n == 0 with
  | true => simp only [a11, sy0, sy1, sy2, sy3, sy4, sy5, clearEnv, adel, mem, initEnv, initSlots, stepOp, wantedA, evalOp, callOf, panicOf, evalV, addr, opd, opds, aget, aset, adel1, lkill, readCells, nth, Env.put, Env.putV, Env.box, Env.bare, dropOwn, dropOwnS, binD, binBD, binBool, binInt, binStr, unD, AOpd.drop, Cell.of, AOp.kind, sameKind, assertD, eqlB, isUndef, takeC, unownAt, fits, layCells, putCells, putD, fillD, partsOf, optLo, optHi, allSize, Option.getD_some, Option.getD_none, runDefers, readRes, readRes1, readRess, Nat.reduceAdd, Nat.reduceSub, Nat.reduceMul, Nat.reduceBEq, Bool.false_and, Bool.true_and, Bool.and_true, Bool.and_false, Nat.zero_add, Nat.add_zero, beq_self_eq_true, Bool.true_beq, Bool.false_beq, Bool.not_true, Bool.not_false, decide_true, decide_false, bindO, List.map_cons, List.map_nil, List.length_cons, List.length_nil, List.append_nil, List.nil_append, List.cons_append, List.isEmpty_nil, List.isEmpty_cons, Nat.reduceLeDiff, Int.reduceBEq, Int.reduceNeg, Nat.le_refl, h1, e0, form_mk, n_mk, name_mk, kids_mk]
  | false =>
  cases e1 : n == 1 with
  | true => simp only [a11, sy0, sy1, sy2, sy3, sy4, sy5, clearEnv, adel, mem, initEnv, initSlots, stepOp, wantedA, evalOp, callOf, panicOf, evalV, addr, opd, opds, aget, aset, adel1, lkill, readCells, nth, Env.put, Env.putV, Env.box, Env.bare, dropOwn, dropOwnS, binD, binBD, binBool, binInt, binStr, unD, AOpd.drop, Cell.of, AOp.kind, sameKind, assertD, eqlB, isUndef, takeC, unownAt, fits, layCells, putCells, putD, fillD, partsOf, optLo, optHi, allSize, Option.getD_some, Option.getD_none, runDefers, readRes, readRes1, readRess, Nat.reduceAdd, Nat.reduceSub, Nat.reduceMul, Nat.reduceBEq, Bool.false_and, Bool.true_and, Bool.and_true, Bool.and_false, Nat.zero_add, Nat.add_zero, beq_self_eq_true, Bool.true_beq, Bool.false_beq, Bool.not_true, Bool.not_false, decide_true, decide_false, bindO, List.map_cons, List.map_nil, List.length_cons, List.length_nil, List.append_nil, List.nil_append, List.cons_append, List.isEmpty_nil, List.isEmpty_cons, Nat.reduceLeDiff, Int.reduceBEq, Int.reduceNeg, Nat.le_refl, h1, e0, e1, form_mk, n_mk, name_mk, kids_mk]
  | false =>
  cases e2 : n == 2 with
  | true => simp only [a11, sy0, sy1, sy2, sy3, sy4, sy5, clearEnv, adel, mem, initEnv, initSlots, stepOp, wantedA, evalOp, callOf, panicOf, evalV, addr, opd, opds, aget, aset, adel1, lkill, readCells, nth, Env.put, Env.putV, Env.box, Env.bare, dropOwn, dropOwnS, binD, binBD, binBool, binInt, binStr, unD, AOpd.drop, Cell.of, AOp.kind, sameKind, assertD, eqlB, isUndef, takeC, unownAt, fits, layCells, putCells, putD, fillD, partsOf, optLo, optHi, allSize, Option.getD_some, Option.getD_none, runDefers, readRes, readRes1, readRess, Nat.reduceAdd, Nat.reduceSub, Nat.reduceMul, Nat.reduceBEq, Bool.false_and, Bool.true_and, Bool.and_true, Bool.and_false, Nat.zero_add, Nat.add_zero, beq_self_eq_true, Bool.true_beq, Bool.false_beq, Bool.not_true, Bool.not_false, decide_true, decide_false, bindO, List.map_cons, List.map_nil, List.length_cons, List.length_nil, List.append_nil, List.nil_append, List.cons_append, List.isEmpty_nil, List.isEmpty_cons, Nat.reduceLeDiff, Int.reduceBEq, Int.reduceNeg, Nat.le_refl, h1, e0, e1, e2, form_mk, n_mk, name_mk, kids_mk]
  | false =>
  cases e3 : n == 3 with
  | true =>
    have ha1 : appendD kV 56 ⟨false, .nils⟩ (dlist kV (v.kids.map dV)) = some ⟨true, dlist kV (v.kids.map dV)⟩ := append_nils (asList_dlist) (all_dV _) (by simpa using hks)
    have ha2 : appendD kV 56 ⟨true, dlist kV (v.kids.map dV)⟩ (.list kV [.agg [.int .i64 1, .int .i64 0, .str [75, 64], .nils]]) = some ⟨true, dlist kV ((v.kids ++ [V.mk 1 0 [75, 64] []]).map dV)⟩ := by
      have := append_V v.kids (.mk 1 0 [75, 64] []) hks
      rw [dV_eq] at this
      exact this
    simp only [a11, sy0, sy1, sy2, sy3, sy4, sy5, clearEnv, adel, mem, initEnv, initSlots, stepOp, wantedA, evalOp, callOf, panicOf, evalV, addr, opd, opds, aget, aset, adel1, lkill, readCells, nth, Env.put, Env.putV, Env.box, Env.bare, dropOwn, dropOwnS, binD, binBD, binBool, binInt, binStr, unD, AOpd.drop, Cell.of, AOp.kind, sameKind, assertD, eqlB, isUndef, takeC, unownAt, fits, layCells, putCells, putD, fillD, partsOf, optLo, optHi, allSize, Option.getD_some, Option.getD_none, runDefers, readRes, readRes1, readRess, Nat.reduceAdd, Nat.reduceSub, Nat.reduceMul, Nat.reduceBEq, Bool.false_and, Bool.true_and, Bool.and_true, Bool.and_false, Nat.zero_add, Nat.add_zero, beq_self_eq_true, Bool.true_beq, Bool.false_beq, Bool.not_true, Bool.not_false, decide_true, decide_false, bindO, List.map_cons, List.map_nil, List.length_cons, List.length_nil, List.append_nil, List.nil_append, List.cons_append, List.isEmpty_nil, List.isEmpty_cons, Nat.reduceLeDiff, Int.reduceBEq, Int.reduceNeg, Nat.le_refl, h1, e0, e1, e2, e3, form_mk, n_mk, name_mk, kids_mk, ha1, ha2]
  | false =>
  cases e4 : n == 4 with
  | true =>
    have hloop := loopN_run (body := exec (T m) m a11_l0) (E11 v) (fun _ => σ) 38 (r := _) (fun _ _ h => by cases h) (fun i hi => l11_step hi) l11_end 0 m (by omega) (by omega)
    have hz : iterS v 0 = v := rfl
    simp only [E11, zeroC, zeroI, hz, bx] at hloop
    simp only [a11, sy0, sy1, sy2, sy3, sy4, sy5, clearEnv, adel, mem, initEnv, initSlots, stepOp, wantedA, evalOp, callOf, panicOf, evalV, addr, opd, opds, aget, aset, adel1, lkill, readCells, nth, Env.put, Env.putV, Env.box, Env.bare, dropOwn, dropOwnS, binD, binBD, binBool, binInt, binStr, unD, AOpd.drop, Cell.of, AOp.kind, sameKind, assertD, eqlB, isUndef, takeC, unownAt, fits, layCells, putCells, putD, fillD, partsOf, optLo, optHi, allSize, Option.getD_some, Option.getD_none, runDefers, readRes, readRes1, readRess, Nat.reduceAdd, Nat.reduceSub, Nat.reduceMul, Nat.reduceBEq, Bool.false_and, Bool.true_and, Bool.and_true, Bool.and_false, Nat.zero_add, Nat.add_zero, beq_self_eq_true, Bool.true_beq, Bool.false_beq, Bool.not_true, Bool.not_false, decide_true, decide_false, bindO, List.map_cons, List.map_nil, List.length_cons, List.length_nil, List.append_nil, List.nil_append, List.cons_append, List.isEmpty_nil, List.isEmpty_cons, Nat.reduceLeDiff, Int.reduceBEq, Int.reduceNeg, Nat.le_refl, h1, e0, e1, e2, e3, e4, hloop]
  | false =>
  cases e5 : n == 5 with
  | true =>
    have hl : dlist kV ([v, v, v, v, v, v, v, v, v].map dV) = .list kV [.agg [.int .i64 v.form, .int .i64 v.n, .str v.name, dlist kV (v.kids.map dV)], .agg [.int .i64 v.form, .int .i64 v.n, .str v.name, dlist kV (v.kids.map dV)], .agg [.int .i64 v.form, .int .i64 v.n, .str v.name, dlist kV (v.kids.map dV)], .agg [.int .i64 v.form, .int .i64 v.n, .str v.name, dlist kV (v.kids.map dV)], .agg [.int .i64 v.form, .int .i64 v.n, .str v.name, dlist kV (v.kids.map dV)], .agg [.int .i64 v.form, .int .i64 v.n, .str v.name, dlist kV (v.kids.map dV)], .agg [.int .i64 v.form, .int .i64 v.n, .str v.name, dlist kV (v.kids.map dV)], .agg [.int .i64 v.form, .int .i64 v.n, .str v.name, dlist kV (v.kids.map dV)], .agg [.int .i64 v.form, .int .i64 v.n, .str v.name, dlist kV (v.kids.map dV)]] := by
      simp only [List.map_cons, List.map_nil, dV_eq v]
      rfl
    simp only [form_mk, n_mk, name_mk, kids_mk, ifB_true, ifB_false, hl]
    simp only [a11, sy0, sy1, sy2, sy3, sy4, sy5, clearEnv, adel, mem, initEnv, initSlots, stepOp, wantedA, evalOp, callOf, panicOf, evalV, addr, opd, opds, aget, aset, adel1, lkill, readCells, nth, Env.put, Env.putV, Env.box, Env.bare, dropOwn, dropOwnS, binD, binBD, binBool, binInt, binStr, unD, AOpd.drop, Cell.of, AOp.kind, sameKind, assertD, eqlB, isUndef, takeC, unownAt, fits, layCells, putCells, putD, fillD, partsOf, optLo, optHi, allSize, Option.getD_some, Option.getD_none, runDefers, readRes, readRes1, readRess, Nat.reduceAdd, Nat.reduceSub, Nat.reduceMul, Nat.reduceBEq, Bool.false_and, Bool.true_and, Bool.and_true, Bool.and_false, Nat.zero_add, Nat.add_zero, beq_self_eq_true, Bool.true_beq, Bool.false_beq, Bool.not_true, Bool.not_false, decide_true, decide_false, bindO, List.map_cons, List.map_nil, List.length_cons, List.length_nil, List.append_nil, List.nil_append, List.cons_append, List.isEmpty_nil, List.isEmpty_cons, Nat.reduceLeDiff, Int.reduceBEq, Int.reduceNeg, Nat.le_refl, h1, e0, e1, e2, e3, e4, e5]
  | false => simp only [a11, sy0, sy1, sy2, sy3, sy4, sy5, clearEnv, adel, mem, initEnv, initSlots, stepOp, wantedA, evalOp, callOf, panicOf, evalV, addr, opd, opds, aget, aset, adel1, lkill, readCells, nth, Env.put, Env.putV, Env.box, Env.bare, dropOwn, dropOwnS, binD, binBD, binBool, binInt, binStr, unD, AOpd.drop, Cell.of, AOp.kind, sameKind, assertD, eqlB, isUndef, takeC, unownAt, fits, layCells, putCells, putD, fillD, partsOf, optLo, optHi, allSize, Option.getD_some, Option.getD_none, runDefers, readRes, readRes1, readRess, Nat.reduceAdd, Nat.reduceSub, Nat.reduceMul, Nat.reduceBEq, Bool.false_and, Bool.true_and, Bool.and_true, Bool.and_false, Nat.zero_add, Nat.add_zero, beq_self_eq_true, Bool.true_beq, Bool.false_beq, Bool.not_true, Bool.not_false, decide_true, decide_false, bindO, List.map_cons, List.map_nil, List.length_cons, List.length_nil, List.append_nil, List.nil_append, List.cons_append, List.isEmpty_nil, List.isEmpty_cons, Nat.reduceLeDiff, Int.reduceBEq, Int.reduceNeg, Nat.le_refl, h1, e0, e1, e2, e3, e4, e5]
/-! weights and numbers -/
theorem nameOf_len : ∀ q, (nameOf q).length ≤ 5
  | 0 | 1 | 2 | 3 | 4 | _ + 5 => by simp [nameOf]
theorem wts_step (done : List V) (x : Int) : wts (madeStep done x) ≤ wts done + 40 := by
  unfold madeStep stepBy
  generalize (posOf x / 32 % 6).toNat = q
  have hq := nameOf_len q
  generalize done.length - min (posOf x / 8 % 4).toNat done.length = i
  have htd := wts_take_drop done i
  split <;> rw [wts_append] <;> simp only [wts, wt, List.length_nil] <;> omega
theorem wts_madeL (xs : List Int) : ∀ i, wts (madeL xs i) ≤ 30 + 40 * i
  | 0 => by simp [madeL, wts, wt]
  | i + 1 => by
    have ih := wts_madeL xs i
    by_cases h : i < xs.length
    · rw [madeL_succ xs i h]
      have := wts_step (madeL xs i) xs[i]
      omega
    · have : madeL xs (i + 1) = madeL xs i := by
        unfold madeL
        rw [List.take_of_length_le (by omega), List.take_of_length_le (by omega)]
      rw [this]
      omega
theorem wt_made (xs : List Int) : wt (made xs) ≤ 2430 := by
  have h1 := wts_madeL xs (min xs.length 60)
  have h2 := wt_mem (getLastD_mem (madeL xs (min xs.length 60)) (.mk 4 0 [] []) (madeL_len _ _).1)
  unfold made
  omega
theorem nums_leaf {f n : Int} (h : Small' n) : Nums (.mk f n [] []) := .mk _ _ _ _ h (fun k h => by cases h)
theorem nums_step (done : List V) (x : Int) (hx : Small x) (h : ∀ v ∈ done, Nums v) : ∀ v ∈ madeStep done x, Nums v := by
  have hz : Small' 0 := ⟨by omega, by omega⟩
  have hd := small_tdiv hx
  unfold madeStep stepBy
  intro v hv
  split at hv
  all_goals
    rw [List.mem_append] at hv
    rcases hv with hv | hv
  · exact h v hv
  · rw [List.mem_singleton.1 hv]; exact nums_leaf hz
  · exact h v hv
  · rw [List.mem_singleton.1 hv]; exact nums_leaf hz
  · exact h v hv
  · rw [List.mem_singleton.1 hv]; exact nums_leaf hd
  · exact h v hv
  · rw [List.mem_singleton.1 hv]; exact nums_leaf hd
  · exact h v (List.mem_of_mem_take hv)
  · rw [List.mem_singleton.1 hv]
    exact .mk _ _ _ _ hz (fun k hk => h k (List.mem_of_mem_drop hk))
theorem nums_madeL (xs : List Int) (hxs : ∀ x ∈ xs, Small x) : ∀ i, ∀ v ∈ madeL xs i, Nums v
  | 0 => by
    intro v hv
    simp [madeL] at hv
    rw [hv]
    exact nums_leaf ⟨by omega, by omega⟩
  | i + 1 => by
    have ih := nums_madeL xs hxs i
    by_cases h : i < xs.length
    · rw [madeL_succ xs i h]
      exact nums_step _ _ (hxs _ (List.getElem_mem h)) ih
    · have : madeL xs (i + 1) = madeL xs i := by
        unfold madeL
        rw [List.take_of_length_le (by omega), List.take_of_length_le (by omega)]
      rw [this]
      exact ih
theorem nums_made (xs : List Int) (hxs : ∀ x ∈ xs, Small x) : Nums (made xs) := nums_madeL xs hxs _ _ (getLastD_mem _ _ (madeL_len _ _).1)
theorem wrap_small (z : Int) : Small' (IntKind.i64.wrap z) := by
  unfold Small'
  simp [IntKind.wrap, IntKind.bits, IntKind.signed]
  omega
theorem wt_iterS (v : V) : ∀ i, wt (iterS v i) = 31 * i + wt v
  | 0 => by simp [iterS]
  | i + 1 => by
    have := wt_iterS v i
    simp only [iterS, wrapS, wt, wts, List.length_cons, List.length_nil]
    omega
theorem nums_iterS {v : V} (h : Nums v) : ∀ i, Nums (iterS v i)
  | 0 => h
  | i + 1 => .mk _ _ _ _ ⟨by omega, by omega⟩ (fun k hk => by rw [List.mem_singleton.1 hk]; exact nums_iterS h i)
theorem wild_ok (v : V) (n : Int) (hn : Nums v) (hw : wt v ≤ 2430) : Nums (wild v n) ∧ wt (wild v n) < 1000000 := by
  have hi := nums_iterS hn 38
  have hwi := wt_iterS v 38
  have hz : Small' 0 := ⟨by omega, by omega⟩
  cases v with
  | mk f m s ks =>
    cases hn with
    | mk _ _ _ _ hm hk =>
      have hv : Nums (.mk f m s ks) := .mk _ _ _ _ hm hk
      have hw' := hw
      rw [wt] at hw'
      unfold wild
      simp only [form_mk, n_mk, name_mk, kids_mk]
      cases n == 0 with
      | true => exact ⟨.mk _ _ _ _ hm hk, by simp only [ifB_true, wt, List.length_cons, List.length_nil]; omega⟩
      | false =>
      cases n == 1 with
      | true => exact ⟨.mk _ _ _ _ hm hk, by simp only [ifB_true, ifB_false, wt]; omega⟩
      | false =>
      cases n == 2 with
      | true => exact ⟨.mk _ _ _ _ (wrap_small _) hk, by simp only [ifB_true, ifB_false, wt]; omega⟩
      | false =>
      cases n == 3 with
      | true =>
        refine ⟨.mk _ _ _ _ hm fun k hk' => ?_, by simp only [ifB_true, ifB_false, wt, wts_append, wts, List.length_cons, List.length_nil]; omega⟩
        rcases List.mem_append.1 hk' with h | h
        · exact hk k h
        · rw [List.mem_singleton.1 h]; exact .mk _ _ _ _ hz (fun k h => by cases h)
      | false =>
      cases n == 4 with
      | true => exact ⟨hi, by simp only [ifB_true, ifB_false]; omega⟩
      | false =>
      cases n == 5 with
      | true =>
        refine ⟨.mk _ _ _ _ hz fun k hk' => ?_, by simp only [ifB_true, ifB_false, wt, wts, List.length_cons, List.length_nil]; omega⟩
        simp only [List.mem_cons, List.not_mem_nil, or_false, or_self] at hk'
        rw [hk']
        exact hv
      | false => exact ⟨hv, by simp only [ifB_false]; omega⟩
theorem law_prints (d : D) (l : List Int) (n : Int) (hd : ListD d l) (hl : ∀ x ∈ l, Small x) (hn : Small n) : Evly fun m => ∀ σ, T m 3 [d, .int .i64 n] σ = some (.ret ⟨false, .bool true⟩, σ) := by
  obtain ⟨v, hv⟩ : ∃ v, v = made l := ⟨_, rfl⟩
  obtain ⟨w, hw⟩ : ∃ w, w = wild v n := ⟨_, rfl⟩
  have nv : Nums v := hv ▸ nums_made l hl
  have wv : wt v ≤ 2430 := hv ▸ wt_made l
  obtain ⟨nw, ww⟩ : Nums w ∧ wt w < 1000000 := hw ▸ wild_ok v n nv wv
  have r1 := made_run d l hd hl
  have r2 := wild_run d l hd hl n
  have r4 := rprint_run v nv (by omega)
  have r5 := rprint_run w nw ww
  rw [← hv] at r1 r2
  rw [← hw] at r2
  refine (((r1.and r2).and pprint_run).and ((r4.and r5).and lives_run)).step 0 fun m _ hh σ => ?_
  obtain ⟨⟨⟨r1, r2⟩, r3⟩, ⟨⟨r4, r5⟩, r6⟩⟩ := hh
  have r1 := r1 σ
  have r2 := r2 σ
  have r3v := r3 v (printable_of nv (by omega)) σ
  have r3w := r3 w (printable_of nw ww) σ
  have r4 := r4 σ
  have r5 := r5 σ
  have r6 := r6 σ
  rw [print_same] at r3v r3w
  generalize rprint v = b1 at *
  generalize rprint w = b2 at *
  rw [dV_eq v] at r1 r3v r4
  rw [dV_eq w] at r2 r3w r5
  rw [T_fun (af := a3) rfl rfl]
  simp only [a3, sy0, sy1, sy2, sy3, sy4, sy5, clearEnv, adel, mem, initEnv, initSlots, stepOp, wantedA, evalOp, callOf, panicOf, evalV, addr, opd, opds, aget, aset, adel1, lkill, readCells, nth, Env.put, Env.putV, Env.box, Env.bare, dropOwn, dropOwnS, binD, binBD, binBool, binInt, binStr, unD, AOpd.drop, Cell.of, AOp.kind, sameKind, assertD, eqlB, isUndef, takeC, unownAt, fits, layCells, putCells, putD, fillD, partsOf, optLo, optHi, allSize, Option.getD_some, Option.getD_none, runDefers, readRes, readRes1, readRess, Nat.reduceAdd, Nat.reduceSub, Nat.reduceMul, Nat.reduceBEq, Bool.false_and, Bool.true_and, Bool.and_true, Bool.and_false, Nat.zero_add, Nat.add_zero, beq_self_eq_true, Bool.true_beq, Bool.false_beq, Bool.not_true, Bool.not_false, decide_true, decide_false, bindO, List.map_cons, List.map_nil, List.length_cons, List.length_nil, List.append_nil, List.nil_append, List.cons_append, List.isEmpty_nil, List.isEmpty_cons, Nat.reduceLeDiff, Int.reduceBEq, Int.reduceNeg, Nat.le_refl, r1, r2, r3v, r3w, r4, r5, r6]
end Go.Proofs.YtdoppkjoemlhjaaDoor.Sh

/-
  The law of what is printed and read.
-/
namespace Go.Proofs.YtdoppkjoemlhjaaDoor.Sh
open Go Go.Mx
mutual
theorem same_eq : ∀ a b : V, pairB none4 a b = true → a = b
  | .mk f n s ks, b, h => by
    rw [pairB] at h
    simp only [none4, Bool.false_or, Bool.and_eq_true, beq_iff_eq] at h
    obtain ⟨⟨⟨⟨h1, h2⟩, h3⟩, h4⟩, h5⟩ := h
    have h6 := sames_eq ks b.kids h4 h5
    rw [V.eta b, ← h1, ← h2, ← h3, ← h6]
theorem sames_eq : ∀ a b : List V, a.length = b.length → pairBs none4 a b = true → a = b
  | [], [], _, _ => rfl
  | [], _ :: _, h, _ => by simp at h
  | _ :: _, [], h, _ => by simp at h
  | a :: x, b :: y, hl, h => by
    rw [pairBs, Bool.and_eq_true] at h
    rw [same_eq a b h.1, sames_eq x y (by simpa using hl) h.2]
end
set_option maxRecDepth 10000
theorem print_told {v : V} (h : told v 40 = true) : pprint v ≠ [] := by
  unfold pprint
  rw [h, ifB_true]
  exact ptext_ne v false 40 h
theorem print_untold {v : V} (h : told v 40 = false) : pprint v = [] := by
  unfold pprint
  rw [h, ifB_false]
theorem same_print (v w : V) (hv : Readable v) (nw : Nums w) (ww : wt w < 1000000) : (pprint v == pprint w) = pairB none4 v w := by
  cases hs : pairB none4 v w with
  | true => rw [same_eq v w hs]; simp
  | false =>
    cases he : pprint v == pprint w with
    | false => rfl
    | true =>
      have he : pprint v = pprint w := by simpa using he
      exfalso
      cases htw : told w 40 with
      | false => rw [print_untold htw] at he; exact print_told hv.2.2 he
      | true =>
        have := print_inj v w hv ⟨nw, ww, htw⟩ he
        rw [this, pairB_refl] at hs
        cases hs
theorem law_round (d1 d2 : D) (l k : List Int) (h1 : ListD d1 l) (h2 : ListD d2 k) (hl : ∀ x ∈ l, Small x) (hk : ∀ x ∈ k, Small x) : Evly fun m => ∀ σ, T m 5 [d1, d2] σ = some (.ret ⟨false, .bool true⟩, σ) := by
  obtain ⟨v, hv⟩ : ∃ v, v = made l := ⟨_, rfl⟩
  obtain ⟨w, hw⟩ : ∃ w, w = made k := ⟨_, rfl⟩
  have nv : Nums v := hv ▸ nums_made l hl
  have wv : wt v ≤ 2430 := hv ▸ wt_made l
  have nw : Nums w := hw ▸ nums_made k hk
  have ww : wt w ≤ 2430 := hw ▸ wt_made k
  have fv := fit_wt v (by omega)
  have r1 := made_run d1 l h1 hl
  have r2 := made_run d2 k h2 hk
  have r3 := may_run v (by omega)
  have r4 := same_run v fv w
  have r5 := psame_run v fv v
  rw [pairB_refl] at r5
  rw [← hv] at r1
  rw [← hw] at r2
  refine (((r1.and r2).and (r3.and r4)).and ((r5.and pprint_run).and (pread_run.and lives_run))).step 0 fun m _ hh σ => ?_
  obtain ⟨⟨⟨r1, r2⟩, ⟨r3, r4⟩⟩, ⟨⟨r5, r6⟩, ⟨r7, r8⟩⟩⟩ := hh
  have r1 := r1 σ
  have r2 := r2 σ
  have r3 := r3 σ
  have r4 := r4 σ
  have r5 := r5 σ
  have r6v := r6 v (printable_of nv (by omega)) σ
  have r6w := r6 w (printable_of nw (by omega)) σ
  have r8 := r8 σ
  rw [T_fun (af := a5) rfl rfl]
  cases ht : told v 40 with
  | false =>
    have hm : may v = false := by unfold may; rw [← told_may]; exact ht
    rw [hm] at r3
    rw [print_untold ht] at r6v
    rw [dV_eq v] at r1 r3 r6v
    rw [dV_eq w] at r2
    simp only [a5, sy0, sy1, sy2, sy3, sy4, sy5, clearEnv, adel, mem, initEnv, initSlots, stepOp, wantedA, evalOp, callOf, panicOf, evalV, addr, opd, opds, aget, aset, adel1, lkill, readCells, nth, Env.put, Env.putV, Env.box, Env.bare, dropOwn, dropOwnS, binD, binBD, binBool, binInt, binStr, unD, AOpd.drop, Cell.of, AOp.kind, sameKind, assertD, eqlB, isUndef, takeC, unownAt, fits, layCells, putCells, putD, fillD, partsOf, optLo, optHi, allSize, Option.getD_some, Option.getD_none, runDefers, readRes, readRes1, readRess, Nat.reduceAdd, Nat.reduceSub, Nat.reduceMul, Nat.reduceBEq, Bool.false_and, Bool.true_and, Bool.and_true, Bool.and_false, Nat.zero_add, Nat.add_zero, beq_self_eq_true, Bool.true_beq, Bool.false_beq, Bool.not_true, Bool.not_false, decide_true, decide_false, bindO, List.map_cons, List.map_nil, List.length_cons, List.length_nil, List.append_nil, List.nil_append, List.cons_append, List.isEmpty_nil, List.isEmpty_cons, Nat.reduceLeDiff, Int.reduceBEq, Int.reduceNeg, Nat.le_refl, r1, r2, r3, r6v, r8]
  | true =>
    have hr : Readable v := ⟨nv, by omega, ht⟩
    have r7 := r7 v hr σ
    have hne : (pprint v == []) = false := by simpa using print_told ht
    rw [← same_print v w hr nw (by omega)] at r4
    generalize pprint v = s at *
    generalize pprint w = t at *
    rw [dV_eq v] at r1 r4 r5 r6v r7
    rw [dV_eq w] at r2 r4 r6w
    simp only [a5, sy0, sy1, sy2, sy3, sy4, sy5, clearEnv, adel, mem, initEnv, initSlots, stepOp, wantedA, evalOp, callOf, panicOf, evalV, addr, opd, opds, aget, aset, adel1, lkill, readCells, nth, Env.put, Env.putV, Env.box, Env.bare, dropOwn, dropOwnS, binD, binBD, binBool, binInt, binStr, unD, AOpd.drop, Cell.of, AOp.kind, sameKind, assertD, eqlB, isUndef, takeC, unownAt, fits, layCells, putCells, putD, fillD, partsOf, optLo, optHi, allSize, Option.getD_some, Option.getD_none, runDefers, readRes, readRes1, readRess, Nat.reduceAdd, Nat.reduceSub, Nat.reduceMul, Nat.reduceBEq, Bool.false_and, Bool.true_and, Bool.and_true, Bool.and_false, Nat.zero_add, Nat.add_zero, beq_self_eq_true, Bool.true_beq, Bool.false_beq, Bool.not_true, Bool.not_false, decide_true, decide_false, bindO, List.map_cons, List.map_nil, List.length_cons, List.length_nil, List.append_nil, List.nil_append, List.cons_append, List.isEmpty_nil, List.isEmpty_cons, Nat.reduceLeDiff, Int.reduceBEq, Int.reduceNeg, Nat.le_refl, hne, r1, r2, r4, r5, r6v, r6w, r7, r8]
end Go.Proofs.YtdoppkjoemlhjaaDoor.Sh

