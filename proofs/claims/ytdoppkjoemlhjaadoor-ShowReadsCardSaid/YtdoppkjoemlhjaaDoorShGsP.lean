/-
  A value's text, by the document.
-/
import Derived.Test.YtdoppkjoemlhjaaDoorShRefGood
import Derived.Test.YtdoppkjoemlhjaaDoorShRead
set_option linter.unusedSimpArgs false
set_option linter.unusedVariables false
namespace Go.Proofs.YtdoppkjoemlhjaaDoor.Sh
open Go Go.Mx
set_option maxRecDepth 10000
section
variable {C : CallF} {n : Nat} {σ : Store}
def E45 (x m : Int) (s : List UInt8) : Env := { slots := [(0, ⟨false, .int .i64 x⟩), (3, ⟨false, .str s⟩), (4, ⟨false, .int .i64 m⟩)], locs := [], boxes := [], defers := [] }
theorem digit_u8 (d : Nat) (h : d < 10) : UInt8.ofNat ((48 + (d : Int)).toNat) = UInt8.ofNat (48 + d) := by
  congr 1
theorem l45_step (x m : Int) (s : List UInt8) (hm : Small' m) (hs : s.length < 1000) (hgo : m ≠ 0 ∨ s = []) : exec C n a45_l0 (E45 x m s) σ = some (.normal, E45 x (m.tdiv 10) (UInt8.ofNat (48 + m.natAbs % 10) :: s), σ) := by
  obtain ⟨h1, h2⟩ := hm
  obtain ⟨dn, hdn⟩ : ∃ dn, dn = m.natAbs % 10 := ⟨_, rfl⟩
  have hd10 : dn < 10 := by omega
  rw [← hdn]
  have hq : IntKind.i64.wrap (m.tdiv 10) = m.tdiv 10 := by
    by_cases h0 : 0 ≤ m
    · rw [Int.tdiv_eq_ediv_of_nonneg h0]
      exact wrap64 (by omega) (by omega)
    · obtain ⟨y, rfl⟩ : ∃ y, m = -y := ⟨-m, by omega⟩
      rw [Int.neg_tdiv, Int.tdiv_eq_ediv_of_nonneg (by omega)]
      exact wrap64 (by omega) (by omega)
  have hadd : IntKind.i64.wrap (48 + (dn : Int)) = 48 + (dn : Int) := wrap64 (by omega) (by omega)
  have hu8 : IntKind.u8.wrap (48 + (dn : Int)) = 48 + (dn : Int) := by
    simp [IntKind.wrap, IntKind.bits, IntKind.signed]
    omega
  have hby : bytesOf [.int .u8 (48 + (dn : Int))] = some [UInt8.ofNat (48 + dn)] := by
    have e1 : (0 : Int) ≤ 48 + (dn : Int) := by omega
    have e2 : 48 + (dn : Int) < 256 := by omega
    simp only [bytesOf, decide_eq_true e1, decide_eq_true e2, Bool.and_self, ifB_true, bindO, caseO_some, digit_u8 dn hd10]
  have hlen : 1 + s.length ≤ 281474976710656 := by omega
  have hcond : (m != 0) = true ∨ ((m != 0) = false ∧ (s == []) = true) := by
    by_cases h0 : m = 0
    · right
      rcases hgo with h | h
      · exact absurd h0 h
      · rw [h0, h]; exact ⟨rfl, rfl⟩
    · left; simpa using h0
  by_cases hneg : m.tmod 10 < 0
  · have hmod : m.tmod 10 = -(dn : Int) := by
      have h0 : m < 0 := by
        by_cases h0 : 0 ≤ m
        · rw [Int.tmod_eq_emod_of_nonneg h0] at hneg; omega
        · omega
      obtain ⟨y, rfl⟩ : ∃ y, m = -y := ⟨-m, by omega⟩
      rw [Int.neg_tmod, Int.tmod_eq_emod_of_nonneg (by omega), hdn]
      omega
    have hw : IntKind.i64.wrap (0 - -(dn : Int)) = (dn : Int) := by rw [wrap64 (by omega) (by omega)]; omega
    rw [hmod] at hneg
    rcases hcond with hc | ⟨hc, hc2⟩
    · simp only [a45_l0, E45, sy0, sy1, sy2, sy3, sy4, sy5, clearEnv, adel, mem, initEnv, initSlots, stepOp, wantedA, evalOp, callOf, panicOf, evalV, addr, opd, opds, aget, aset, adel1, lkill, readCells, nth, Env.put, Env.putV, Env.box, Env.bare, dropOwn, dropOwnS, binD, binBD, binBool, binInt, binStr, unD, AOpd.drop, Cell.of, AOp.kind, sameKind, assertD, eqlB, isUndef, takeC, unownAt, fits, layCells, putCells, putD, fillD, partsOf, optLo, optHi, allSize, Option.getD_some, Option.getD_none, runDefers, readRes, readRes1, readRess, Nat.reduceAdd, Nat.reduceSub, Nat.reduceMul, Nat.reduceBEq, Bool.false_and, Bool.true_and, Bool.and_true, Bool.and_false, Nat.zero_add, Nat.add_zero, beq_self_eq_true, Bool.true_beq, Bool.false_beq, Bool.not_true, Bool.not_false, decide_true, decide_false, bindO, List.map_cons, List.map_nil, List.length_cons, List.length_nil, List.append_nil, List.nil_append, List.cons_append, List.isEmpty_nil, List.isEmpty_cons, Nat.reduceLeDiff, Int.reduceBEq, Int.reduceNeg, Nat.le_refl, hc, hmod, hneg, hw, hadd, hu8, hby, hlen, hq]
    · simp only [a45_l0, E45, sy0, sy1, sy2, sy3, sy4, sy5, clearEnv, adel, mem, initEnv, initSlots, stepOp, wantedA, evalOp, callOf, panicOf, evalV, addr, opd, opds, aget, aset, adel1, lkill, readCells, nth, Env.put, Env.putV, Env.box, Env.bare, dropOwn, dropOwnS, binD, binBD, binBool, binInt, binStr, unD, AOpd.drop, Cell.of, AOp.kind, sameKind, assertD, eqlB, isUndef, takeC, unownAt, fits, layCells, putCells, putD, fillD, partsOf, optLo, optHi, allSize, Option.getD_some, Option.getD_none, runDefers, readRes, readRes1, readRess, Nat.reduceAdd, Nat.reduceSub, Nat.reduceMul, Nat.reduceBEq, Bool.false_and, Bool.true_and, Bool.and_true, Bool.and_false, Nat.zero_add, Nat.add_zero, beq_self_eq_true, Bool.true_beq, Bool.false_beq, Bool.not_true, Bool.not_false, decide_true, decide_false, bindO, List.map_cons, List.map_nil, List.length_cons, List.length_nil, List.append_nil, List.nil_append, List.cons_append, List.isEmpty_nil, List.isEmpty_cons, Nat.reduceLeDiff, Int.reduceBEq, Int.reduceNeg, Nat.le_refl, hc, hc2, hmod, hneg, hw, hadd, hu8, hby, hlen, hq]
  · have hmod : m.tmod 10 = (dn : Int) := by
      by_cases h0 : 0 ≤ m
      · rw [Int.tmod_eq_emod_of_nonneg h0, hdn]; omega
      · obtain ⟨y, rfl⟩ : ∃ y, m = -y := ⟨-m, by omega⟩
        rw [Int.neg_tmod, Int.tmod_eq_emod_of_nonneg (by omega)] at hneg ⊢
        rw [hdn]
        omega
    rw [hmod] at hneg
    rcases hcond with hc | ⟨hc, hc2⟩
    · simp only [a45_l0, E45, sy0, sy1, sy2, sy3, sy4, sy5, clearEnv, adel, mem, initEnv, initSlots, stepOp, wantedA, evalOp, callOf, panicOf, evalV, addr, opd, opds, aget, aset, adel1, lkill, readCells, nth, Env.put, Env.putV, Env.box, Env.bare, dropOwn, dropOwnS, binD, binBD, binBool, binInt, binStr, unD, AOpd.drop, Cell.of, AOp.kind, sameKind, assertD, eqlB, isUndef, takeC, unownAt, fits, layCells, putCells, putD, fillD, partsOf, optLo, optHi, allSize, Option.getD_some, Option.getD_none, runDefers, readRes, readRes1, readRess, Nat.reduceAdd, Nat.reduceSub, Nat.reduceMul, Nat.reduceBEq, Bool.false_and, Bool.true_and, Bool.and_true, Bool.and_false, Nat.zero_add, Nat.add_zero, beq_self_eq_true, Bool.true_beq, Bool.false_beq, Bool.not_true, Bool.not_false, decide_true, decide_false, bindO, List.map_cons, List.map_nil, List.length_cons, List.length_nil, List.append_nil, List.nil_append, List.cons_append, List.isEmpty_nil, List.isEmpty_cons, Nat.reduceLeDiff, Int.reduceBEq, Int.reduceNeg, Nat.le_refl, hc, hmod, hneg, hadd, hu8, hby, hlen, hq]
    · simp only [a45_l0, E45, sy0, sy1, sy2, sy3, sy4, sy5, clearEnv, adel, mem, initEnv, initSlots, stepOp, wantedA, evalOp, callOf, panicOf, evalV, addr, opd, opds, aget, aset, adel1, lkill, readCells, nth, Env.put, Env.putV, Env.box, Env.bare, dropOwn, dropOwnS, binD, binBD, binBool, binInt, binStr, unD, AOpd.drop, Cell.of, AOp.kind, sameKind, assertD, eqlB, isUndef, takeC, unownAt, fits, layCells, putCells, putD, fillD, partsOf, optLo, optHi, allSize, Option.getD_some, Option.getD_none, runDefers, readRes, readRes1, readRess, Nat.reduceAdd, Nat.reduceSub, Nat.reduceMul, Nat.reduceBEq, Bool.false_and, Bool.true_and, Bool.and_true, Bool.and_false, Nat.zero_add, Nat.add_zero, beq_self_eq_true, Bool.true_beq, Bool.false_beq, Bool.not_true, Bool.not_false, decide_true, decide_false, bindO, List.map_cons, List.map_nil, List.length_cons, List.length_nil, List.append_nil, List.nil_append, List.cons_append, List.isEmpty_nil, List.isEmpty_cons, Nat.reduceLeDiff, Int.reduceBEq, Int.reduceNeg, Nat.le_refl, hc, hc2, hmod, hneg, hadd, hu8, hby, hlen, hq]
theorem l45_end (x : Int) (s : List UInt8) (hs : s ≠ []) : exec C n a45_l0 (E45 x 0 s) σ = some (.exit 0, { slots := [(0, ⟨false, .int .i64 x⟩), (3, ⟨false, .str s⟩), (4, ⟨false, .int .i64 0⟩), (12, ⟨false, .bool false⟩)], locs := [], boxes := [], defers := [] }, σ) := by
  have h : (s == []) = false := by simpa using hs
  simp only [a45_l0, E45, sy0, sy1, sy2, sy3, sy4, sy5, clearEnv, adel, mem, initEnv, initSlots, stepOp, wantedA, evalOp, callOf, panicOf, evalV, addr, opd, opds, aget, aset, adel1, lkill, readCells, nth, Env.put, Env.putV, Env.box, Env.bare, dropOwn, dropOwnS, binD, binBD, binBool, binInt, binStr, unD, AOpd.drop, Cell.of, AOp.kind, sameKind, assertD, eqlB, isUndef, takeC, unownAt, fits, layCells, putCells, putD, fillD, partsOf, optLo, optHi, allSize, Option.getD_some, Option.getD_none, runDefers, readRes, readRes1, readRess, Nat.reduceAdd, Nat.reduceSub, Nat.reduceMul, Nat.reduceBEq, Bool.false_and, Bool.true_and, Bool.and_true, Bool.and_false, Nat.zero_add, Nat.add_zero, beq_self_eq_true, Bool.true_beq, Bool.false_beq, Bool.not_true, Bool.not_false, decide_true, decide_false, bindO, List.map_cons, List.map_nil, List.length_cons, List.length_nil, List.append_nil, List.nil_append, List.cons_append, List.isEmpty_nil, List.isEmpty_cons, Nat.reduceLeDiff, Int.reduceBEq, Int.reduceNeg, Nat.le_refl, h, bne_self_eq_false]
theorem tdiv_abs (m : Int) : (m.tdiv 10).natAbs = m.natAbs / 10 := by
  rw [Int.natAbs_tdiv]
  rfl
theorem small_div (m : Int) (h : Small' m) : Small' (m.tdiv 10) := by
  have := tdiv_abs m
  obtain ⟨h1, h2⟩ := h
  exact ⟨by omega, by omega⟩
theorem l45_loop (x : Int) : ∀ (k : Nat) (m : Int) (s : List UInt8) (N : Nat), m.natAbs < 10 ^ (k + 1) → Small' m → s.length + k < 900 → (m ≠ 0 ∨ s = []) → k + 2 < N →
    loopN (exec C n a45_l0) N (E45 x m s) σ = some (.exit 0, { slots := [(0, ⟨false, .int .i64 x⟩), (3, ⟨false, .str (digF (k + 1) m.natAbs s)⟩), (4, ⟨false, .int .i64 0⟩), (12, ⟨false, .bool false⟩)], locs := [], boxes := [], defers := [] }, σ)
  | k, m, s, 0, _, _, _, _, h => by omega
  | k, m, s, N + 1, hm, hsm, hs, hgo, hN => by
    rw [loopN, l45_step x m s hsm (by omega) hgo, digF]
    simp only
    have ha := tdiv_abs m
    by_cases h10 : m.natAbs < 10
    · rw [decide_eq_true h10, ifB_true]
      have h0 : m.tdiv 10 = 0 := by
        have : (m.tdiv 10).natAbs = 0 := by omega
        omega
      have hmod : m.natAbs % 10 = m.natAbs := by omega
      rw [h0, hmod]
      obtain ⟨N, rfl⟩ : ∃ N', N = N' + 1 := ⟨N - 1, by omega⟩
      rw [loopN, l45_end x _ (by simp)]
    · rw [decide_eq_false h10, ifB_false]
      cases k with
      | zero => simp at hm; omega
      | succ k =>
        have := l45_loop x k (m.tdiv 10) (UInt8.ofNat (48 + m.natAbs % 10) :: s) N (by rw [ha]; rw [Nat.pow_succ] at hm; omega) (small_div m hsm) (by simp only [List.length_cons]; omega) (.inl (by intro e; rw [e] at ha; simp at ha; omega)) (by omega)
        rw [ha] at this
        exact this
end
theorem number_all : Evly fun n => ∀ x : Int, Small' x → ∀ σ, T n 45 [.int .i64 x] σ = some (.ret ⟨false, .str (itoaN x)⟩, σ) := (Evly.all (p := fun _ => True) fun _ => trivial).step 40 fun m hm _ x hx σ => by
  rw [T_fun (af := a45) rfl rfl, itoaN_sgn x]
  have hp : x.natAbs < 10 ^ (19 + 1) := by
    obtain ⟨h1, h2⟩ := hx
    have : x.natAbs ≤ 9223372036854775808 := by omega
    have e : (10 : Nat) ^ (19 + 1) = 100000000000000000000 := by decide
    omega
  have hloop := l45_loop (C := T m) (n := m) (σ := σ) x 19 x [] m hp hx (by simp) (.inr rfl) (by omega)
  simp only [E45] at hloop
  have hl : (digF 20 x.natAbs []).length ≤ 20 := by have := digF_len 20 x.natAbs []; simpa using this
  have hl2 : 1 + (digF 20 x.natAbs []).length ≤ 281474976710656 := by omega
  generalize digF (19 + 1) x.natAbs [] = ds at *
  by_cases h0 : x < 0
  · simp only [a45, sy0, sy1, sy2, sy3, sy4, sy5, clearEnv, adel, mem, initEnv, initSlots, stepOp, wantedA, evalOp, callOf, panicOf, evalV, addr, opd, opds, aget, aset, adel1, lkill, readCells, nth, Env.put, Env.putV, Env.box, Env.bare, dropOwn, dropOwnS, binD, binBD, binBool, binInt, binStr, unD, AOpd.drop, Cell.of, AOp.kind, sameKind, assertD, eqlB, isUndef, takeC, unownAt, fits, layCells, putCells, putD, fillD, partsOf, optLo, optHi, allSize, Option.getD_some, Option.getD_none, runDefers, readRes, readRes1, readRess, Nat.reduceAdd, Nat.reduceSub, Nat.reduceMul, Nat.reduceBEq, Bool.false_and, Bool.true_and, Bool.and_true, Bool.and_false, Nat.zero_add, Nat.add_zero, beq_self_eq_true, Bool.true_beq, Bool.false_beq, Bool.not_true, Bool.not_false, decide_true, decide_false, bindO, List.map_cons, List.map_nil, List.length_cons, List.length_nil, List.append_nil, List.nil_append, List.cons_append, List.isEmpty_nil, List.isEmpty_cons, Nat.reduceLeDiff, Int.reduceBEq, Int.reduceNeg, Nat.le_refl, hloop, h0, hl2]
  · simp only [a45, sy0, sy1, sy2, sy3, sy4, sy5, clearEnv, adel, mem, initEnv, initSlots, stepOp, wantedA, evalOp, callOf, panicOf, evalV, addr, opd, opds, aget, aset, adel1, lkill, readCells, nth, Env.put, Env.putV, Env.box, Env.bare, dropOwn, dropOwnS, binD, binBD, binBool, binInt, binStr, unD, AOpd.drop, Cell.of, AOp.kind, sameKind, assertD, eqlB, isUndef, takeC, unownAt, fits, layCells, putCells, putD, fillD, partsOf, optLo, optHi, allSize, Option.getD_some, Option.getD_none, runDefers, readRes, readRes1, readRess, Nat.reduceAdd, Nat.reduceSub, Nat.reduceMul, Nat.reduceBEq, Bool.false_and, Bool.true_and, Bool.and_true, Bool.and_false, Nat.zero_add, Nat.add_zero, beq_self_eq_true, Bool.true_beq, Bool.false_beq, Bool.not_true, Bool.not_false, decide_true, decide_false, bindO, List.map_cons, List.map_nil, List.length_cons, List.length_nil, List.append_nil, List.nil_append, List.cons_append, List.isEmpty_nil, List.isEmpty_cons, Nat.reduceLeDiff, Int.reduceBEq, Int.reduceNeg, Nat.le_refl, hloop, h0]
theorem number_run (x : Int) (hx : Small' x) : Evly fun n => ∀ σ, T n 45 [.int .i64 x] σ = some (.ret ⟨false, .str (itoaN x)⟩, σ) := number_all.mono fun n h => h x hx
mutual
/-- A value's text, by the document. -/
def rtext : V → List UInt8
  | .mk f n s ks => ifB (f == 2) (itoaN n) (ifB (f == 3) [60, 102, 117, 110, 62] (ifB (f == 4) [46, 46, 46] (s ++ rtexts ks)))
def rtexts : List V → List UInt8
  | [] => []
  | k :: r => ifB (decide (0 < k.kids.length) || decide (k.n < 0)) ([32, 40] ++ rtext k ++ [41]) ([32] ++ rtext k) ++ rtexts r
end
def rkid (k : V) : List UInt8 := ifB (decide (0 < k.kids.length) || decide (k.n < 0)) ([32, 40] ++ rtext k ++ [41]) ([32] ++ rtext k)
theorem rtexts_take (ks : List V) (i : Nat) (h : i < ks.length) : rtexts (ks.take (i + 1)) = rtexts (ks.take i) ++ rkid ks[i] := by
  induction ks generalizing i with
  | nil => simp at h
  | cons k r ih =>
    cases i with
    | zero => simp [rtexts, rkid]
    | succ i => simp only [List.take_succ_cons, rtexts, ih i (by simpa using h), List.getElem_cons_succ, List.append_assoc]
mutual
theorem rtext_len : ∀ v : V, (rtext v).length + 5 ≤ wt v
  | .mk f n s ks => by
    rw [rtext, wt]
    have h1 := itoaN_len n
    have h2 := rtexts_len ks
    cases f == 2 <;> cases f == 3 <;> cases f == 4 <;> simp only [ifB_true, ifB_false, List.length_append, List.length_cons, List.length_nil] <;> omega
theorem rtexts_len : ∀ l : List V, (rtexts l).length ≤ wts l
  | [] => Nat.le_refl _
  | k :: r => by
    rw [rtexts, wts]
    have h1 := rtext_len k
    have h2 := rtexts_len r
    cases (decide (0 < k.kids.length) || decide (k.n < 0)) <;> simp only [ifB_true, ifB_false, List.length_append, List.length_cons, List.length_nil] <;> omega
end
theorem rtexts_pre (ks : List V) (i : Nat) : (rtexts (ks.take i)).length ≤ wts ks := by
  have := rtexts_len (ks.take i)
  have := wts_take_drop ks i
  omega
section
variable {C : CallF} {n : Nat} {v : V} {i : Nat} {σ : Store}
def E33 (v : V) (p : List UInt8) (i : Nat) : Env := { slots := [(3, ⟨false, .str p⟩), (4, ⟨false, .int .i64 i⟩)], locs := [(1, (1, 0))], boxes := [(1, bx v)], defers := [] }
theorem l33_step (p t : List UInt8) (h : i < v.kids.length) (hl : v.kids.length < 1048576) (hp : p.length + t.length < 2000000) (hc : C 33 [dV v.kids[i]] σ = some (.ret ⟨false, .str t⟩, σ)) :
    exec C n a33_l0 (E33 v p i) σ = some (.normal, E33 v (p ++ ifB (decide (0 < v.kids[i].kids.length) || decide (v.kids[i].n < 0)) ([32, 40] ++ t ++ [41]) ([32] ++ t)) (i + 1), σ) := by
  have hi : ((i : Int) < (v.kids.length : Int)) := by omega
  rw [dV_eq v.kids[i]] at hc
  have hk2 := kid_nthx _ _ h
  have hrow := kid_row _ _ h
  have hw := wrap64_succ (i := i) (by omega)
  have f1 : p.length + 2 ≤ 281474976710656 := by omega
  have f2 : (p ++ [32, 40]).length + t.length ≤ 281474976710656 := by simp only [List.length_append, List.length_cons, List.length_nil]; omega
  have f3 : (p ++ [32, 40] ++ t).length + 1 ≤ 281474976710656 := by simp only [List.length_append, List.length_cons, List.length_nil]; omega
  have f4 : p.length + 1 ≤ 281474976710656 := by omega
  have f5 : (p ++ [32]).length + t.length ≤ 281474976710656 := by simp only [List.length_append, List.length_cons, List.length_nil]; omega
  have e1 : p ++ ([32, 40] ++ t ++ [41]) = p ++ [32, 40] ++ t ++ [41] := by simp only [List.append_assoc]
  have e2 : p ++ ([32] ++ t) = p ++ [32] ++ t := by simp only [List.append_assoc]
  generalize v.kids[i] = k at *
  by_cases gk : 0 < k.kids.length
  · have gk2 : ((k.kids.length : Int) > 0) := by omega
    rw [decide_eq_true gk, Bool.true_or, ifB_true, e1]
    simp only [a33_l0, E33, bx, sy0, sy1, sy2, sy3, sy4, sy5, clearEnv, adel, mem, initEnv, initSlots, stepOp, wantedA, evalOp, callOf, panicOf, evalV, addr, opd, opds, aget, aset, adel1, lkill, readCells, nth, Env.put, Env.putV, Env.box, Env.bare, dropOwn, dropOwnS, binD, binBD, binBool, binInt, binStr, unD, AOpd.drop, Cell.of, AOp.kind, sameKind, assertD, eqlB, isUndef, takeC, unownAt, fits, layCells, putCells, putD, fillD, partsOf, optLo, optHi, allSize, Option.getD_some, Option.getD_none, runDefers, readRes, readRes1, readRess, Nat.reduceAdd, Nat.reduceSub, Nat.reduceMul, Nat.reduceBEq, Bool.false_and, Bool.true_and, Bool.and_true, Bool.and_false, Nat.zero_add, Nat.add_zero, beq_self_eq_true, Bool.true_beq, Bool.false_beq, Bool.not_true, Bool.not_false, decide_true, decide_false, bindO, List.map_cons, List.map_nil, List.length_cons, List.length_nil, List.append_nil, List.nil_append, List.cons_append, List.isEmpty_nil, List.isEmpty_cons, Nat.reduceLeDiff, Int.reduceBEq, Int.reduceNeg, Nat.le_refl, List.length_map, hk2, hrow, hi, hw, hc, gk2, f1, f2, f3]
  · have gk2 : ¬ ((k.kids.length : Int) > 0) := by omega
    by_cases gn : k.n < 0
    · rw [decide_eq_true gn, Bool.or_true, ifB_true, e1]
      simp only [a33_l0, E33, bx, sy0, sy1, sy2, sy3, sy4, sy5, clearEnv, adel, mem, initEnv, initSlots, stepOp, wantedA, evalOp, callOf, panicOf, evalV, addr, opd, opds, aget, aset, adel1, lkill, readCells, nth, Env.put, Env.putV, Env.box, Env.bare, dropOwn, dropOwnS, binD, binBD, binBool, binInt, binStr, unD, AOpd.drop, Cell.of, AOp.kind, sameKind, assertD, eqlB, isUndef, takeC, unownAt, fits, layCells, putCells, putD, fillD, partsOf, optLo, optHi, allSize, Option.getD_some, Option.getD_none, runDefers, readRes, readRes1, readRess, Nat.reduceAdd, Nat.reduceSub, Nat.reduceMul, Nat.reduceBEq, Bool.false_and, Bool.true_and, Bool.and_true, Bool.and_false, Nat.zero_add, Nat.add_zero, beq_self_eq_true, Bool.true_beq, Bool.false_beq, Bool.not_true, Bool.not_false, decide_true, decide_false, bindO, List.map_cons, List.map_nil, List.length_cons, List.length_nil, List.append_nil, List.nil_append, List.cons_append, List.isEmpty_nil, List.isEmpty_cons, Nat.reduceLeDiff, Int.reduceBEq, Int.reduceNeg, Nat.le_refl, List.length_map, hk2, hrow, hi, hw, hc, gk2, gn, f1, f2, f3]
    · rw [decide_eq_false gk, decide_eq_false gn, Bool.or_self, ifB_false, e2]
      simp only [a33_l0, E33, bx, sy0, sy1, sy2, sy3, sy4, sy5, clearEnv, adel, mem, initEnv, initSlots, stepOp, wantedA, evalOp, callOf, panicOf, evalV, addr, opd, opds, aget, aset, adel1, lkill, readCells, nth, Env.put, Env.putV, Env.box, Env.bare, dropOwn, dropOwnS, binD, binBD, binBool, binInt, binStr, unD, AOpd.drop, Cell.of, AOp.kind, sameKind, assertD, eqlB, isUndef, takeC, unownAt, fits, layCells, putCells, putD, fillD, partsOf, optLo, optHi, allSize, Option.getD_some, Option.getD_none, runDefers, readRes, readRes1, readRess, Nat.reduceAdd, Nat.reduceSub, Nat.reduceMul, Nat.reduceBEq, Bool.false_and, Bool.true_and, Bool.and_true, Bool.and_false, Nat.zero_add, Nat.add_zero, beq_self_eq_true, Bool.true_beq, Bool.false_beq, Bool.not_true, Bool.not_false, decide_true, decide_false, bindO, List.map_cons, List.map_nil, List.length_cons, List.length_nil, List.append_nil, List.nil_append, List.cons_append, List.isEmpty_nil, List.isEmpty_cons, Nat.reduceLeDiff, Int.reduceBEq, Int.reduceNeg, Nat.le_refl, List.length_map, hk2, hrow, hi, hw, hc, gk2, gn, f4, f5]
theorem l33_end (p : List UInt8) : exec C n a33_l0 (E33 v p v.kids.length) σ = some (.exit 1, { slots := [(3, ⟨false, .str p⟩), (4, ⟨false, .int .i64 v.kids.length⟩), (23, ⟨false, .bool false⟩)], locs := [(1, (1, 0))], boxes := [(1, bx v)], defers := [] }, σ) := by
  have hi : ¬ ((v.kids.length : Int) < (v.kids.length : Int)) := by omega
  simp only [a33_l0, E33, bx, sy0, sy1, sy2, sy3, sy4, sy5, clearEnv, adel, mem, initEnv, initSlots, stepOp, wantedA, evalOp, callOf, panicOf, evalV, addr, opd, opds, aget, aset, adel1, lkill, readCells, nth, Env.put, Env.putV, Env.box, Env.bare, dropOwn, dropOwnS, binD, binBD, binBool, binInt, binStr, unD, AOpd.drop, Cell.of, AOp.kind, sameKind, assertD, eqlB, isUndef, takeC, unownAt, fits, layCells, putCells, putD, fillD, partsOf, optLo, optHi, allSize, Option.getD_some, Option.getD_none, runDefers, readRes, readRes1, readRess, Nat.reduceAdd, Nat.reduceSub, Nat.reduceMul, Nat.reduceBEq, Bool.false_and, Bool.true_and, Bool.and_true, Bool.and_false, Nat.zero_add, Nat.add_zero, beq_self_eq_true, Bool.true_beq, Bool.false_beq, Bool.not_true, Bool.not_false, decide_true, decide_false, bindO, List.map_cons, List.map_nil, List.length_cons, List.length_nil, List.append_nil, List.nil_append, List.cons_append, List.isEmpty_nil, List.isEmpty_cons, Nat.reduceLeDiff, Int.reduceBEq, Int.reduceNeg, Nat.le_refl, List.length_map, hi]
end
theorem rtext_run (v : V) (hf : FitN v) : wt v < 1000000 → Evly fun n => ∀ σ, T n 33 [dV v] σ = some (.ret ⟨false, .str (rtext v)⟩, σ) := by
  induction hf with
  | mk f n s ks hks hn hk ih =>
    intro hw
    rw [wt] at hw
    have hkids : Evly fun m => ∀ i, i < ks.length → ∀ (h : i < ks.length) σ, T m 33 [dV ks[i]] σ = some (.ret ⟨false, .str (rtext ks[i])⟩, σ) :=
      Evly.below _ fun i hi => (ih ks[i] (List.getElem_mem hi) (by have := wt_mem (List.getElem_mem hi); omega)).mono fun n hn _ σ => hn σ
    refine (hkids.and (number_run n hn)).step (ks.length + 1) fun m hm ⟨hrun, hnum⟩ σ => ?_
    rw [T_fun (af := a33) rfl rfl]
    have hva : ∀ f n s ks, dV (.mk f n s ks) = .agg [.int .i64 f, .int .i64 n, .str s, dlist kV (ks.map dV)] := fun f n s ks => dV_eq _
    rw [hva]
    have hnum := hnum σ
    cases h2 : f == 2 with
    | true => simp only [rtext, h2, a33, sy0, sy1, sy2, sy3, sy4, sy5, clearEnv, adel, mem, initEnv, initSlots, stepOp, wantedA, evalOp, callOf, panicOf, evalV, addr, opd, opds, aget, aset, adel1, lkill, readCells, nth, Env.put, Env.putV, Env.box, Env.bare, dropOwn, dropOwnS, binD, binBD, binBool, binInt, binStr, unD, AOpd.drop, Cell.of, AOp.kind, sameKind, assertD, eqlB, isUndef, takeC, unownAt, fits, layCells, putCells, putD, fillD, partsOf, optLo, optHi, allSize, Option.getD_some, Option.getD_none, runDefers, readRes, readRes1, readRess, Nat.reduceAdd, Nat.reduceSub, Nat.reduceMul, Nat.reduceBEq, Bool.false_and, Bool.true_and, Bool.and_true, Bool.and_false, Nat.zero_add, Nat.add_zero, beq_self_eq_true, Bool.true_beq, Bool.false_beq, Bool.not_true, Bool.not_false, decide_true, decide_false, bindO, List.map_cons, List.map_nil, List.length_cons, List.length_nil, List.append_nil, List.nil_append, List.cons_append, List.isEmpty_nil, List.isEmpty_cons, Nat.reduceLeDiff, Int.reduceBEq, Int.reduceNeg, Nat.le_refl, hnum]
    | false =>
    cases h3 : f == 3 with
    | true => simp only [rtext, h2, h3, a33, sy0, sy1, sy2, sy3, sy4, sy5, clearEnv, adel, mem, initEnv, initSlots, stepOp, wantedA, evalOp, callOf, panicOf, evalV, addr, opd, opds, aget, aset, adel1, lkill, readCells, nth, Env.put, Env.putV, Env.box, Env.bare, dropOwn, dropOwnS, binD, binBD, binBool, binInt, binStr, unD, AOpd.drop, Cell.of, AOp.kind, sameKind, assertD, eqlB, isUndef, takeC, unownAt, fits, layCells, putCells, putD, fillD, partsOf, optLo, optHi, allSize, Option.getD_some, Option.getD_none, runDefers, readRes, readRes1, readRess, Nat.reduceAdd, Nat.reduceSub, Nat.reduceMul, Nat.reduceBEq, Bool.false_and, Bool.true_and, Bool.and_true, Bool.and_false, Nat.zero_add, Nat.add_zero, beq_self_eq_true, Bool.true_beq, Bool.false_beq, Bool.not_true, Bool.not_false, decide_true, decide_false, bindO, List.map_cons, List.map_nil, List.length_cons, List.length_nil, List.append_nil, List.nil_append, List.cons_append, List.isEmpty_nil, List.isEmpty_cons, Nat.reduceLeDiff, Int.reduceBEq, Int.reduceNeg, Nat.le_refl]
    | false =>
    cases h4 : f == 4 with
    | true => simp only [rtext, h2, h3, h4, a33, sy0, sy1, sy2, sy3, sy4, sy5, clearEnv, adel, mem, initEnv, initSlots, stepOp, wantedA, evalOp, callOf, panicOf, evalV, addr, opd, opds, aget, aset, adel1, lkill, readCells, nth, Env.put, Env.putV, Env.box, Env.bare, dropOwn, dropOwnS, binD, binBD, binBool, binInt, binStr, unD, AOpd.drop, Cell.of, AOp.kind, sameKind, assertD, eqlB, isUndef, takeC, unownAt, fits, layCells, putCells, putD, fillD, partsOf, optLo, optHi, allSize, Option.getD_some, Option.getD_none, runDefers, readRes, readRes1, readRess, Nat.reduceAdd, Nat.reduceSub, Nat.reduceMul, Nat.reduceBEq, Bool.false_and, Bool.true_and, Bool.and_true, Bool.and_false, Nat.zero_add, Nat.add_zero, beq_self_eq_true, Bool.true_beq, Bool.false_beq, Bool.not_true, Bool.not_false, decide_true, decide_false, bindO, List.map_cons, List.map_nil, List.length_cons, List.length_nil, List.append_nil, List.nil_append, List.cons_append, List.isEmpty_nil, List.isEmpty_cons, Nat.reduceLeDiff, Int.reduceBEq, Int.reduceNeg, Nat.le_refl]
    | false =>
      have hloop := loopN_run (body := exec (T m) m a33_l0) (fun i => E33 (.mk f n s ks) (s ++ rtexts (ks.take i)) i) (fun _ => σ) ks.length (r := _) (fun _ _ h => by cases h)
        (fun i hi => by
          have h1 := rtexts_pre ks i
          have h2 := rtext_len ks[i]
          have h3 := wt_mem (List.getElem_mem hi)
          have := l33_step (v := .mk f n s ks) (C := T m) (n := m) (σ := σ) (s ++ rtexts (ks.take i)) (rtext ks[i]) hi hks (by simp only [List.length_append]; omega) (hrun i hi hi σ)
          rw [rtexts_take ks i hi, ← List.append_assoc]
          exact this) (l33_end _) 0 m (by omega) (by omega)
      simp only [E33, bx, form_mk, n_mk, name_mk, kids_mk, zeroI, List.take_zero, List.take_length, rtexts, List.append_nil] at hloop
      simp only [rtext, h2, h3, h4, a33, sy0, sy1, sy2, sy3, sy4, sy5, clearEnv, adel, mem, initEnv, initSlots, stepOp, wantedA, evalOp, callOf, panicOf, evalV, addr, opd, opds, aget, aset, adel1, lkill, readCells, nth, Env.put, Env.putV, Env.box, Env.bare, dropOwn, dropOwnS, binD, binBD, binBool, binInt, binStr, unD, AOpd.drop, Cell.of, AOp.kind, sameKind, assertD, eqlB, isUndef, takeC, unownAt, fits, layCells, putCells, putD, fillD, partsOf, optLo, optHi, allSize, Option.getD_some, Option.getD_none, runDefers, readRes, readRes1, readRess, Nat.reduceAdd, Nat.reduceSub, Nat.reduceMul, Nat.reduceBEq, Bool.false_and, Bool.true_and, Bool.and_true, Bool.and_false, Nat.zero_add, Nat.add_zero, beq_self_eq_true, Bool.true_beq, Bool.false_beq, Bool.not_true, Bool.not_false, decide_true, decide_false, bindO, List.map_cons, List.map_nil, List.length_cons, List.length_nil, List.append_nil, List.nil_append, List.cons_append, List.isEmpty_nil, List.isEmpty_cons, Nat.reduceLeDiff, Int.reduceBEq, Int.reduceNeg, Nat.le_refl, hloop]
def rprint (v : V) : List UInt8 := ifB (may v) (rtext v) []
theorem rprint_run (v : V) (hn : Nums v) (hw : wt v < 1000000) : Evly fun n => ∀ σ, T n 13 [dV v] σ = some (.ret ⟨false, .str (rprint v)⟩, σ) := ((may_run v hw).and (rtext_run v (fitN_of hn hw) hw)).step 0 fun m _ ⟨h1, h2⟩ σ => by
  have h1 := h1 σ
  have h2 := h2 σ
  rw [T_fun (af := a13) rfl rfl]
  unfold rprint
  rw [dV_eq v] at h1 h2 ⊢
  cases hm : may v with
  | false =>
    rw [hm] at h1
    simp only [a13, sy0, sy1, sy2, sy3, sy4, sy5, clearEnv, adel, mem, initEnv, initSlots, stepOp, wantedA, evalOp, callOf, panicOf, evalV, addr, opd, opds, aget, aset, adel1, lkill, readCells, nth, Env.put, Env.putV, Env.box, Env.bare, dropOwn, dropOwnS, binD, binBD, binBool, binInt, binStr, unD, AOpd.drop, Cell.of, AOp.kind, sameKind, assertD, eqlB, isUndef, takeC, unownAt, fits, layCells, putCells, putD, fillD, partsOf, optLo, optHi, allSize, Option.getD_some, Option.getD_none, runDefers, readRes, readRes1, readRess, Nat.reduceAdd, Nat.reduceSub, Nat.reduceMul, Nat.reduceBEq, Bool.false_and, Bool.true_and, Bool.and_true, Bool.and_false, Nat.zero_add, Nat.add_zero, beq_self_eq_true, Bool.true_beq, Bool.false_beq, Bool.not_true, Bool.not_false, decide_true, decide_false, bindO, List.map_cons, List.map_nil, List.length_cons, List.length_nil, List.append_nil, List.nil_append, List.cons_append, List.isEmpty_nil, List.isEmpty_cons, Nat.reduceLeDiff, Int.reduceBEq, Int.reduceNeg, Nat.le_refl, h1]
  | true =>
    rw [hm] at h1
    simp only [a13, sy0, sy1, sy2, sy3, sy4, sy5, clearEnv, adel, mem, initEnv, initSlots, stepOp, wantedA, evalOp, callOf, panicOf, evalV, addr, opd, opds, aget, aset, adel1, lkill, readCells, nth, Env.put, Env.putV, Env.box, Env.bare, dropOwn, dropOwnS, binD, binBD, binBool, binInt, binStr, unD, AOpd.drop, Cell.of, AOp.kind, sameKind, assertD, eqlB, isUndef, takeC, unownAt, fits, layCells, putCells, putD, fillD, partsOf, optLo, optHi, allSize, Option.getD_some, Option.getD_none, runDefers, readRes, readRes1, readRess, Nat.reduceAdd, Nat.reduceSub, Nat.reduceMul, Nat.reduceBEq, Bool.false_and, Bool.true_and, Bool.and_true, Bool.and_false, Nat.zero_add, Nat.add_zero, beq_self_eq_true, Bool.true_beq, Bool.false_beq, Bool.not_true, Bool.not_false, decide_true, decide_false, bindO, List.map_cons, List.map_nil, List.length_cons, List.length_nil, List.append_nil, List.nil_append, List.cons_append, List.isEmpty_nil, List.isEmpty_cons, Nat.reduceLeDiff, Int.reduceBEq, Int.reduceNeg, Nat.le_refl, h1, h2]
/-! the two prints are one -/
mutual
theorem text_same : ∀ v : V, good v = true → rtext v = ptext v false
  | .mk f n s ks, h => by
    rw [good] at h
    rw [rtext, ptext, Bool.false_and, ifB_false]
    unfold phead
    cases h2 : f == 2 with
    | true =>
      rw [h2] at h
      simp only [ifB_true] at h ⊢
      cases ks with
      | nil => simp [ptexts]
      | cons k r => simp at h
    | false =>
    cases h3 : f == 3 with
    | true =>
      rw [h2, h3] at h
      simp only [ifB_true, ifB_false] at h ⊢
      cases ks with
      | nil => simp [ptexts]
      | cons k r => simp at h
    | false =>
    cases h4 : f == 4 with
    | true =>
      rw [h2, h3, h4] at h
      simp only [ifB_true, ifB_false] at h ⊢
      cases ks with
      | nil => simp [ptexts]
      | cons k r => simp at h
    | false =>
      simp only [ifB_false]
      rw [h2, h3, h4] at h
      cases h1 : f == 1 with
      | false => rw [h1] at h; simp [ifB_false] at h
      | true =>
        rw [h1] at h
        simp only [ifB_true, ifB_false, Bool.and_eq_true] at h
        rw [texts_same ks h.2]
theorem texts_same : ∀ l : List V, goods l = true → rtexts l = ptexts l
  | [], _ => rfl
  | .mk f n s ks :: r, h => by
    rw [goods, Bool.and_eq_true] at h
    have h1 := text_same (.mk f n s ks) h.1
    have e : rtexts (.mk f n s ks :: r) = ifB (decide (0 < ks.length) || decide (n < 0)) ([32, 40] ++ rtext (.mk f n s ks) ++ [41]) ([32] ++ rtext (.mk f n s ks)) ++ rtexts r := by rw [rtexts]; rfl
    rw [e, ptexts, h1, texts_same r h.2]
    rw [ptext, ptext, Bool.false_and, ifB_false, Bool.true_and]
    cases (decide (0 < ks.length) || decide (n < 0)) <;> simp [ifB_true, ifB_false]
end
theorem print_same (v : V) : pprint v = rprint v := by
  unfold pprint rprint may
  rw [told_may v 40]
  cases hg : good v with
  | false => rfl
  | true =>
    rw [text_same v hg]
end Go.Proofs.YtdoppkjoemlhjaaDoor.Sh

/-
  What the document's reader guesses of a text, as functions; of a print it guesses the value.
-/
namespace Go.Proofs.YtdoppkjoemlhjaaDoor.Sh
open Go Go.Mx
set_option maxRecDepth 10000
/-- The pieces that stand side by side outside of brackets; none: a bracket too many is shut. -/
def spl : List UInt8 → List UInt8 → Nat → List (List UInt8) → Option (List (List UInt8) × Bool)
  | [], cur, o, out => some (out ++ [cur], o == 0)
  | c :: r, cur, o, out =>
    if c = 32 ∧ o = 0 then spl r [] 0 (out ++ [cur])
    else if c = 40 then spl r (cur ++ [c]) (o + 1) out
    else if c = 41 then (if o = 0 then none else spl r (cur ++ [c]) (o - 1) out)
    else spl r (cur ++ [c]) o out
theorem spl_cons (c : UInt8) (r cur : List UInt8) (o : Nat) (out : List (List UInt8)) : spl (c :: r) cur o out = if c = 32 ∧ o = 0 then spl r [] 0 (out ++ [cur]) else if c = 40 then spl r (cur ++ [c]) (o + 1) out else if c = 41 then (if o = 0 then none else spl r (cur ++ [c]) (o - 1) out) else spl r (cur ++ [c]) o out := by rw [spl]
def splR (s : List UInt8) : List (List UInt8) × Bool := match spl s [] 0 [] with
  | some p => p
  | none => ([], false)
def tot : List (List UInt8) → Nat
  | [] => 0
  | s :: l => s.length + 1 + tot l
theorem tot_app : ∀ a b, tot (a ++ b) = tot a + tot b
  | [], b => by simp [tot]
  | s :: a, b => by simp only [List.cons_append, tot, tot_app a b]; omega
theorem spl_tot : ∀ r cur o out l b, spl r cur o out = some (l, b) → tot l = tot out + cur.length + 1 + r.length
  | [], cur, o, out, l, b, h => by
    simp only [spl, Option.some.injEq, Prod.mk.injEq] at h
    rw [← h.1, tot_app]
    simp only [tot, List.length_nil]
    omega
  | c :: r, cur, o, out, l, b, h => by
    rw [spl] at h
    split at h
    · have := spl_tot _ _ _ _ _ _ h
      rw [this, tot_app]
      simp only [tot, List.length_nil, List.length_cons]
      omega
    · split at h
      · have := spl_tot _ _ _ _ _ _ h
        simp only [List.length_append, List.length_cons, List.length_nil] at this ⊢
        omega
      · split at h
        · split at h
          · cases h
          · have := spl_tot _ _ _ _ _ _ h
            simp only [List.length_append, List.length_cons, List.length_nil] at this ⊢
            omega
        · have := spl_tot _ _ _ _ _ _ h
          simp only [List.length_append, List.length_cons, List.length_nil] at this ⊢
          omega
theorem splR_tot (s : List UInt8) : tot (splR s).1 ≤ s.length + 1 := by
  unfold splR
  cases h : spl s [] 0 [] with
  | none => simp [tot]
  | some p =>
    obtain ⟨l, b⟩ := p
    have := spl_tot _ _ _ _ _ _ h
    simp only [tot, List.length_nil] at this
    show tot l ≤ _
    omega
/-- The number that digits tell, as the machine reckons. -/
def dg : List UInt8 → Int → Option Int
  | [], n => some n
  | c :: r, n => if 48 ≤ c.toNat ∧ c.toNat ≤ 57 then dg r (IntKind.i64.wrap (IntKind.i64.wrap (10 * n) - ((c.toNat : Int) - 48))) else none
def minus (s : List UInt8) : Nat := match s with
  | [] => 0
  | c :: _ => if c = 45 then 1 else 0
def digR (s : List UInt8) : Int × Bool := match dg ((s.drop (minus s)).take (20 - minus s)) 0 with
  | none => (0, false)
  | some n => (if minus s = 0 then IntKind.i64.wrap (0 - n) else n, decide (minus s < s.length) && itoaN (if minus s = 0 then IntKind.i64.wrap (0 - n) else n) == s)
def bare (part : List UInt8) : List UInt8 := if 1 < part.length ∧ part.head? = some 40 ∧ part.getLast? = some 41 then (part.drop 1).take (part.length - 2) else part
def headV (w : List UInt8) : Int × Int × List UInt8 := if w = [46, 46, 46] then (4, 0, []) else if w = [60, 102, 117, 110, 62] then (3, 0, []) else if (digR w).2 = true then (2, (digR w).1, []) else (1, 0, w)
mutual
def gs : Nat → List UInt8 → Option V
  | 0, _ => none
  | d + 1, s => match splR s with
    | (w :: parts, true) => (gss d parts).map fun ks => .mk (headV w).1 (headV w).2.1 (headV w).2.2 ks
    | _ => none
def gss : Nat → List (List UInt8) → Option (List V)
  | _, [] => some []
  | d, p :: l => match gs d (bare p) with
    | none => none
    | some k => (gss d l).map fun ks => k :: ks
end
theorem wrap_fits (z : Int) : Small' (IntKind.i64.wrap z) := by
  unfold Small'
  simp [IntKind.wrap, IntKind.bits, IntKind.signed]
  omega
theorem dg_small : ∀ (l : List UInt8) (n x : Int), Small' n → dg l n = some x → Small' x
  | [], n, x, hn, h => by cases h; exact hn
  | c :: r, n, x, hn, h => by
    rw [dg] at h
    split at h
    · exact dg_small r _ x (wrap_fits _) h
    · cases h
theorem digR_small (s : List UInt8) : Small' (digR s).1 := by
  unfold digR
  cases h : dg ((s.drop (minus s)).take (20 - minus s)) 0 with
  | none => exact (⟨by decide, by decide⟩ : Small' 0)
  | some n =>
    simp only
    split
    · exact wrap_fits _
    · exact dg_small _ _ _ ⟨by decide, by decide⟩ h
theorem bare_len (p : List UInt8) : (bare p).length ≤ p.length := by
  unfold bare
  split
  · simp; omega
  · omega
theorem headV_ok (w : List UInt8) : Small' (headV w).2.1 ∧ (headV w).2.2.length ≤ w.length := by
  have hz : Small' 0 := ⟨by decide, by decide⟩
  unfold headV
  split
  · exact ⟨hz, by simp⟩
  · split
    · exact ⟨hz, by simp⟩
    · split
      · exact ⟨digR_small w, by simp⟩
      · exact ⟨hz, by simp⟩
mutual
theorem gs_ok : ∀ (d : Nat) (s : List UInt8) (v : V), gs d s = some v → Nums v ∧ wt v ≤ 31 * (s.length + 1)
  | 0, s, v, h => by rw [gs] at h; cases h
  | d + 1, s, v, h => by
    rw [gs] at h
    have ht := splR_tot s
    split at h
    · rename_i w parts hs
      rw [hs] at ht
      simp only [tot] at ht
      cases hk : gss d parts with
      | none => rw [hk] at h; cases h
      | some ks =>
        rw [hk] at h
        simp only [Option.map_some, Option.some.injEq] at h
        obtain ⟨h1, h2⟩ := gss_ok d parts ks hk
        obtain ⟨h3, h4⟩ := headV_ok w
        rw [← h]
        refine ⟨.mk _ _ _ _ h3 h1, ?_⟩
        rw [wt]
        omega
    · cases h
theorem gss_ok : ∀ (d : Nat) (l : List (List UInt8)) (ks : List V), gss d l = some ks → (∀ k ∈ ks, Nums k) ∧ wts ks ≤ 31 * tot l
  | d, [], ks, h => by
    rw [gss] at h
    cases h
    exact ⟨fun k h => (by cases h), Nat.zero_le _⟩
  | d, p :: l, ks, h => by
    rw [gss] at h
    cases hp : gs d (bare p) with
    | none => rw [hp] at h; cases h
    | some k =>
      rw [hp] at h
      simp only at h
      cases hl : gss d l with
      | none => rw [hl] at h; cases h
      | some r =>
        rw [hl] at h
        simp only [Option.map_some, Option.some.injEq] at h
        obtain ⟨h1, h2⟩ := gs_ok d (bare p) k hp
        obtain ⟨h3, h4⟩ := gss_ok d l r hl
        have := bare_len p
        rw [← h]
        refine ⟨fun x hx => ?_, ?_⟩
        · rcases List.mem_cons.1 hx with e | hx
          · rw [e]; exact h1
          · exact h3 x hx
        · rw [wts, tot]
          omega
end
/-! Of a print -/
def Dull (w : List UInt8) : Prop := ∀ b ∈ w, b ≠ 32 ∧ b ≠ 40 ∧ b ≠ 41
theorem spl_dull : ∀ (w r cur : List UInt8) (o : Nat) (out : List (List UInt8)), Dull w → spl (w ++ r) cur o out = spl r (cur ++ w) o out
  | [], r, cur, o, out, _ => by simp
  | c :: w, r, cur, o, out, h => by
    obtain ⟨h1, h2, h3⟩ := h c (List.mem_cons_self ..)
    rw [List.cons_append, spl_cons, if_neg (fun e => h1 e.1), if_neg h2, if_neg h3, spl_dull w r (cur ++ [c]) o out fun x hx => h x (List.mem_cons_of_mem _ hx)]
    simp
theorem dull_head {f n : Int} {s : List UInt8} (h : Head f n s) : Dull (phead f n s) := by
  have key : ∀ w : List UInt8, (∀ b ∈ w, b.toNat ≠ 32 ∧ b.toNat ≠ 40 ∧ b.toNat ≠ 41) → Dull w := fun w hw b hb => by
    obtain ⟨h1, h2, h3⟩ := hw b hb
    exact ⟨fun e => h1 (by rw [e]; rfl), fun e => h2 (by rw [e]; rfl), fun e => h3 (by rw [e]; rfl)⟩
  cases h with
  | num _ h =>
    refine key _ fun b hb => ?_
    rcases itoaN_bytes n b hb with e | e <;> omega
  | fn => exact key _ (by decide)
  | more => exact key _ (by decide)
  | con _ h =>
    refine key _ fun b hb => ?_
    have := upper_bytes h b hb
    unfold okB plainB at this
    simp at this
    omega
/-- Within brackets a print is one piece, outside of them what stands in brackets or is alone. -/
theorem spl_print {v : V} (hn : Nums v) : good v = true → (∀ r cur o out b, spl (ptext v b ++ r) cur (o + 1) out = spl r (cur ++ ptext v b) (o + 1) out) ∧ (∀ r cur o out, spl (ptext v true ++ r) cur o out = spl r (cur ++ ptext v true) o out) := by
  induction hn with
  | mk f n s ks hn hk ih =>
    intro hg
    obtain ⟨hh, hf1, hgs⟩ := good_head hg hn
    have hd := dull_head hh
    have hkids : ∀ r cur o out, spl (ptexts ks ++ r) cur (o + 1) out = spl r (cur ++ ptexts ks) (o + 1) out := by
      rw [goods_eq, List.all_eq_true] at hgs
      clear hg hf1
      induction ks with
      | nil => intro r cur o out; simp [ptexts]
      | cons k l ihl =>
        intro r cur o out
        have e := (ih k (List.mem_cons_self ..) (hgs k (List.mem_cons_self ..))).1
        rw [ptexts]
        simp only [List.append_assoc, List.cons_append, List.nil_append]
        rw [spl_cons, if_neg (fun h => by omega), if_neg (by decide), if_neg (by decide), e,
          ihl (fun x hx => hk x (List.mem_cons_of_mem _ hx)) (fun x hx => ih x (List.mem_cons_of_mem _ hx)) (fun x hx => hgs x (List.mem_cons_of_mem _ hx))]
        simp
    have hbody : ∀ r cur o out, spl ((phead f n s ++ ptexts ks) ++ r) cur (o + 1) out = spl r (cur ++ (phead f n s ++ ptexts ks)) (o + 1) out := by
      intro r cur o out
      rw [List.append_assoc, spl_dull _ _ _ _ _ hd, hkids]
      simp
    have hbr : ∀ r cur o out, spl (([40] ++ (phead f n s ++ ptexts ks) ++ [41]) ++ r) cur o out = spl r (cur ++ ([40] ++ (phead f n s ++ ptexts ks) ++ [41])) o out := by
      intro r cur o out
      simp only [List.append_assoc, List.cons_append, List.nil_append]
      rw [spl_cons, if_neg (fun h => by have := h.1; revert this; decide), if_pos rfl]
      have := hbody (41 :: r) (cur ++ [40]) o out
      simp only [List.append_assoc, List.cons_append, List.nil_append] at this
      rw [this, spl_cons, if_neg (fun h => by have := h.1; revert this; decide), if_neg (by decide), if_pos rfl, if_neg (by omega), Nat.add_sub_cancel]
      simp
    refine ⟨fun r cur o out b => ?_, fun r cur o out => ?_⟩
    · rw [ptext]
      cases (b && (decide (0 < ks.length) || decide (n < 0))) with
      | true => rw [ifB_true]; exact hbr r cur (o + 1) out
      | false => rw [ifB_false]; exact hbody r cur o out
    · rw [ptext]
      cases hb : (true && (decide (0 < ks.length) || decide (n < 0))) with
      | true => rw [ifB_true]; exact hbr r cur o out
      | false =>
        simp at hb
        have hks : ks = [] := hb.1
        rw [ifB_false, hks]
        simp only [ptexts, List.append_nil]
        exact spl_dull _ _ _ _ _ hd
theorem splR_print {f n : Int} {s : List UInt8} {ks : List V} (hh : Head f n s) (hk : ∀ k ∈ ks, Nums k) (hg : ∀ k ∈ ks, good k = true) : splR (phead f n s ++ ptexts ks) = (phead f n s :: ks.map fun k => ptext k true, true) := by
  have key : ∀ (l : List V) (cur : List UInt8) (out : List (List UInt8)), (∀ k ∈ l, k ∈ ks) → spl (ptexts l) cur 0 out = some (out ++ cur :: l.map fun k => ptext k true, true) := by
    intro l
    induction l with
    | nil => intro cur out _; simp [ptexts, spl]
    | cons k l ih =>
      intro cur out hm
      have hk0 := hm k (List.mem_cons_self ..)
      have e := (spl_print (hk k hk0) (hg k hk0)).2
      rw [ptexts]
      simp only [List.append_assoc, List.cons_append, List.nil_append]
      rw [spl_cons, if_pos ⟨rfl, rfl⟩, e, ih _ _ fun x hx => hm x (List.mem_cons_of_mem _ hx)]
      simp
  unfold splR
  rw [spl_dull _ _ _ _ _ (dull_head hh), key ks _ _ fun _ h => h]
  simp
/-! digits -/
def dgv : List UInt8 → Int → Int
  | [], a => a
  | c :: r, a => dgv r (10 * a - ((c.toNat : Int) - 48))
theorem wrap_mod (a b : Int) (h : (a - b) % 18446744073709551616 = 0) : IntKind.i64.wrap a = IntKind.i64.wrap b := by
  simp [IntKind.wrap, IntKind.bits, IntKind.signed]
  omega
theorem wrap_cong (z : Int) : (IntKind.i64.wrap z - z) % 18446744073709551616 = 0 := by
  simp [IntKind.wrap, IntKind.bits, IntKind.signed]
  omega
theorem dg_dgv : ∀ (l : List UInt8) (a : Int), (∀ b ∈ l, 48 ≤ b.toNat ∧ b.toNat ≤ 57) → dg l (IntKind.i64.wrap a) = some (IntKind.i64.wrap (dgv l a))
  | [], a, _ => rfl
  | c :: r, a, h => by
    have hc := h c (List.mem_cons_self ..)
    have e : IntKind.i64.wrap (IntKind.i64.wrap (10 * IntKind.i64.wrap a) - ((c.toNat : Int) - 48)) = IntKind.i64.wrap (10 * a - ((c.toNat : Int) - 48)) := by
      apply wrap_mod
      have h1 := wrap_cong a
      have h2 := wrap_cong (10 * IntKind.i64.wrap a)
      omega
    rw [dg, if_pos hc, e, dg_dgv r _ fun x hx => h x (List.mem_cons_of_mem _ hx)]
    rfl
theorem dgv_digF : ∀ (k m : Nat) (acc : List UInt8), m < 10 ^ k → 0 < k → dgv (digF k m acc) 0 = dgv acc (-(m : Int))
  | 0, m, acc, _, h => by omega
  | k + 1, m, acc, h, _ => by
    have one : ∀ j, j < 10 → (((UInt8.ofNat (48 + j)).toNat : Nat) : Int) - 48 = j := fun j hj => by
      have e : (UInt8.ofNat (48 + j)).toNat = 48 + j := by
        rw [UInt8.toNat_ofNat']
        exact Nat.mod_eq_of_lt (by omega)
      rw [e]
      omega
    rw [digF]
    by_cases h10 : m < 10
    · rw [decide_eq_true h10, ifB_true, dgv, one m h10]
      congr 1
      omega
    · rw [decide_eq_false h10, ifB_false]
      have hk : 0 < k := by
        cases k with
        | zero => simp at h; omega
        | succ k => omega
      have hlt : m / 10 < 10 ^ k := by
        rw [Nat.div_lt_iff_lt_mul (by omega)]
        rw [Nat.pow_succ] at h
        exact h
      rw [dgv_digF k (m / 10) _ hlt hk, dgv, one _ (by omega)]
      congr 1
      omega
theorem digF_len2 : ∀ (k m j : Nat) (acc : List UInt8), m < 10 ^ j → 0 < j → (digF k m acc).length ≤ j + acc.length
  | 0, m, j, acc, _, _ => by rw [digF]; omega
  | k + 1, m, j, acc, h, hj => by
    rw [digF]
    by_cases h10 : m < 10
    · rw [decide_eq_true h10, ifB_true]
      simp only [List.length_cons]
      omega
    · rw [decide_eq_false h10, ifB_false]
      obtain ⟨i, rfl⟩ : ∃ i, j = i + 1 := ⟨j - 1, by omega⟩
      have hi : 0 < i := by
        cases i with
        | zero => simp at h; omega
        | succ i => omega
      have hlt : m / 10 < 10 ^ i := by
        rw [Nat.div_lt_iff_lt_mul (by omega)]
        rw [Nat.pow_succ] at h
        exact h
      have := digF_len2 k (m / 10) i (UInt8.ofNat (48 + m % 10) :: acc) hlt hi
      simp only [List.length_cons] at this
      omega
theorem minus_cons (c : UInt8) (r : List UInt8) (h : c ≠ 45) : minus (c :: r) = 0 := by simp [minus, h]
theorem digR_itoa (n : Int) (hn : Small' n) : digR (itoaN n) = (n, true) := by
  have hz : IntKind.i64.wrap 0 = 0 := by decide
  cases n with
  | ofNat m =>
    have hb := digF_bytes 20 m [] (fun _ h => by cases h)
    have hm : m ≤ 9223372036854775807 := by have := hn.2; simp at this; omega
    have hlen : (digF 20 m []).length ≤ 19 := by
      have := digF_len2 20 m 19 [] (by omega) (by omega)
      simpa using this
    have hv := dgv_digF 20 m [] (by omega) (by omega)
    have he : itoaN (.ofNat m) = digF 20 m [] := rfl
    rw [he]
    have hmin : minus (digF 20 m []) = 0 := by
      cases hd : digF 20 m [] with
      | nil => rfl
      | cons c r =>
        have := hb c (by rw [hd]; exact List.mem_cons_self ..)
        exact minus_cons c r (fun e => by rw [e] at this; revert this; decide)
    have hne := itoaN_ne (.ofNat m)
    rw [he] at hne
    have hpos : decide (0 < (digF 20 m []).length) = true := decide_eq_true (by cases hd : digF 20 m [] with | nil => exact absurd hd hne | cons => simp)
    unfold digR
    rw [hmin]
    simp only [List.drop_zero, Nat.sub_zero, if_true]
    rw [List.take_of_length_le (by omega)]
    have hdg := dg_dgv (digF 20 m []) 0 hb
    rw [hz, hv] at hdg
    rw [hdg]
    have hw : IntKind.i64.wrap (0 - IntKind.i64.wrap (dgv [] (-(m : Int)))) = .ofNat m := by
      simp only [dgv]
      have h1 : IntKind.i64.wrap (-(m : Int)) = -(m : Int) := wrap64 (by omega) (by omega)
      rw [h1, wrap64 (by omega) (by omega)]
      show 0 - -(m : Int) = (m : Int)
      omega
    simp only [hw, hpos]
    rw [he]
    simp
  | negSucc m =>
    have hb := digF_bytes 20 (m + 1) [] (fun _ h => by cases h)
    have hm : m + 1 ≤ 9223372036854775808 := by have := hn.1; omega
    have hlen : (digF 20 (m + 1) []).length ≤ 19 := by
      have := digF_len2 20 (m + 1) 19 [] (by omega) (by omega)
      simpa using this
    have hv := dgv_digF 20 (m + 1) [] (by omega) (by omega)
    have he : itoaN (.negSucc m) = 45 :: digF 20 (m + 1) [] := rfl
    rw [he]
    have hmin : minus (45 :: digF 20 (m + 1) []) = 1 := by simp [minus]
    have hne : digF 20 (m + 1) [] ≠ [] := digN_ne (m + 1)
    have hpos : decide (1 < (45 :: digF 20 (m + 1) [] : List UInt8).length) = true := decide_eq_true (by cases hd : digF 20 (m + 1) [] with | nil => exact absurd hd hne | cons => simp)
    unfold digR
    rw [hmin]
    simp only [List.drop_succ_cons, List.drop_zero, Nat.one_ne_zero, if_false]
    rw [List.take_of_length_le (by omega)]
    have hdg := dg_dgv (digF 20 (m + 1) []) 0 hb
    rw [hz, hv] at hdg
    rw [hdg]
    have hw : IntKind.i64.wrap (dgv [] (-((m + 1 : Nat) : Int))) = .negSucc m := by
      simp only [dgv]
      rw [wrap64 (by omega) (by omega)]
      omega
    simp only [hw, hpos]
    rw [he]
    simp
theorem digR_not {c : UInt8} {r : List UInt8} (h : 57 < c.toNat) : (digR (c :: r)).2 = false := by
  have hm : minus (c :: r) = 0 := minus_cons c r (fun e => by rw [e] at h; revert h; decide)
  unfold digR
  rw [hm]
  simp only [List.drop_zero, Nat.sub_zero, List.take_succ_cons]
  rw [dg, if_neg (by omega)]
theorem headV_head {f n : Int} {s : List UInt8} (h : Head f n s) : headV (phead f n s) = (f, n, s) := by
  unfold headV
  cases h with
  | num _ h =>
    have e : phead 2 n [] = itoaN n := rfl
    have e1 := num_ne n 60 [102, 117, 110, 62] (by decide) (by decide)
    have e2 := num_ne n 46 [46, 46] (by decide) (by decide)
    simp only [beq_eq_false_iff_ne] at e1 e2
    rw [e, if_neg e2, if_neg e1, digR_itoa n h]
    simp
  | fn =>
    have e : phead 3 0 [] = [60, 102, 117, 110, 62] := rfl
    rw [e, if_neg (by decide), if_pos rfl]
  | more =>
    have e : phead 4 0 [] = [46, 46, 46] := rfl
    rw [e, if_pos rfl]
  | con _ h =>
    have e : phead 1 0 s = s := rfl
    have e1 := upper_ne s h 60 [102, 117, 110, 62] (by decide)
    have e2 := upper_ne s h 46 [46, 46] (by decide)
    simp only [beq_eq_false_iff_ne] at e1 e2
    rw [e, if_neg e2, if_neg e1]
    have hd : (digR s).2 = false := by
      cases s with
      | nil => exact absurd rfl (upperB_ne h)
      | cons c r => exact digR_not (by have := upper_first h; omega)
    rw [hd]
    simp
theorem bare_print {v : V} (hn : Nums v) (hg : good v = true) : bare (ptext v true) = ptext v false := by
  cases hn with
  | mk f n s ks hn hk =>
    obtain ⟨hh, hf1, hgs⟩ := good_head hg hn
    have hd := dull_head hh
    have hw := (head_word hh).ne
    rw [ptext, ptext]
    simp only [Bool.false_and, ifB_false]
    cases hb : (true && (decide (0 < ks.length) || decide (n < 0))) with
    | true =>
      rw [ifB_true]
      unfold bare
      have e1 : ([40] ++ (phead f n s ++ ptexts ks) ++ [41]).length = (phead f n s ++ ptexts ks).length + 2 := by simp only [List.length_append, List.length_cons, List.length_nil]; omega
      have e2 : ([40] ++ (phead f n s ++ ptexts ks) ++ [41]).getLast? = some 41 := by rw [List.getLast?_append]; rfl
      rw [if_pos ⟨by omega, rfl, e2⟩, e1]
      show ((phead f n s ++ ptexts ks) ++ [41]).take _ = _
      rw [Nat.add_sub_cancel, List.take_left]
    | false =>
      simp at hb
      have hks : ks = [] := hb.1
      rw [ifB_false, hks]
      simp only [ptexts, List.append_nil]
      unfold bare
      rw [if_neg]
      intro ⟨_, h2, _⟩
      cases hp : phead f n s with
      | nil => exact hw hp
      | cons c r =>
        rw [hp] at h2
        simp at h2
        have := hd c (by rw [hp]; exact List.mem_cons_self ..)
        exact this.2.1 h2
theorem gs_print {v : V} (hn : Nums v) : good v = true → ∀ d, nested v < d → gs d (ptext v false) = some v := by
  induction hn with
  | mk f n s ks hn hk ih =>
    intro hg d hd
    obtain ⟨hh, hf1, hgs⟩ := good_head hg hn
    obtain ⟨d, rfl⟩ : ∃ e, d = e + 1 := ⟨d - 1, by omega⟩
    rw [goods_eq, List.all_eq_true] at hgs
    rw [ptext]
    simp only [Bool.false_and, ifB_false]
    rw [gs, splR_print hh hk hgs]
    simp only
    have hkn : ∀ k ∈ ks, nested k < d := by
      intro k hk'
      have hne : ks ≠ [] := fun e => by rw [e] at hk'; cases hk'
      rw [nested, hf1 hne] at hd
      simp only [beq_self_eq_true, ifB_true] at hd
      have : ∀ (l : List V), k ∈ l → nested k ≤ nesteds l := by
        intro l
        induction l with
        | nil => intro h; cases h
        | cons a l ihl =>
          intro h
          rw [nesteds]
          rcases List.mem_cons.1 h with e | h
          · rw [e]; omega
          · have := ihl h; omega
      have := this ks hk'
      omega
    have hks : gss d (ks.map fun k => ptext k true) = some ks := by
      clear hg hf1 hd
      induction ks with
      | nil => rw [List.map_nil, gss]
      | cons k l ihl =>
        rw [List.map_cons, gss, bare_print (hk k (List.mem_cons_self ..)) (hgs k (List.mem_cons_self ..)), ih k (List.mem_cons_self ..) (hgs k (List.mem_cons_self ..)) d (hkn k (List.mem_cons_self ..)),
          ihl (fun x hx => hk x (List.mem_cons_of_mem _ hx)) (fun x hx => ih x (List.mem_cons_of_mem _ hx)) (fun x hx => hgs x (List.mem_cons_of_mem _ hx)) (fun x hx => hkn x (List.mem_cons_of_mem _ hx))]
        rfl
    rw [hks, headV_head hh]
    rfl
end Go.Proofs.YtdoppkjoemlhjaaDoor.Sh

