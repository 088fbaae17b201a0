/-
  SchemeQuantify, run: true, whatever the numbers.
-/
import Derived.Test.YtkgdpcnobfadaaaDoorFqG4
import Derived.Test.YtkgdpcnobfadaaaDoorFqQ7
import Derived.Test.YtkgdpcnobfadaaaDoorFqQ11
set_option linter.unusedSimpArgs false
set_option linter.unusedVariables false
namespace Go.Fu
open Go Go.Mx
set_option maxRecDepth 10000
def nq (ms : List Nat) (x : Nat) (k : Nat) : Bool := (ms.take k).all fun m => ((m : Int) != (x : Int))
theorem nq_succ (ms : List Nat) (x k : Nat) (h : k < ms.length) : nq ms x (k + 1) = (nq ms x k && ((ms[k] : Int) != (x : Int))) := by
  unfold nq
  rw [← take_snoc _ _ h, List.all_append]
  simp
theorem append_N (l : List Nat) (v : Nat) (o : Bool) (ho : l ≠ [] → o = true) (hl : l.length < 1048576) : appendD k_int 8 ⟨o, dlist k_int (l.map dN)⟩ [.int .i64 (v : Int)] = some ⟨true, dlist k_int ((l ++ [v]).map dN)⟩ := by
  rw [append_one (fun h => ho (by simpa using h)) rfl rfl (by simp [bound]; omega) (by simp [bound]; omega)]
  simp [dN]
section
variable {C : CallF} {n : Nat} {σ : Store}
def bZ (vs : List (List UInt8)) (ks : List D) (ps : List Pr) (t : Tp) : List Cell := ⟨false, dSs vs⟩ :: ⟨false, dlist k_api_Kind ks⟩ :: ⟨false, dPs ps⟩ :: bT t
def EI (d2 : D) (bx : List Cell) (ms : List Nat) (i x k : Nat) : Env := { slots := [(2, ⟨false, d2⟩), (8, ⟨ow ms.length, dNs ms⟩), (9, ⟨false, .int .i64 i⟩), (10, ⟨false, .int .i64 x⟩), (11, ⟨false, .bool (nq ms x k)⟩), (12, ⟨false, .int .i64 k⟩)], locs := [(7, 7, 0)], boxes := [(7, bx)], defers := [] }
theorem lI_step (d2 : D) (bx : List Cell) (ms : List Nat) (i x k : Nat) (h : k < ms.length) (hl : ms.length < 100) : exec C n a_l13_SchemeQuantify_l0 (EI d2 bx ms i x k) σ = some (.normal, EI d2 bx ms i x (k + 1), σ) := by
  have hk : ((k : Int) < (ms.length : Int)) := by omega
  have w1 := wrap64_succ (i := k) (by omega)
  have hx : indexD 1 (dNs ms) k = some (.eptr (.int .i64 (ms[k] : Int))) := idx_N ms k h
  have hln : lenOf (dNs ms) = some ms.length := by simp only [dNs, lenOf_dlist, List.length_map]
  have hq := nq_succ ms x k h
  cases hb : nq ms x k with
  | true =>
    rw [hb, Bool.true_and] at hq
    simp only [a_l13_SchemeQuantify_l0, EI, sy0, sy1, sy2, sy3, sy4, sy5, caseO_none, caseO_some, ifB_false, ifB_true, clearEnv, adel, mem, initEnv, initSlots, stepOp, wantedA, evalOp, callOf, panicOf, evalV, addr, opd, opds, aget, aset, adel1, lkill, lfree, readCells, nth, Env.put, Env.putV, Env.box, Env.bare, dropOwn, dropOwnS, binD, binBD, binBool, binInt, binStr, unD, mmD, AOpd.drop, Cell.of, AOp.kind, stableOf, sameKind, assertD, eqlB, isUndef, takeC, unownAt, fits, layCells, putCells, putD, fillD, partsOf, optLo, optHi, allSize, Option.getD_some, Option.getD_none, runDefers, readRes, readRes1, readRess, Nat.reduceAdd, Nat.reduceSub, Nat.reduceMul, Nat.reduceBEq, Nat.ble, Bool.false_and, Bool.true_and, Bool.and_true, Bool.and_false, Bool.or_true, Bool.true_or, Bool.or_false, Bool.false_or, Nat.zero_add, Nat.add_zero, beq_self_eq_true, Bool.true_beq, Bool.false_beq, Bool.not_true, Bool.not_false, decide_true, decide_false, bindO, List.map_cons, List.map_nil, List.length_cons, List.length_nil, List.append_nil, List.nil_append, List.cons_append, List.isEmpty_nil, List.isEmpty_cons, List.all_nil, List.all_cons, Nat.reduceLeDiff, Int.reduceBEq, Int.reduceBNe, Int.reduceLE, Int.reduceLT, Int.reduceGE, Int.reduceGT, Int.reduceNeg, Nat.le_refl, k_api_Type_sz, k_api_Type_ag, k_api_Type_same, k_api_Pred_sz, k_api_Pred_ag, k_api_Pred_same, k_string_sz, k_string_ag, k_string_same, k_int_sz, k_int_ag, k_int_same, k_api_Kind_sz, k_api_Kind_ag, k_api_Kind_same, nat1, nat2, nat3, nat4, nat5, nat6, nat7, nat8, idxL, hk, hx, hln, hb, hq, w1]
  | false =>
    rw [hb, Bool.false_and] at hq
    simp only [a_l13_SchemeQuantify_l0, EI, sy0, sy1, sy2, sy3, sy4, sy5, caseO_none, caseO_some, ifB_false, ifB_true, clearEnv, adel, mem, initEnv, initSlots, stepOp, wantedA, evalOp, callOf, panicOf, evalV, addr, opd, opds, aget, aset, adel1, lkill, lfree, readCells, nth, Env.put, Env.putV, Env.box, Env.bare, dropOwn, dropOwnS, binD, binBD, binBool, binInt, binStr, unD, mmD, AOpd.drop, Cell.of, AOp.kind, stableOf, sameKind, assertD, eqlB, isUndef, takeC, unownAt, fits, layCells, putCells, putD, fillD, partsOf, optLo, optHi, allSize, Option.getD_some, Option.getD_none, runDefers, readRes, readRes1, readRess, Nat.reduceAdd, Nat.reduceSub, Nat.reduceMul, Nat.reduceBEq, Nat.ble, Bool.false_and, Bool.true_and, Bool.and_true, Bool.and_false, Bool.or_true, Bool.true_or, Bool.or_false, Bool.false_or, Nat.zero_add, Nat.add_zero, beq_self_eq_true, Bool.true_beq, Bool.false_beq, Bool.not_true, Bool.not_false, decide_true, decide_false, bindO, List.map_cons, List.map_nil, List.length_cons, List.length_nil, List.append_nil, List.nil_append, List.cons_append, List.isEmpty_nil, List.isEmpty_cons, List.all_nil, List.all_cons, Nat.reduceLeDiff, Int.reduceBEq, Int.reduceBNe, Int.reduceLE, Int.reduceLT, Int.reduceGE, Int.reduceGT, Int.reduceNeg, Nat.le_refl, k_api_Type_sz, k_api_Type_ag, k_api_Type_same, k_api_Pred_sz, k_api_Pred_ag, k_api_Pred_same, k_string_sz, k_string_ag, k_string_same, k_int_sz, k_int_ag, k_int_same, k_api_Kind_sz, k_api_Kind_ag, k_api_Kind_same, nat1, nat2, nat3, nat4, nat5, nat6, nat7, nat8, idxL, hk, hx, hln, hb, hq, w1]
theorem lI_end (d2 : D) (bx : List Cell) (ms : List Nat) (i x : Nat) : exec C n a_l13_SchemeQuantify_l0 (EI d2 bx ms i x ms.length) σ = some (.exit 2, { EI d2 bx ms i x ms.length with slots := [(2, ⟨false, d2⟩), (8, ⟨ow ms.length, dNs ms⟩), (9, ⟨false, .int .i64 i⟩), (10, ⟨false, .int .i64 x⟩), (11, ⟨false, .bool (nq ms x ms.length)⟩), (12, ⟨false, .int .i64 ms.length⟩), (36, ⟨false, .bool false⟩)] }, σ) := by
  have hk : ¬ ((ms.length : Int) < (ms.length : Int)) := by omega
  have hln : lenOf (dNs ms) = some ms.length := by simp only [dNs, lenOf_dlist, List.length_map]
  simp only [a_l13_SchemeQuantify_l0, EI, sy0, sy1, sy2, sy3, sy4, sy5, caseO_none, caseO_some, ifB_false, ifB_true, clearEnv, adel, mem, initEnv, initSlots, stepOp, wantedA, evalOp, callOf, panicOf, evalV, addr, opd, opds, aget, aset, adel1, lkill, lfree, readCells, nth, Env.put, Env.putV, Env.box, Env.bare, dropOwn, dropOwnS, binD, binBD, binBool, binInt, binStr, unD, mmD, AOpd.drop, Cell.of, AOp.kind, stableOf, sameKind, assertD, eqlB, isUndef, takeC, unownAt, fits, layCells, putCells, putD, fillD, partsOf, optLo, optHi, allSize, Option.getD_some, Option.getD_none, runDefers, readRes, readRes1, readRess, Nat.reduceAdd, Nat.reduceSub, Nat.reduceMul, Nat.reduceBEq, Nat.ble, Bool.false_and, Bool.true_and, Bool.and_true, Bool.and_false, Bool.or_true, Bool.true_or, Bool.or_false, Bool.false_or, Nat.zero_add, Nat.add_zero, beq_self_eq_true, Bool.true_beq, Bool.false_beq, Bool.not_true, Bool.not_false, decide_true, decide_false, bindO, List.map_cons, List.map_nil, List.length_cons, List.length_nil, List.append_nil, List.nil_append, List.cons_append, List.isEmpty_nil, List.isEmpty_cons, List.all_nil, List.all_cons, Nat.reduceLeDiff, Int.reduceBEq, Int.reduceBNe, Int.reduceLE, Int.reduceLT, Int.reduceGE, Int.reduceGT, Int.reduceNeg, Nat.le_refl, k_api_Type_sz, k_api_Type_ag, k_api_Type_same, k_api_Pred_sz, k_api_Pred_ag, k_api_Pred_same, k_string_sz, k_string_ag, k_string_same, k_int_sz, k_int_ag, k_int_same, k_api_Kind_sz, k_api_Kind_ag, k_api_Kind_same, nat1, nat2, nat3, nat4, nat5, nat6, nat7, nat8, idxL, hk, hln]
/-- The numbers that are taken. -/
def mtA (xs : List Int) : Nat → List Nat
  | 0 => []
  | i + 1 => match xs[i]? with
    | some x => ifB (nq (mtA xs i) (aro x 6) (mtA xs i).length) (mtA xs i ++ [aro x 6]) (mtA xs i)
    | none => mtA xs i
theorem mtA_len (xs : List Int) : ∀ i, (mtA xs i).length ≤ i
  | 0 => Nat.le_refl _
  | i + 1 => by
    have := mtA_len xs i
    simp only [mtA]
    split
    · unfold ifB
      split
      · simp; omega
      · omega
    · omega
theorem mtA_lt (xs : List Int) : ∀ i, ∀ m ∈ mtA xs i, m < 6
  | 0, m, h => by simp [mtA] at h
  | i + 1, m, h => by
    have ih := mtA_lt xs i
    simp only [mtA] at h
    split at h
    · unfold ifB at h
      split at h
      · rw [List.mem_append, List.mem_singleton] at h
        rcases h with h | rfl
        · exact ih m h
        · exact aro_lt _ (by omega)
      · exact ih m h
    · exact ih m h
def EO (d2 : D) (bx : List Cell) (ms : List Nat) (i : Nat) : Env := { slots := [(2, ⟨false, d2⟩), (8, ⟨ow ms.length, dNs ms⟩), (9, ⟨false, .int .i64 i⟩)], locs := [(7, 7, 0)], boxes := [(7, bx)], defers := [] }
theorem lO_step (m : Nat) (d2 : D) (xs : List Int) (bx : List Cell) (i : Nat) (hR : Row d2 xs) (h : i < xs.length) (h5 : i < 5) (hm : 8 ≤ m) (hx6 : C n_r01_Around [.int .i64 xs[i], .int .i64 6] σ = some (.ret ⟨false, .int .i64 (aro xs[i] 6)⟩, σ)) :
    exec C m a_l13_SchemeQuantify_l1 (EO d2 bx (mtA xs i) i) σ = some (.normal, EO d2 bx (mtA xs (i + 1)) (i + 1), σ) := by
  have hml := mtA_len xs i
  have hn : mtA xs (i + 1) = ifB (nq (mtA xs i) (aro xs[i] 6) (mtA xs i).length) (mtA xs i ++ [aro xs[i] 6]) (mtA xs i) := by
    rw [mtA]
    rw [List.getElem?_eq_getElem h]
  generalize mtA xs i = ms at *
  have hln := row_len hR
  have hix := row_get hR i h
  have hi : ((i : Int) < (xs.length : Int)) := by omega
  have hi5 : ((i : Int) < 5) := by omega
  have w1 := wrap64_succ (i := i) (by omega)
  generalize aro xs[i] 6 = x at *
  have hloop := loopN_run (body := exec C m a_l13_SchemeQuantify_l0) (EI d2 bx ms i x) (fun _ => σ) ms.length (r := _) (fun _ _ h => by cases h) (fun k hk => lI_step d2 bx ms i x k hk (by omega)) (lI_end d2 bx ms i x) 0 m (by omega) (by omega)
  have h0 : nq ms x 0 = true := rfl
  have ha := append_N ms x (ow ms.length) (by cases ms with
    | nil => intro h; exact absurd rfl h
    | cons x r => intro _; rfl) (by omega)
  have how : ow (ms ++ [x]).length = true := by simp [ow_succ]
  rw [hn]
  simp only [EI, h0, zeroI, dNs] at hloop
  cases hb : nq ms x ms.length with
  | true =>
    rw [hb] at hloop
    rw [ifB_true]
    simp only [a_l13_SchemeQuantify_l1, EO, sy0, sy1, sy2, sy3, sy4, sy5, caseO_none, caseO_some, ifB_false, ifB_true, clearEnv, adel, mem, initEnv, initSlots, stepOp, wantedA, evalOp, callOf, panicOf, evalV, addr, opd, opds, aget, aset, adel1, lkill, lfree, readCells, nth, Env.put, Env.putV, Env.box, Env.bare, dropOwn, dropOwnS, binD, binBD, binBool, binInt, binStr, unD, mmD, AOpd.drop, Cell.of, AOp.kind, stableOf, sameKind, assertD, eqlB, isUndef, takeC, unownAt, fits, layCells, putCells, putD, fillD, partsOf, optLo, optHi, allSize, Option.getD_some, Option.getD_none, runDefers, readRes, readRes1, readRess, Nat.reduceAdd, Nat.reduceSub, Nat.reduceMul, Nat.reduceBEq, Nat.ble, Bool.false_and, Bool.true_and, Bool.and_true, Bool.and_false, Bool.or_true, Bool.true_or, Bool.or_false, Bool.false_or, Nat.zero_add, Nat.add_zero, beq_self_eq_true, Bool.true_beq, Bool.false_beq, Bool.not_true, Bool.not_false, decide_true, decide_false, bindO, List.map_cons, List.map_nil, List.length_cons, List.length_nil, List.append_nil, List.nil_append, List.cons_append, List.isEmpty_nil, List.isEmpty_cons, List.all_nil, List.all_cons, Nat.reduceLeDiff, Int.reduceBEq, Int.reduceBNe, Int.reduceLE, Int.reduceLT, Int.reduceGE, Int.reduceGT, Int.reduceNeg, Nat.le_refl, k_api_Type_sz, k_api_Type_ag, k_api_Type_same, k_api_Pred_sz, k_api_Pred_ag, k_api_Pred_same, k_string_sz, k_string_ag, k_string_same, k_int_sz, k_int_ag, k_int_same, k_api_Kind_sz, k_api_Kind_ag, k_api_Kind_same, nat1, nat2, nat3, nat4, nat5, nat6, nat7, nat8, idxL, hln, hi, hi5, hix, hx6, hloop, ha, how, w1, dNs]
  | false =>
    rw [hb] at hloop
    rw [ifB_false]
    simp only [a_l13_SchemeQuantify_l1, EO, sy0, sy1, sy2, sy3, sy4, sy5, caseO_none, caseO_some, ifB_false, ifB_true, clearEnv, adel, mem, initEnv, initSlots, stepOp, wantedA, evalOp, callOf, panicOf, evalV, addr, opd, opds, aget, aset, adel1, lkill, lfree, readCells, nth, Env.put, Env.putV, Env.box, Env.bare, dropOwn, dropOwnS, binD, binBD, binBool, binInt, binStr, unD, mmD, AOpd.drop, Cell.of, AOp.kind, stableOf, sameKind, assertD, eqlB, isUndef, takeC, unownAt, fits, layCells, putCells, putD, fillD, partsOf, optLo, optHi, allSize, Option.getD_some, Option.getD_none, runDefers, readRes, readRes1, readRess, Nat.reduceAdd, Nat.reduceSub, Nat.reduceMul, Nat.reduceBEq, Nat.ble, Bool.false_and, Bool.true_and, Bool.and_true, Bool.and_false, Bool.or_true, Bool.true_or, Bool.or_false, Bool.false_or, Nat.zero_add, Nat.add_zero, beq_self_eq_true, Bool.true_beq, Bool.false_beq, Bool.not_true, Bool.not_false, decide_true, decide_false, bindO, List.map_cons, List.map_nil, List.length_cons, List.length_nil, List.append_nil, List.nil_append, List.cons_append, List.isEmpty_nil, List.isEmpty_cons, List.all_nil, List.all_cons, Nat.reduceLeDiff, Int.reduceBEq, Int.reduceBNe, Int.reduceLE, Int.reduceLT, Int.reduceGE, Int.reduceGT, Int.reduceNeg, Nat.le_refl, k_api_Type_sz, k_api_Type_ag, k_api_Type_same, k_api_Pred_sz, k_api_Pred_ag, k_api_Pred_same, k_string_sz, k_string_ag, k_string_same, k_int_sz, k_int_ag, k_int_same, k_api_Kind_sz, k_api_Kind_ag, k_api_Kind_same, nat1, nat2, nat3, nat4, nat5, nat6, nat7, nat8, idxL, hln, hi, hi5, hix, hx6, hloop, w1, dNs]
theorem lO_end (d2 : D) (xs : List Int) (bx : List Cell) (ms : List Nat) (hR : Row d2 xs) : exec C n a_l13_SchemeQuantify_l1 (EO d2 bx ms (min xs.length 5)) σ = some (.exit 0, { EO d2 bx ms (min xs.length 5) with slots := [(2, ⟨false, d2⟩), (8, ⟨ow ms.length, dNs ms⟩), (9, ⟨false, .int .i64 (min xs.length 5 : Nat)⟩), (25, ⟨false, .bool false⟩)] }, σ) := by
  have hln := row_len hR
  by_cases h : xs.length ≤ 5
  · rw [Nat.min_eq_left h]
    have hi : ¬ ((xs.length : Int) < (xs.length : Int)) := by omega
    simp only [a_l13_SchemeQuantify_l1, EO, sy0, sy1, sy2, sy3, sy4, sy5, caseO_none, caseO_some, ifB_false, ifB_true, clearEnv, adel, mem, initEnv, initSlots, stepOp, wantedA, evalOp, callOf, panicOf, evalV, addr, opd, opds, aget, aset, adel1, lkill, lfree, readCells, nth, Env.put, Env.putV, Env.box, Env.bare, dropOwn, dropOwnS, binD, binBD, binBool, binInt, binStr, unD, mmD, AOpd.drop, Cell.of, AOp.kind, stableOf, sameKind, assertD, eqlB, isUndef, takeC, unownAt, fits, layCells, putCells, putD, fillD, partsOf, optLo, optHi, allSize, Option.getD_some, Option.getD_none, runDefers, readRes, readRes1, readRess, Nat.reduceAdd, Nat.reduceSub, Nat.reduceMul, Nat.reduceBEq, Nat.ble, Bool.false_and, Bool.true_and, Bool.and_true, Bool.and_false, Bool.or_true, Bool.true_or, Bool.or_false, Bool.false_or, Nat.zero_add, Nat.add_zero, beq_self_eq_true, Bool.true_beq, Bool.false_beq, Bool.not_true, Bool.not_false, decide_true, decide_false, bindO, List.map_cons, List.map_nil, List.length_cons, List.length_nil, List.append_nil, List.nil_append, List.cons_append, List.isEmpty_nil, List.isEmpty_cons, List.all_nil, List.all_cons, Nat.reduceLeDiff, Int.reduceBEq, Int.reduceBNe, Int.reduceLE, Int.reduceLT, Int.reduceGE, Int.reduceGT, Int.reduceNeg, Nat.le_refl, k_api_Type_sz, k_api_Type_ag, k_api_Type_same, k_api_Pred_sz, k_api_Pred_ag, k_api_Pred_same, k_string_sz, k_string_ag, k_string_same, k_int_sz, k_int_ag, k_int_same, k_api_Kind_sz, k_api_Kind_ag, k_api_Kind_same, nat1, nat2, nat3, nat4, nat5, nat6, nat7, nat8, idxL, hln, hi]
  · rw [Nat.min_eq_right (by omega)]
    have hi : (((5 : Nat) : Int) < (xs.length : Int)) := by omega
    have hi5 : ¬ (((5 : Nat) : Int) < 5) := by omega
    simp only [a_l13_SchemeQuantify_l1, EO, sy0, sy1, sy2, sy3, sy4, sy5, caseO_none, caseO_some, ifB_false, ifB_true, clearEnv, adel, mem, initEnv, initSlots, stepOp, wantedA, evalOp, callOf, panicOf, evalV, addr, opd, opds, aget, aset, adel1, lkill, lfree, readCells, nth, Env.put, Env.putV, Env.box, Env.bare, dropOwn, dropOwnS, binD, binBD, binBool, binInt, binStr, unD, mmD, AOpd.drop, Cell.of, AOp.kind, stableOf, sameKind, assertD, eqlB, isUndef, takeC, unownAt, fits, layCells, putCells, putD, fillD, partsOf, optLo, optHi, allSize, Option.getD_some, Option.getD_none, runDefers, readRes, readRes1, readRess, Nat.reduceAdd, Nat.reduceSub, Nat.reduceMul, Nat.reduceBEq, Nat.ble, Bool.false_and, Bool.true_and, Bool.and_true, Bool.and_false, Bool.or_true, Bool.true_or, Bool.or_false, Bool.false_or, Nat.zero_add, Nat.add_zero, beq_self_eq_true, Bool.true_beq, Bool.false_beq, Bool.not_true, Bool.not_false, decide_true, decide_false, bindO, List.map_cons, List.map_nil, List.length_cons, List.length_nil, List.append_nil, List.nil_append, List.cons_append, List.isEmpty_nil, List.isEmpty_cons, List.all_nil, List.all_cons, Nat.reduceLeDiff, Int.reduceBEq, Int.reduceBNe, Int.reduceLE, Int.reduceLT, Int.reduceGE, Int.reduceGT, Int.reduceNeg, Nat.le_refl, k_api_Type_sz, k_api_Type_ag, k_api_Type_same, k_api_Pred_sz, k_api_Pred_ag, k_api_Pred_same, k_string_sz, k_string_ag, k_string_same, k_int_sz, k_int_ag, k_int_same, k_api_Kind_sz, k_api_Kind_ag, k_api_Kind_same, nat1, nat2, nat3, nat4, nat5, nat6, nat7, nat8, idxL, hln, hi, hi5]
end
theorem law_quant (d d1 d2 : D) (xs ys zs : List Int) (hR : Row d xs) (hR1 : Row d1 ys) (hR2 : Row d2 zs) (hS : Smalls xs) (hS1 : Smalls ys) (hS2 : Smalls zs) : Evly fun n => ∃ σ', T n n_l13_SchemeQuantify [d, d1, d2] σ0 = some (.ret ⟨false, .bool true⟩, σ') := by
  obtain ⟨vs, ks, ps, t, hv, hp, hmade⟩ := made_run d d1 xs ys 2 hR hS hR1 hS1 (by unfold Small; omega)
  have r6 : Evly fun n => ∀ i, i < zs.length → ∀ (h : i < zs.length) σ, T n n_r01_Around [.int .i64 zs[i], .int .i64 6] σ = some (.ret ⟨false, .int .i64 (aro zs[i] 6)⟩, σ) :=
    Evly.below _ fun i hi => aroundL.mono fun n h _ σ => h _ 6 6 σ (hS2 _ (List.getElem_mem hi)) rfl (by omega) (by omega)
  have hml := mtA_len zs (min zs.length 5)
  have hmx := mtA_lt zs (min zs.length 5)
  have hml5 : (mtA zs (min zs.length 5)).length ≤ 5 := Nat.le_trans hml (Nat.min_le_right _ _)
  have hstep : ∀ m, 8 ≤ m → (∀ i, i < zs.length → ∀ (h : i < zs.length) σ, T m n_r01_Around [.int .i64 zs[i], .int .i64 6] σ = some (.ret ⟨false, .int .i64 (aro zs[i] 6)⟩, σ)) → ∀ bx, loopN (exec (T m) m a_l13_SchemeQuantify_l1) m (EO d2 bx (mtA zs 0) 0) σ0 = _ := fun m hm h bx =>
    loopN_run (body := exec (T m) m a_l13_SchemeQuantify_l1) (fun i => EO d2 bx (mtA zs i) i) (fun _ => σ0) (min zs.length 5) (r := _) (fun _ _ h => by cases h) (fun i hi => lO_step m d2 zs bx i hR2 (by omega) (by omega) hm (h i (by omega) (by omega) σ0)) (lO_end d2 zs bx (mtA zs (min zs.length 5)) hR2) 0 m (by omega) (by omega)
  have hsame := sequal_run ((mtA zs (min zs.length 5)).map tn) (ps.map (varP (mtA zs (min zs.length 5)))) (varT (mtA zs (min zs.length 5)) t) (by simp; omega) (by simp; omega)
  generalize mtA zs (min zs.length 5) = ms at *
  have hq := squant_run ms ps t hmx (by omega) (by omega)
  have hrq := rquant_run ms ps t hmx (by omega) (by omega)
  have hmono := mono_run t
  have hsame2 := sequal_run [] [] t (by simp) (by simp)
  refine (hmade.and (r6.and (hq.and (hrq.and (hmono.and (hsame.and (hsame2.and lives_run))))))).step 20 fun m hm h => ⟨bump σ0 ((stE ms ps).next + cnt t), ?_⟩
  obtain ⟨e1, e2, e3, e4, e5, e6, e7, e8⟩ := h
  have l1 := hstep m (by omega) e2 (bZ vs ks ps t)
  have f1 := e1 σ0
  generalize bump σ0 ((stE ms ps).next + cnt t) = σ1 at *
  have f4 := e4 σ1
  have f5 := e5 σ1
  have f6 := e6 σ1
  have f7 := e7 σ1
  have f8 := e8 σ1
  have z1 : dSs [] = .nils := rfl
  have z2 : dPs [] = .nils := rfl
  generalize hu : varT ms t = u at *
  rw [dT_eq t] at e3 f4 f5
  rw [z1, z2] at f7
  have hd : dNs (mtA zs 0) = .nils := rfl
  have hw : ow (mtA zs 0).length = false := rfl
  simp only [EO, bZ, bT, zeroI, hd, hw] at l1
  simp only [cT] at f1 e3 f4 f5 f6 f7
  rw [T_fun (af := a_l13_SchemeQuantify) rfl rfl]
  simp only [a_l13_SchemeQuantify, sy0, sy1, sy2, sy3, sy4, sy5, caseO_none, caseO_some, ifB_false, ifB_true, clearEnv, adel, mem, initEnv, initSlots, stepOp, wantedA, evalOp, callOf, panicOf, evalV, addr, opd, opds, aget, aset, adel1, lkill, lfree, readCells, nth, Env.put, Env.putV, Env.box, Env.bare, dropOwn, dropOwnS, binD, binBD, binBool, binInt, binStr, unD, mmD, AOpd.drop, Cell.of, AOp.kind, stableOf, sameKind, assertD, eqlB, isUndef, takeC, unownAt, fits, layCells, putCells, putD, fillD, partsOf, optLo, optHi, allSize, Option.getD_some, Option.getD_none, runDefers, readRes, readRes1, readRess, Nat.reduceAdd, Nat.reduceSub, Nat.reduceMul, Nat.reduceBEq, Nat.ble, Bool.false_and, Bool.true_and, Bool.and_true, Bool.and_false, Bool.or_true, Bool.true_or, Bool.or_false, Bool.false_or, Nat.zero_add, Nat.add_zero, beq_self_eq_true, Bool.true_beq, Bool.false_beq, Bool.not_true, Bool.not_false, decide_true, decide_false, bindO, List.map_cons, List.map_nil, List.length_cons, List.length_nil, List.append_nil, List.nil_append, List.cons_append, List.isEmpty_nil, List.isEmpty_cons, List.all_nil, List.all_cons, Nat.reduceLeDiff, Int.reduceBEq, Int.reduceBNe, Int.reduceLE, Int.reduceLT, Int.reduceGE, Int.reduceGT, Int.reduceNeg, Nat.le_refl, k_api_Type_sz, k_api_Type_ag, k_api_Type_same, k_api_Pred_sz, k_api_Pred_ag, k_api_Pred_same, k_string_sz, k_string_ag, k_string_same, k_int_sz, k_int_ag, k_int_same, k_api_Kind_sz, k_api_Kind_ag, k_api_Kind_same, nat1, nat2, nat3, nat4, nat5, nat6, nat7, nat8, idxL, zeroI, lit1, lit2, lit3, lit4, lit5, lit6, lit7, lit8, Mx.part, f1, l1, e3, f4, f5, f6, f7, f8]
end Go.Fu

