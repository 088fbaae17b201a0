/-
  Kinds are made, whatever the numbers.
-/
import Derived.Test.YtkgdpcnobfadaaaDoorFqG2
set_option linter.unusedSimpArgs false
set_option linter.unusedVariables false
namespace Go.Fu
open Go Go.Mx
set_option maxRecDepth 10000
def OkK (es : List D) : Prop := ∀ e ∈ es, e.ok = true ∧ e.cells.length = 1
def KOK (deep : Nat) (d : D) (xs : List Int) : Prop := ∃ es d' xs', OkK es ∧ es.length ≤ 2 ∧ Row d' xs' ∧ Smalls xs' ∧ Evly fun n => ∀ σ, T n n_r03_Made [d, .int .i64 deep] σ = some (.ret ⟨false, .tup [.agg [dlist k_api_Kind es], d']⟩, σ)
section
variable {C : CallF} {n : Nat} {σ : Store}
def Ek (d : D) (deep q i : Nat) (es : List D) : Env := { slots := [(0, ⟨false, d⟩), (1, ⟨false, .int .i64 deep⟩), (7, ⟨false, .int .i64 q⟩), (8, ⟨false, .int .i64 i⟩)], locs := [(4, 4, 0), (6, 6, 0)], boxes := [(4, [⟨false, .nils⟩]), (6, [⟨ow es.length, dlist k_api_Kind es⟩])], defers := [] }
def Eke (d : D) (deep q i : Nat) (es : List D) : Env := { slots := [(0, ⟨false, d⟩), (1, ⟨false, .int .i64 deep⟩), (7, ⟨false, .int .i64 q⟩), (8, ⟨false, .int .i64 i⟩), (30, ⟨false, .bool false⟩)], locs := [(4, 4, 0), (6, 6, 0)], boxes := [(4, [⟨false, .nils⟩]), (6, [⟨ow es.length, dlist k_api_Kind es⟩])], defers := [] }
theorem ok_agg1 (es : List D) : (D.agg [dlist k_api_Kind es]).ok = true ∧ (D.agg [dlist k_api_Kind es]).cells.length = 1 := by
  constructor
  · simp only [D.ok, List.all_cons, one_dlist, List.all_nil, Bool.and_self]
  · rfl
theorem lk_step (d d2 : D) (deep q i : Nat) (es es2 : List D) (hi : i < q) (hq : q ≤ 2) (hdp : deep < 100) (hes : es.length = i) (hc : C n_r03_Made [d, .int .i64 (deep + 1 : Nat)] σ = some (.ret ⟨false, .tup [.agg [dlist k_api_Kind es2], d2]⟩, σ)) :
    exec C n a_r03_Made_l0 (Ek d deep q i es) σ = some (.normal, Ek d2 deep q (i + 1) (es ++ [.agg [dlist k_api_Kind es2]]), σ) := by
  have h1 : ((i : Int) < (q : Int)) := by omega
  have w1 := wrap64_succ (i := deep) (by omega)
  have w2 := wrap64_succ (i := i) (by omega)
  have ha := append_one (r := k_api_Kind) (by_ := 24) (es := es) (o := ow es.length) (y := .agg [dlist k_api_Kind es2]) (by cases es with
    | nil => intro h; exact absurd rfl h
    | cons x r => intro _; rfl) (ok_agg1 es2).1 (ok_agg1 es2).2 (by simp [bound]; omega) (by simp [bound]; omega)
  have how : ow (es ++ [D.agg [dlist k_api_Kind es2]]).length = true := by simp [ow_succ]
  simp only [a_r03_Made_l0, Ek, sy0, sy1, sy2, sy3, sy4, sy5, caseO_none, caseO_some, ifB_false, ifB_true, clearEnv, adel, mem, initEnv, initSlots, stepOp, wantedA, evalOp, callOf, panicOf, evalV, addr, opd, opds, aget, aset, adel1, lkill, lfree, readCells, nth, Env.put, Env.putV, Env.box, Env.bare, dropOwn, dropOwnS, binD, binBD, binBool, binInt, binStr, unD, mmD, AOpd.drop, Cell.of, AOp.kind, stableOf, sameKind, assertD, eqlB, isUndef, takeC, unownAt, fits, layCells, putCells, putD, fillD, partsOf, optLo, optHi, allSize, Option.getD_some, Option.getD_none, runDefers, readRes, readRes1, readRess, Nat.reduceAdd, Nat.reduceSub, Nat.reduceMul, Nat.reduceBEq, Nat.ble, Bool.false_and, Bool.true_and, Bool.and_true, Bool.and_false, Bool.or_true, Bool.true_or, Bool.or_false, Bool.false_or, Nat.zero_add, Nat.add_zero, beq_self_eq_true, Bool.true_beq, Bool.false_beq, Bool.not_true, Bool.not_false, decide_true, decide_false, bindO, List.map_cons, List.map_nil, List.length_cons, List.length_nil, List.append_nil, List.nil_append, List.cons_append, List.isEmpty_nil, List.isEmpty_cons, List.all_nil, List.all_cons, Nat.reduceLeDiff, Int.reduceBEq, Int.reduceBNe, Int.reduceLE, Int.reduceLT, Int.reduceGE, Int.reduceGT, Int.reduceNeg, Nat.le_refl, k_api_Type_sz, k_api_Type_ag, k_api_Type_same, k_api_Pred_sz, k_api_Pred_ag, k_api_Pred_same, k_string_sz, k_string_ag, k_string_same, k_int_sz, k_int_ag, k_int_same, k_api_Kind_sz, k_api_Kind_ag, k_api_Kind_same, nat1, nat2, nat3, nat4, nat5, nat6, nat7, nat8, idxL, h1, w1, w2, hc, ha, how]
theorem lk_end (d : D) (deep q : Nat) (es : List D) : exec C n a_r03_Made_l0 (Ek d deep q q es) σ = some (.exit 0, Eke d deep q q es, σ) := by
  have h1 : ¬ ((q : Int) < (q : Int)) := by omega
  simp only [a_r03_Made_l0, Ek, Eke, sy0, sy1, sy2, sy3, sy4, sy5, caseO_none, caseO_some, ifB_false, ifB_true, clearEnv, adel, mem, initEnv, initSlots, stepOp, wantedA, evalOp, callOf, panicOf, evalV, addr, opd, opds, aget, aset, adel1, lkill, lfree, readCells, nth, Env.put, Env.putV, Env.box, Env.bare, dropOwn, dropOwnS, binD, binBD, binBool, binInt, binStr, unD, mmD, AOpd.drop, Cell.of, AOp.kind, stableOf, sameKind, assertD, eqlB, isUndef, takeC, unownAt, fits, layCells, putCells, putD, fillD, partsOf, optLo, optHi, allSize, Option.getD_some, Option.getD_none, runDefers, readRes, readRes1, readRess, Nat.reduceAdd, Nat.reduceSub, Nat.reduceMul, Nat.reduceBEq, Nat.ble, Bool.false_and, Bool.true_and, Bool.and_true, Bool.and_false, Bool.or_true, Bool.true_or, Bool.or_false, Bool.false_or, Nat.zero_add, Nat.add_zero, beq_self_eq_true, Bool.true_beq, Bool.false_beq, Bool.not_true, Bool.not_false, decide_true, decide_false, bindO, List.map_cons, List.map_nil, List.length_cons, List.length_nil, List.append_nil, List.nil_append, List.cons_append, List.isEmpty_nil, List.isEmpty_cons, List.all_nil, List.all_cons, Nat.reduceLeDiff, Int.reduceBEq, Int.reduceBNe, Int.reduceLE, Int.reduceLT, Int.reduceGE, Int.reduceGT, Int.reduceNeg, Nat.le_refl, k_api_Type_sz, k_api_Type_ag, k_api_Type_same, k_api_Pred_sz, k_api_Pred_ag, k_api_Pred_same, k_string_sz, k_string_ag, k_string_same, k_int_sz, k_int_ag, k_int_same, k_api_Kind_sz, k_api_Kind_ag, k_api_Kind_same, nat1, nat2, nat3, nat4, nat5, nat6, nat7, nat8, idxL, h1]
end
theorem okK_snoc {es : List D} (h : OkK es) (es2 : List D) : OkK (es ++ [.agg [dlist k_api_Kind es2]]) := by
  intro e he
  rcases List.mem_append.1 he with he | he
  · exact h e he
  · rw [List.mem_singleton.1 he]; exact ok_agg1 es2
theorem kind_loop (deep q : Nat) (hq : q ≤ 2) (hdp : deep < 100) (H : ∀ d xs, Row d xs → Smalls xs → KOK (deep + 1) d xs) : ∀ (c i : Nat) (d : D) (xs : List Int) (es : List D), i + c = q → Row d xs → Smalls xs → OkK es → es.length = i →
    ∃ d' xs' es', Row d' xs' ∧ Smalls xs' ∧ OkK es' ∧ es'.length ≤ 2 ∧ Evly fun m => ∀ k σ, c + 1 ≤ k → loopN (exec (T m) m a_r03_Made_l0) k (Ek d deep q i es) σ = some (.exit 0, Eke d' deep q q es', σ)
  | 0, i, d, xs, es, hc, hR, hS, hK, hl => ⟨d, xs, es, hR, hS, hK, by omega, .all fun m k σ hk => by
    obtain ⟨k, rfl⟩ : ∃ j, k = j + 1 := ⟨k - 1, by omega⟩
    have : i = q := by omega
    subst this
    exact loopN_one (lk_end d deep i es)⟩
  | c + 1, i, d, xs, es, hc, hR, hS, hK, hl => by
    obtain ⟨es2, d2, xs2, hK2, _, hR2, hS2, h2⟩ := H d xs hR hS
    obtain ⟨d', xs', es', hR', hS', hK', hl', hrest⟩ := kind_loop deep q hq hdp H c (i + 1) d2 xs2 _ (by omega) hR2 hS2 (okK_snoc hK es2) (by simp; omega)
    refine ⟨d', xs', es', hR', hS', hK', hl', (hrest.and h2).mono fun m h k σ hk => ?_⟩
    obtain ⟨k, rfl⟩ : ∃ j, k = j + 1 := ⟨k - 1, by omega⟩
    rw [loopN_more (lk_step d d2 deep q i es es2 (by omega) hq hdp hl (h.2 σ))]
    exact h.1 k σ (by omega)
theorem kmade_ok : ∀ (r deep : Nat), deep + r = 4 → ∀ d xs, Row d xs → Smalls xs → KOK deep d xs
  | _, deep, hr, d, [], hR, hS => by
    refine ⟨[], d, [], (fun e he => by cases he), by simp, hR, hS, any _ fun n σ => ?_⟩
    have hl := row_len hR
    rw [T_fun (af := a_r03_Made) rfl rfl]
    simp only [List.length_nil] at hl
    simp only [a_r03_Made, sy0, sy1, sy2, sy3, sy4, sy5, caseO_none, caseO_some, ifB_false, ifB_true, clearEnv, adel, mem, initEnv, initSlots, stepOp, wantedA, evalOp, callOf, panicOf, evalV, addr, opd, opds, aget, aset, adel1, lkill, lfree, readCells, nth, Env.put, Env.putV, Env.box, Env.bare, dropOwn, dropOwnS, binD, binBD, binBool, binInt, binStr, unD, mmD, AOpd.drop, Cell.of, AOp.kind, stableOf, sameKind, assertD, eqlB, isUndef, takeC, unownAt, fits, layCells, putCells, putD, fillD, partsOf, optLo, optHi, allSize, Option.getD_some, Option.getD_none, runDefers, readRes, readRes1, readRess, Nat.reduceAdd, Nat.reduceSub, Nat.reduceMul, Nat.reduceBEq, Nat.ble, Bool.false_and, Bool.true_and, Bool.and_true, Bool.and_false, Bool.or_true, Bool.true_or, Bool.or_false, Bool.false_or, Nat.zero_add, Nat.add_zero, beq_self_eq_true, Bool.true_beq, Bool.false_beq, Bool.not_true, Bool.not_false, decide_true, decide_false, bindO, List.map_cons, List.map_nil, List.length_cons, List.length_nil, List.append_nil, List.nil_append, List.cons_append, List.isEmpty_nil, List.isEmpty_cons, List.all_nil, List.all_cons, Nat.reduceLeDiff, Int.reduceBEq, Int.reduceBNe, Int.reduceLE, Int.reduceLT, Int.reduceGE, Int.reduceGT, Int.reduceNeg, Nat.le_refl, k_api_Type_sz, k_api_Type_ag, k_api_Type_same, k_api_Pred_sz, k_api_Pred_ag, k_api_Pred_same, k_string_sz, k_string_ag, k_string_same, k_int_sz, k_int_ag, k_int_same, k_api_Kind_sz, k_api_Kind_ag, k_api_Kind_same, nat1, nat2, nat3, nat4, nat5, nat6, nat7, nat8, idxL, hl, zeroI, lit1, lit2, lit3, lit4, lit5, lit6, lit7, lit8, dlist_nil]
  | 0, deep, hr, d, x :: xs, hR, hS => by
    refine ⟨[], d, _, (fun e he => by cases he), by simp, hR, hS, any _ fun n σ => ?_⟩
    have hl := row_len hR
    have hdp : (deep : Int) > 3 := by omega
    have hne : ((((x :: xs).length : Nat) : Int) == 0) = false := by simp; omega
    rw [T_fun (af := a_r03_Made) rfl rfl]
    generalize (x :: xs).length = l at hl hne
    simp only [a_r03_Made, sy0, sy1, sy2, sy3, sy4, sy5, caseO_none, caseO_some, ifB_false, ifB_true, clearEnv, adel, mem, initEnv, initSlots, stepOp, wantedA, evalOp, callOf, panicOf, evalV, addr, opd, opds, aget, aset, adel1, lkill, lfree, readCells, nth, Env.put, Env.putV, Env.box, Env.bare, dropOwn, dropOwnS, binD, binBD, binBool, binInt, binStr, unD, mmD, AOpd.drop, Cell.of, AOp.kind, stableOf, sameKind, assertD, eqlB, isUndef, takeC, unownAt, fits, layCells, putCells, putD, fillD, partsOf, optLo, optHi, allSize, Option.getD_some, Option.getD_none, runDefers, readRes, readRes1, readRess, Nat.reduceAdd, Nat.reduceSub, Nat.reduceMul, Nat.reduceBEq, Nat.ble, Bool.false_and, Bool.true_and, Bool.and_true, Bool.and_false, Bool.or_true, Bool.true_or, Bool.or_false, Bool.false_or, Nat.zero_add, Nat.add_zero, beq_self_eq_true, Bool.true_beq, Bool.false_beq, Bool.not_true, Bool.not_false, decide_true, decide_false, bindO, List.map_cons, List.map_nil, List.length_cons, List.length_nil, List.append_nil, List.nil_append, List.cons_append, List.isEmpty_nil, List.isEmpty_cons, List.all_nil, List.all_cons, Nat.reduceLeDiff, Int.reduceBEq, Int.reduceBNe, Int.reduceLE, Int.reduceLT, Int.reduceGE, Int.reduceGT, Int.reduceNeg, Nat.le_refl, k_api_Type_sz, k_api_Type_ag, k_api_Type_same, k_api_Pred_sz, k_api_Pred_ag, k_api_Pred_same, k_string_sz, k_string_ag, k_string_same, k_int_sz, k_int_ag, k_int_same, k_api_Kind_sz, k_api_Kind_ag, k_api_Kind_same, nat1, nat2, nat3, nat4, nat5, nat6, nat7, nat8, idxL, hl, hdp, hne, dlist_nil]
  | r + 1, deep, hr, d, x :: xs, hR, hS => by
    obtain ⟨d1, hs, hR1⟩ := row_tail hR
    have hS1 : Smalls xs := fun y hy => hS y (List.mem_cons_of_mem _ hy)
    have hl := row_len hR
    have hx := row_get hR 0 (by simp)
    simp only [List.getElem_cons_zero] at hx
    have hpick : Evly fun n => ∀ σ, T n n_r01_Around [.int .i64 x, .int .i64 4] σ = some (.ret ⟨false, .int .i64 (aro x 4)⟩, σ) := aroundL.mono fun n h σ => h x 4 4 σ (hS x (by simp)) rfl (by omega) (by omega)
    have hn := aro_lt x (m := 4) (by omega)
    generalize aro x 4 = n at hpick hn
    have hdp : ¬ ((deep : Int) > 3) := by omega
    have hne : ((((x :: xs).length : Nat) : Int) == 0) = false := by simp; omega
    generalize (x :: xs).length = l at hl hne
    have H : ∀ d xs, Row d xs → Smalls xs → KOK (deep + 1) d xs := fun d xs h1 h2 => kmade_ok r (deep + 1) (by omega) d xs h1 h2
    by_cases h3 : n ≤ 2
    · obtain ⟨d', xs', es', hR', hS', hK', hl', hloop⟩ := kind_loop deep n h3 (by omega) H n 0 d1 xs [] (by omega) hR1 hS1 (fun e he => by cases he) rfl
      refine ⟨es', d', xs', hK', hl', hR', hS', (hpick.and hloop).step 4 fun m hm h σ => ?_⟩
      have e1 := h.1 σ
      have e2 := h.2 m σ (by omega)
      have hn2 : ¬ ((n : Int) > 2) := by omega
      rw [T_fun (af := a_r03_Made) rfl rfl]
      simp only [Ek, Eke, dlist_nil, List.length_nil, ow_zero, zeroI] at e2
      simp only [a_r03_Made, sy0, sy1, sy2, sy3, sy4, sy5, caseO_none, caseO_some, ifB_false, ifB_true, clearEnv, adel, mem, initEnv, initSlots, stepOp, wantedA, evalOp, callOf, panicOf, evalV, addr, opd, opds, aget, aset, adel1, lkill, lfree, readCells, nth, Env.put, Env.putV, Env.box, Env.bare, dropOwn, dropOwnS, binD, binBD, binBool, binInt, binStr, unD, mmD, AOpd.drop, Cell.of, AOp.kind, stableOf, sameKind, assertD, eqlB, isUndef, takeC, unownAt, fits, layCells, putCells, putD, fillD, partsOf, optLo, optHi, allSize, Option.getD_some, Option.getD_none, runDefers, readRes, readRes1, readRess, Nat.reduceAdd, Nat.reduceSub, Nat.reduceMul, Nat.reduceBEq, Nat.ble, Bool.false_and, Bool.true_and, Bool.and_true, Bool.and_false, Bool.or_true, Bool.true_or, Bool.or_false, Bool.false_or, Nat.zero_add, Nat.add_zero, beq_self_eq_true, Bool.true_beq, Bool.false_beq, Bool.not_true, Bool.not_false, decide_true, decide_false, bindO, List.map_cons, List.map_nil, List.length_cons, List.length_nil, List.append_nil, List.nil_append, List.cons_append, List.isEmpty_nil, List.isEmpty_cons, List.all_nil, List.all_cons, Nat.reduceLeDiff, Int.reduceBEq, Int.reduceBNe, Int.reduceLE, Int.reduceLT, Int.reduceGE, Int.reduceGT, Int.reduceNeg, Nat.le_refl, k_api_Type_sz, k_api_Type_ag, k_api_Type_same, k_api_Pred_sz, k_api_Pred_ag, k_api_Pred_same, k_string_sz, k_string_ag, k_string_same, k_int_sz, k_int_ag, k_int_same, k_api_Kind_sz, k_api_Kind_ag, k_api_Kind_same, nat1, nat2, nat3, nat4, nat5, nat6, nat7, nat8, idxL, hl, hx, hs, e1, e2, hne, hdp, hn2]
    · obtain ⟨d', xs', es', hR', hS', hK', hl', hloop⟩ := kind_loop deep 0 (by omega) (by omega) H 0 0 d1 xs [] (by omega) hR1 hS1 (fun e he => by cases he) rfl
      refine ⟨es', d', xs', hK', hl', hR', hS', (hpick.and hloop).step 4 fun m hm h σ => ?_⟩
      have e1 := h.1 σ
      have e2 := h.2 m σ (by omega)
      have hn2 : ((n : Int) > 2) := by omega
      rw [T_fun (af := a_r03_Made) rfl rfl]
      simp only [Ek, Eke, dlist_nil, List.length_nil, ow_zero, zeroI] at e2
      simp only [a_r03_Made, sy0, sy1, sy2, sy3, sy4, sy5, caseO_none, caseO_some, ifB_false, ifB_true, clearEnv, adel, mem, initEnv, initSlots, stepOp, wantedA, evalOp, callOf, panicOf, evalV, addr, opd, opds, aget, aset, adel1, lkill, lfree, readCells, nth, Env.put, Env.putV, Env.box, Env.bare, dropOwn, dropOwnS, binD, binBD, binBool, binInt, binStr, unD, mmD, AOpd.drop, Cell.of, AOp.kind, stableOf, sameKind, assertD, eqlB, isUndef, takeC, unownAt, fits, layCells, putCells, putD, fillD, partsOf, optLo, optHi, allSize, Option.getD_some, Option.getD_none, runDefers, readRes, readRes1, readRess, Nat.reduceAdd, Nat.reduceSub, Nat.reduceMul, Nat.reduceBEq, Nat.ble, Bool.false_and, Bool.true_and, Bool.and_true, Bool.and_false, Bool.or_true, Bool.true_or, Bool.or_false, Bool.false_or, Nat.zero_add, Nat.add_zero, beq_self_eq_true, Bool.true_beq, Bool.false_beq, Bool.not_true, Bool.not_false, decide_true, decide_false, bindO, List.map_cons, List.map_nil, List.length_cons, List.length_nil, List.append_nil, List.nil_append, List.cons_append, List.isEmpty_nil, List.isEmpty_cons, List.all_nil, List.all_cons, Nat.reduceLeDiff, Int.reduceBEq, Int.reduceBNe, Int.reduceLE, Int.reduceLT, Int.reduceGE, Int.reduceGT, Int.reduceNeg, Nat.le_refl, k_api_Type_sz, k_api_Type_ag, k_api_Type_same, k_api_Pred_sz, k_api_Pred_ag, k_api_Pred_same, k_string_sz, k_string_ag, k_string_same, k_int_sz, k_int_ag, k_int_same, k_api_Kind_sz, k_api_Kind_ag, k_api_Kind_same, nat1, nat2, nat3, nat4, nat5, nat6, nat7, nat8, idxL, hl, hx, hs, e1, e2, hne, hdp, hn2]
theorem kind_run (d : D) (xs : List Int) (hR : Row d xs) (hS : Smalls xs) : ∃ es, Evly fun n => ∀ σ, T n n_r03_Kind [d] σ = some (.ret ⟨false, .agg [dlist k_api_Kind es]⟩, σ) := by
  obtain ⟨d1, hR1, o, h1⟩ := ints_run d xs 12 hR (by omega)
  obtain ⟨es, d2, xs2, _, _, _, _, h2⟩ := kmade_ok 4 0 (by omega) d1 _ hR1 (smalls_take hS 12)
  refine ⟨es, (h1.and h2).step 0 fun m _ h σ => ?_⟩
  have e1 := h.1 σ
  have e2 := h.2 σ
  rw [T_fun (af := a_r03_Kind) rfl rfl]
  have l12 : ((12 : Nat) : Int) = 12 := rfl
  simp only [l12, zeroI] at e1 e2 ⊢
  simp only [a_r03_Kind, sy0, sy1, sy2, sy3, sy4, sy5, caseO_none, caseO_some, ifB_false, ifB_true, clearEnv, adel, mem, initEnv, initSlots, stepOp, wantedA, evalOp, callOf, panicOf, evalV, addr, opd, opds, aget, aset, adel1, lkill, lfree, readCells, nth, Env.put, Env.putV, Env.box, Env.bare, dropOwn, dropOwnS, binD, binBD, binBool, binInt, binStr, unD, mmD, AOpd.drop, Cell.of, AOp.kind, stableOf, sameKind, assertD, eqlB, isUndef, takeC, unownAt, fits, layCells, putCells, putD, fillD, partsOf, optLo, optHi, allSize, Option.getD_some, Option.getD_none, runDefers, readRes, readRes1, readRess, Nat.reduceAdd, Nat.reduceSub, Nat.reduceMul, Nat.reduceBEq, Nat.ble, Bool.false_and, Bool.true_and, Bool.and_true, Bool.and_false, Bool.or_true, Bool.true_or, Bool.or_false, Bool.false_or, Nat.zero_add, Nat.add_zero, beq_self_eq_true, Bool.true_beq, Bool.false_beq, Bool.not_true, Bool.not_false, decide_true, decide_false, bindO, List.map_cons, List.map_nil, List.length_cons, List.length_nil, List.append_nil, List.nil_append, List.cons_append, List.isEmpty_nil, List.isEmpty_cons, List.all_nil, List.all_cons, Nat.reduceLeDiff, Int.reduceBEq, Int.reduceBNe, Int.reduceLE, Int.reduceLT, Int.reduceGE, Int.reduceGT, Int.reduceNeg, Nat.le_refl, k_api_Type_sz, k_api_Type_ag, k_api_Type_same, k_api_Pred_sz, k_api_Pred_ag, k_api_Pred_same, k_string_sz, k_string_ag, k_string_same, k_int_sz, k_int_ag, k_int_same, k_api_Kind_sz, k_api_Kind_ag, k_api_Kind_same, nat1, nat2, nat3, nat4, nat5, nat6, nat7, nat8, idxL, e1, e2]
end Go.Fu

