/-
  Schemes are made, whatever the numbers.
-/
import Derived.Test.YtkgdpcnobfadaaaDoorFqG3
set_option linter.unusedSimpArgs false
set_option linter.unusedVariables false
namespace Go.Fu
open Go Go.Mx
set_option maxRecDepth 10000
def vnS (n : Nat) : List UInt8 := match n with
  | 0 => [97]
  | 1 => [98]
  | 2 => [99]
  | 3 => [120]
  | _ => [102]
theorem vn_get (n : Nat) : nth [D.str [97], D.str [98], D.str [99], D.str [120], D.str [102]] (n % 5) = some (.str (vnS (n % 5))) := by
  have hk : n % 5 = 0 ∨ n % 5 = 1 ∨ n % 5 = 2 ∨ n % 5 = 3 ∨ n % 5 = 4 := by omega
  rcases hk with hk | hk | hk | hk | hk <;> rw [hk] <;> rfl
/-- The first so many variables. -/
def vnL (a : Nat) : Nat → List (List UInt8)
  | 0 => []
  | i + 1 => vnL a i ++ [vnS ((i + a) % 5)]
theorem vnL_len (a : Nat) : ∀ i, (vnL a i).length = i
  | 0 => rfl
  | i + 1 => by simp [vnL, vnL_len a i]
def kdL (K : Nat → List D) : Nat → List D
  | 0 => []
  | i + 1 => kdL K i ++ [.agg [dlist k_api_Kind (K i)]]
theorem kdL_len (K : Nat → List D) : ∀ i, (kdL K i).length = i
  | 0 => rfl
  | i + 1 => by simp [kdL, kdL_len K i]
theorem small_wrap (z : Int) : Small (IntKind.i64.wrap z) := by
  unfold Small
  rw [IntKind.wrap_i64]
  omega
theorem small_tdiv {x : Int} (h : Small x) (m : Nat) : Small (x.tdiv (m : Int)) := by
  unfold Small at *
  by_cases h0 : 0 ≤ x
  · rw [Int.tdiv_eq_ediv_of_nonneg h0]
    have e1 := Int.ediv_le_self (m : Int) h0
    have e2 := Int.ediv_nonneg h0 (show (0 : Int) ≤ m by omega)
    generalize x / (m : Int) = y at *
    omega
  · obtain ⟨y, rfl⟩ : ∃ y, x = -y := ⟨-x, by omega⟩
    have hy : 0 ≤ y := by omega
    rw [Int.neg_tdiv, Int.tdiv_eq_ediv_of_nonneg hy]
    have e1 := Int.ediv_le_self (m : Int) hy
    have e2 := Int.ediv_nonneg hy (show (0 : Int) ≤ m by omega)
    generalize y / (m : Int) = z at *
    omega
section
variable {C : CallF} {n : Nat} {σ : Store}
def bM (vs : List (List UInt8)) (ks : List D) (ps : List Pr) (t : Tp) : List Cell := ⟨ow vs.length, dlist k_string (vs.map D.str)⟩ :: ⟨ow ks.length, dlist k_api_Kind ks⟩ :: ⟨false, dlist k_api_Pred (ps.map dP)⟩ :: bT t
def b0 : List Cell := [⟨false, .nils⟩, ⟨false, .nils⟩, ⟨false, .nils⟩, ⟨false, .int .i64 0⟩, ⟨false, .int .i64 0⟩, ⟨false, .str []⟩, ⟨false, .nils⟩]
def Em (x : Int) (q i : Nat) (vs : List (List UInt8)) (ks : List D) (ps : List Pr) (t : Tp) : Env := { slots := [(2, ⟨false, .int .i64 x⟩), (8, ⟨false, .int .i64 q⟩), (9, ⟨false, .int .i64 i⟩)], locs := [(6, 6, 0), (7, 7, 0)], boxes := [(6, b0), (7, bM vs ks ps t)], defers := [] }
def Eme (x : Int) (q i : Nat) (vs : List (List UInt8)) (ks : List D) (ps : List Pr) (t : Tp) : Env := { slots := [(2, ⟨false, .int .i64 x⟩), (8, ⟨false, .int .i64 q⟩), (9, ⟨false, .int .i64 i⟩), (26, ⟨false, .bool false⟩)], locs := [(6, 6, 0), (7, 7, 0)], boxes := [(6, b0), (7, bM vs ks ps t)], defers := [] }
theorem lm_end (x : Int) (q : Nat) (vs : List (List UInt8)) (ks : List D) (ps : List Pr) (t : Tp) : exec C n a_r13_Made_l0 (Em x q q vs ks ps t) σ = some (.exit 0, Eme x q q vs ks ps t, σ) := by
  have h1 : ¬ ((q : Int) < (q : Int)) := by omega
  simp only [a_r13_Made_l0, Em, Eme, bM, b0, bT, sy0, sy1, sy2, sy3, sy4, sy5, caseO_none, caseO_some, ifB_false, ifB_true, clearEnv, adel, mem, initEnv, initSlots, stepOp, wantedA, evalOp, callOf, panicOf, evalV, addr, opd, opds, aget, aset, adel1, lkill, lfree, readCells, nth, Env.put, Env.putV, Env.box, Env.bare, dropOwn, dropOwnS, binD, binBD, binBool, binInt, binStr, unD, mmD, AOpd.drop, Cell.of, AOp.kind, stableOf, sameKind, assertD, eqlB, isUndef, takeC, unownAt, fits, layCells, putCells, putD, fillD, partsOf, optLo, optHi, allSize, Option.getD_some, Option.getD_none, runDefers, readRes, readRes1, readRess, Nat.reduceAdd, Nat.reduceSub, Nat.reduceMul, Nat.reduceBEq, Nat.ble, Bool.false_and, Bool.true_and, Bool.and_true, Bool.and_false, Bool.or_true, Bool.true_or, Bool.or_false, Bool.false_or, Nat.zero_add, Nat.add_zero, beq_self_eq_true, Bool.true_beq, Bool.false_beq, Bool.not_true, Bool.not_false, decide_true, decide_false, bindO, List.map_cons, List.map_nil, List.length_cons, List.length_nil, List.append_nil, List.nil_append, List.cons_append, List.isEmpty_nil, List.isEmpty_cons, List.all_nil, List.all_cons, Nat.reduceLeDiff, Int.reduceBEq, Int.reduceBNe, Int.reduceLE, Int.reduceLT, Int.reduceGE, Int.reduceGT, Int.reduceNeg, Nat.le_refl, k_api_Type_sz, k_api_Type_ag, k_api_Type_same, k_api_Pred_sz, k_api_Pred_ag, k_api_Pred_same, k_string_sz, k_string_ag, k_string_same, k_int_sz, k_int_ag, k_int_same, k_api_Kind_sz, k_api_Kind_ag, k_api_Kind_same, nat1, nat2, nat3, nat4, nat5, nat6, nat7, nat8, idxL, h1]
theorem lm_plain (x : Int) (q i a b : Nat) (vs : List (List UInt8)) (ks : List D) (ps : List Pr) (t : Tp) (hi : i < q) (hq : q < 100) (ha : a < 100) (hv : vs.length = i) (hb : b ≠ 1)
    (w18 : IntKind.i64.wrap (x.tdiv 18) = x.tdiv 18) (w90 : IntKind.i64.wrap (x.tdiv 90) = x.tdiv 90)
    (hc1 : C n_r01_Around [.int .i64 (x.tdiv 18), .int .i64 5] σ = some (.ret ⟨false, .int .i64 a⟩, σ)) (hc2 : C n_r01_Around [.int .i64 (x.tdiv 90), .int .i64 2] σ = some (.ret ⟨false, .int .i64 b⟩, σ)) :
    exec C n a_r13_Made_l0 (Em x q i vs ks ps t) σ = some (.normal, Em x q (i + 1) (vs ++ [vnS ((i + a) % 5)]) ks ps t, σ) := by
  have h1 : ((i : Int) < (q : Int)) := by omega
  have w1 := wrap64_succ (i := i) (by omega)
  have w2 : IntKind.i64.wrap ((i : Int) + (a : Int)) = ((i + a : Nat) : Int) := by rw [wrap64 (by omega) (by omega)]; omega
  have w3 : (((i + a : Nat) : Int)).tmod 5 = (((i + a) % 5 : Nat) : Int) := tmodN _ 5
  have hx := vn_get (i + a)
  have hap := append_S vs (vnS ((i + a) % 5)) (ow vs.length) (by cases vs with
    | nil => intro h; exact absurd rfl h
    | cons x r => intro _; rfl) (by omega)
  have how : ow (vs ++ [vnS ((i + a) % 5)]).length = true := by simp [ow_succ]
  have hb1 : (((b : Nat) : Int) == 1) = false := by simp; omega
  simp only [a_r13_Made_l0, Em, bM, b0, bT, sy0, sy1, sy2, sy3, sy4, sy5, caseO_none, caseO_some, ifB_false, ifB_true, clearEnv, adel, mem, initEnv, initSlots, stepOp, wantedA, evalOp, callOf, panicOf, evalV, addr, opd, opds, aget, aset, adel1, lkill, lfree, readCells, nth, Env.put, Env.putV, Env.box, Env.bare, dropOwn, dropOwnS, binD, binBD, binBool, binInt, binStr, unD, mmD, AOpd.drop, Cell.of, AOp.kind, stableOf, sameKind, assertD, eqlB, isUndef, takeC, unownAt, fits, layCells, putCells, putD, fillD, partsOf, optLo, optHi, allSize, Option.getD_some, Option.getD_none, runDefers, readRes, readRes1, readRess, Nat.reduceAdd, Nat.reduceSub, Nat.reduceMul, Nat.reduceBEq, Nat.ble, Bool.false_and, Bool.true_and, Bool.and_true, Bool.and_false, Bool.or_true, Bool.true_or, Bool.or_false, Bool.false_or, Nat.zero_add, Nat.add_zero, beq_self_eq_true, Bool.true_beq, Bool.false_beq, Bool.not_true, Bool.not_false, decide_true, decide_false, bindO, List.map_cons, List.map_nil, List.length_cons, List.length_nil, List.append_nil, List.nil_append, List.cons_append, List.isEmpty_nil, List.isEmpty_cons, List.all_nil, List.all_cons, Nat.reduceLeDiff, Int.reduceBEq, Int.reduceBNe, Int.reduceLE, Int.reduceLT, Int.reduceGE, Int.reduceGT, Int.reduceNeg, Nat.le_refl, k_api_Type_sz, k_api_Type_ag, k_api_Type_same, k_api_Pred_sz, k_api_Pred_ag, k_api_Pred_same, k_string_sz, k_string_ag, k_string_same, k_int_sz, k_int_ag, k_int_same, k_api_Kind_sz, k_api_Kind_ag, k_api_Kind_same, nat1, nat2, nat3, nat4, nat5, nat6, nat7, nat8, idxL, h1, w1, w2, w3, w18, w90, hc1, hc2, hx, hap, how, hb1]
theorem lm_kind (x : Int) (q i a : Nat) (vs : List (List UInt8)) (ks : List D) (ps : List Pr) (t : Tp) (K : List D) (hi : i < q) (hq : q < 100) (ha : a < 100) (hv : vs.length = i) (hk : ks.length = i)
    (w18 : IntKind.i64.wrap (x.tdiv 18) = x.tdiv 18) (w90 : IntKind.i64.wrap (x.tdiv 90) = x.tdiv 90) (w7 : IntKind.i64.wrap (x.tdiv 7) = x.tdiv 7)
    (hc1 : C n_r01_Around [.int .i64 (x.tdiv 18), .int .i64 5] σ = some (.ret ⟨false, .int .i64 a⟩, σ)) (hc2 : C n_r01_Around [.int .i64 (x.tdiv 90), .int .i64 2] σ = some (.ret ⟨false, .int .i64 1⟩, σ))
    (hc3 : C n_r03_Kind [.list k_int [.int .i64 (IntKind.i64.wrap (x + i)), .int .i64 i, .int .i64 (x.tdiv 7), .int .i64 (IntKind.i64.wrap (i * x))]] σ = some (.ret ⟨false, .agg [dlist k_api_Kind K]⟩, σ)) :
    exec C n a_r13_Made_l0 (Em x q i vs ks ps t) σ = some (.normal, Em x q (i + 1) (vs ++ [vnS ((i + a) % 5)]) (ks ++ [.agg [dlist k_api_Kind K]]) ps t, σ) := by
  have h1 : ((i : Int) < (q : Int)) := by omega
  have w1 := wrap64_succ (i := i) (by omega)
  have w2 : IntKind.i64.wrap ((i : Int) + (a : Int)) = ((i + a : Nat) : Int) := by rw [wrap64 (by omega) (by omega)]; omega
  have w3 : (((i + a : Nat) : Int)).tmod 5 = (((i + a) % 5 : Nat) : Int) := tmodN _ 5
  have hx := vn_get (i + a)
  have hap := append_S vs (vnS ((i + a) % 5)) (ow vs.length) (by cases vs with
    | nil => intro h; exact absurd rfl h
    | cons x r => intro _; rfl) (by omega)
  have hak := append_one (r := k_api_Kind) (by_ := 24) (es := ks) (o := ow ks.length) (y := .agg [dlist k_api_Kind K]) (by cases ks with
    | nil => intro h; exact absurd rfl h
    | cons x r => intro _; rfl) (ok_agg1 K).1 (ok_agg1 K).2 (by simp [bound]; omega) (by simp [bound]; omega)
  have how : ow (vs ++ [vnS ((i + a) % 5)]).length = true := by simp [ow_succ]
  have how2 : ow (ks ++ [D.agg [dlist k_api_Kind K]]).length = true := by simp [ow_succ]
  simp only [a_r13_Made_l0, Em, bM, b0, bT, sy0, sy1, sy2, sy3, sy4, sy5, caseO_none, caseO_some, ifB_false, ifB_true, clearEnv, adel, mem, initEnv, initSlots, stepOp, wantedA, evalOp, callOf, panicOf, evalV, addr, opd, opds, aget, aset, adel1, lkill, lfree, readCells, nth, Env.put, Env.putV, Env.box, Env.bare, dropOwn, dropOwnS, binD, binBD, binBool, binInt, binStr, unD, mmD, AOpd.drop, Cell.of, AOp.kind, stableOf, sameKind, assertD, eqlB, isUndef, takeC, unownAt, fits, layCells, putCells, putD, fillD, partsOf, optLo, optHi, allSize, Option.getD_some, Option.getD_none, runDefers, readRes, readRes1, readRess, Nat.reduceAdd, Nat.reduceSub, Nat.reduceMul, Nat.reduceBEq, Nat.ble, Bool.false_and, Bool.true_and, Bool.and_true, Bool.and_false, Bool.or_true, Bool.true_or, Bool.or_false, Bool.false_or, Nat.zero_add, Nat.add_zero, beq_self_eq_true, Bool.true_beq, Bool.false_beq, Bool.not_true, Bool.not_false, decide_true, decide_false, bindO, List.map_cons, List.map_nil, List.length_cons, List.length_nil, List.append_nil, List.nil_append, List.cons_append, List.isEmpty_nil, List.isEmpty_cons, List.all_nil, List.all_cons, Nat.reduceLeDiff, Int.reduceBEq, Int.reduceBNe, Int.reduceLE, Int.reduceLT, Int.reduceGE, Int.reduceGT, Int.reduceNeg, Nat.le_refl, k_api_Type_sz, k_api_Type_ag, k_api_Type_same, k_api_Pred_sz, k_api_Pred_ag, k_api_Pred_same, k_string_sz, k_string_ag, k_string_same, k_int_sz, k_int_ag, k_int_same, k_api_Kind_sz, k_api_Kind_ag, k_api_Kind_same, nat1, nat2, nat3, nat4, nat5, nat6, nat7, nat8, idxL, h1, w1, w2, w3, w7, w18, w90, hc1, hc2, hc3, hx, hap, hak, how, how2]
theorem made_end (m : Nat) (d d1 : D) (o : Bool) (x : Int) (a q : Nat) (t t2 t3 : Tp) (ps : List Pr) (vs : List (List UInt8)) (ks : List D) (h1 : T m n_r12_Type [d] σ = some (.ret ⟨false, dT t⟩, σ)) (h2 : T m n_r12_Preds [d1, .int .i64 4] σ = some (.ret ⟨o, dPs ps⟩, σ))
    (h3 : T m n_r01_Around [.int .i64 x, .int .i64 3] σ = some (.ret ⟨false, .int .i64 a⟩, σ)) (h4 : T m n_r01_Around [.int .i64 (x.tdiv 3), .int .i64 6] σ = some (.ret ⟨false, .int .i64 q⟩, σ)) (hw : IntKind.i64.wrap (x.tdiv 3) = x.tdiv 3)
    (h6 : T m n_r04_Plain [d] σ = some (.ret ⟨false, dT t2⟩, σ)) (h3t : t3 = if a = 2 then t2 else t) (hloop : loopN (exec (T m) m a_r13_Made_l0) m (Em x q 0 [] [] ps t3) σ = some (.exit 0, Eme x q q vs ks ps t3, σ)) :
    T (m + 1) n_r13_Made [d, d1, .int .i64 x] σ = some (.ret ⟨false, .agg (dSs vs :: dlist k_api_Kind ks :: dPs ps :: cT t3)⟩, σ) := by
  rw [T_fun (af := a_r13_Made) rfl rfl]
  simp only [dT_eq, cT, dPs, dSs] at h1 h2 h6 ⊢
  simp only [Em, Eme, bM, b0, bT, List.map_nil, dlist_nil, List.length_nil, ow_zero, zeroI] at hloop
  by_cases h5 : a = 2
  · rw [if_pos h5] at h3t
    subst h3t
    have h5' : ((a : Int) == 2) = true := by simp; omega
    simp only [a_r13_Made, sy0, sy1, sy2, sy3, sy4, sy5, caseO_none, caseO_some, ifB_false, ifB_true, clearEnv, adel, mem, initEnv, initSlots, stepOp, wantedA, evalOp, callOf, panicOf, evalV, addr, opd, opds, aget, aset, adel1, lkill, lfree, readCells, nth, Env.put, Env.putV, Env.box, Env.bare, dropOwn, dropOwnS, binD, binBD, binBool, binInt, binStr, unD, mmD, AOpd.drop, Cell.of, AOp.kind, stableOf, sameKind, assertD, eqlB, isUndef, takeC, unownAt, fits, layCells, putCells, putD, fillD, partsOf, optLo, optHi, allSize, Option.getD_some, Option.getD_none, runDefers, readRes, readRes1, readRess, Nat.reduceAdd, Nat.reduceSub, Nat.reduceMul, Nat.reduceBEq, Nat.ble, Bool.false_and, Bool.true_and, Bool.and_true, Bool.and_false, Bool.or_true, Bool.true_or, Bool.or_false, Bool.false_or, Nat.zero_add, Nat.add_zero, beq_self_eq_true, Bool.true_beq, Bool.false_beq, Bool.not_true, Bool.not_false, decide_true, decide_false, bindO, List.map_cons, List.map_nil, List.length_cons, List.length_nil, List.append_nil, List.nil_append, List.cons_append, List.isEmpty_nil, List.isEmpty_cons, List.all_nil, List.all_cons, Nat.reduceLeDiff, Int.reduceBEq, Int.reduceBNe, Int.reduceLE, Int.reduceLT, Int.reduceGE, Int.reduceGT, Int.reduceNeg, Nat.le_refl, k_api_Type_sz, k_api_Type_ag, k_api_Type_same, k_api_Pred_sz, k_api_Pred_ag, k_api_Pred_same, k_string_sz, k_string_ag, k_string_same, k_int_sz, k_int_ag, k_int_same, k_api_Kind_sz, k_api_Kind_ag, k_api_Kind_same, nat1, nat2, nat3, nat4, nat5, nat6, nat7, nat8, idxL, h1, h2, h3, h4, h5', hw, h6, hloop]
    done
  · rw [if_neg h5] at h3t
    subst h3t
    have h5' : ((a : Int) == 2) = false := by simp; omega
    simp only [a_r13_Made, sy0, sy1, sy2, sy3, sy4, sy5, caseO_none, caseO_some, ifB_false, ifB_true, clearEnv, adel, mem, initEnv, initSlots, stepOp, wantedA, evalOp, callOf, panicOf, evalV, addr, opd, opds, aget, aset, adel1, lkill, lfree, readCells, nth, Env.put, Env.putV, Env.box, Env.bare, dropOwn, dropOwnS, binD, binBD, binBool, binInt, binStr, unD, mmD, AOpd.drop, Cell.of, AOp.kind, stableOf, sameKind, assertD, eqlB, isUndef, takeC, unownAt, fits, layCells, putCells, putD, fillD, partsOf, optLo, optHi, allSize, Option.getD_some, Option.getD_none, runDefers, readRes, readRes1, readRess, Nat.reduceAdd, Nat.reduceSub, Nat.reduceMul, Nat.reduceBEq, Nat.ble, Bool.false_and, Bool.true_and, Bool.and_true, Bool.and_false, Bool.or_true, Bool.true_or, Bool.or_false, Bool.false_or, Nat.zero_add, Nat.add_zero, beq_self_eq_true, Bool.true_beq, Bool.false_beq, Bool.not_true, Bool.not_false, decide_true, decide_false, bindO, List.map_cons, List.map_nil, List.length_cons, List.length_nil, List.append_nil, List.nil_append, List.cons_append, List.isEmpty_nil, List.isEmpty_cons, List.all_nil, List.all_cons, Nat.reduceLeDiff, Int.reduceBEq, Int.reduceBNe, Int.reduceLE, Int.reduceLT, Int.reduceGE, Int.reduceGT, Int.reduceNeg, Nat.le_refl, k_api_Type_sz, k_api_Type_ag, k_api_Type_same, k_api_Pred_sz, k_api_Pred_ag, k_api_Pred_same, k_string_sz, k_string_ag, k_string_same, k_int_sz, k_int_ag, k_int_same, k_api_Kind_sz, k_api_Kind_ag, k_api_Kind_same, nat1, nat2, nat3, nat4, nat5, nat6, nat7, nat8, idxL, h1, h2, h3, h4, h5', hw, hloop]
    done
end
theorem made_run (d d1 : D) (xs ys : List Int) (x : Int) (hR : Row d xs) (hS : Smalls xs) (hR1 : Row d1 ys) (hS1 : Smalls ys) (hx : Small x) : ∃ (vs : List (List UInt8)) (ks : List D) (ps : List Pr) (t : Tp), vs.length ≤ 5 ∧ ps.length ≤ 4 ∧
    Evly fun n => ∀ σ, T n n_r13_Made [d, d1, .int .i64 x] σ = some (.ret ⟨false, .agg (dSs vs :: dlist k_api_Kind ks :: dPs ps :: cT t)⟩, σ) := by
  obtain ⟨t, h1⟩ := type_run d xs hR hS
  obtain ⟨t2, h6⟩ := plain_run d xs hR hS
  obtain ⟨ps, hps, h2⟩ := preds_run d1 ys hR1 hS1
  have small : ∀ m : Nat, Small (x.tdiv (m : Int)) := small_tdiv hx
  have s3 := small 3
  have s7 := small 7
  have s18 := small 18
  have s90 := small 90
  have w3 : IntKind.i64.wrap (x.tdiv 3) = x.tdiv 3 := wrap64 s3.1 s3.2
  have w7 : IntKind.i64.wrap (x.tdiv 7) = x.tdiv 7 := wrap64 s7.1 s7.2
  have w18 : IntKind.i64.wrap (x.tdiv 18) = x.tdiv 18 := wrap64 s18.1 s18.2
  have w90 : IntKind.i64.wrap (x.tdiv 90) = x.tdiv 90 := wrap64 s90.1 s90.2
  have hq := aro_lt (x.tdiv 3) (m := 6) (by omega)
  have ha5 := aro_lt (x.tdiv 18) (m := 5) (by omega)
  have r3 : Evly fun n => ∀ σ, T n n_r01_Around [.int .i64 x, .int .i64 3] σ = some (.ret ⟨false, .int .i64 (aro x 3)⟩, σ) := aroundL.mono fun n h σ => h x 3 3 σ hx rfl (by omega) (by omega)
  have r6 : Evly fun n => ∀ σ, T n n_r01_Around [.int .i64 (x.tdiv 3), .int .i64 6] σ = some (.ret ⟨false, .int .i64 (aro (x.tdiv 3) 6)⟩, σ) := aroundL.mono fun n h σ => h _ 6 6 σ s3 rfl (by omega) (by omega)
  have r18 : Evly fun n => ∀ σ, T n n_r01_Around [.int .i64 (x.tdiv 18), .int .i64 5] σ = some (.ret ⟨false, .int .i64 (aro (x.tdiv 18) 5)⟩, σ) := aroundL.mono fun n h σ => h _ 5 5 σ s18 rfl (by omega) (by omega)
  have r90 : Evly fun n => ∀ σ, T n n_r01_Around [.int .i64 (x.tdiv 90), .int .i64 2] σ = some (.ret ⟨false, .int .i64 (aro (x.tdiv 90) 2)⟩, σ) := aroundL.mono fun n h σ => h _ 2 2 σ s90 rfl (by omega) (by omega)
  generalize aro (x.tdiv 3) 6 = q at hq r6
  generalize aro (x.tdiv 18) 5 = a at ha5 r18
  by_cases hb : aro (x.tdiv 90) 2 = 1
  · rw [hb] at r90
    have hK : ∀ i : Nat, ∃ K : List D, Evly fun n => ∀ σ, T n n_r03_Kind [.list k_int [.int .i64 (IntKind.i64.wrap (x + i)), .int .i64 (IntKind.i64.wrap i), .int .i64 (x.tdiv 7), .int .i64 (IntKind.i64.wrap (i * x))]] σ = some (.ret ⟨false, .agg [dlist k_api_Kind K]⟩, σ) := fun i =>
      kind_run _ [IntKind.i64.wrap (x + i), IntKind.i64.wrap i, x.tdiv 7, IntKind.i64.wrap (i * x)] (.inl rfl) (fun y hy => by
        simp only [List.mem_cons, List.not_mem_nil, or_false] at hy
        rcases hy with rfl | rfl | rfl | rfl
        · exact small_wrap _
        · exact small_wrap _
        · exact s7
        · exact small_wrap _)
    obtain ⟨K, hK⟩ := Classical.skolem.1 hK
    have hKs : Evly fun n => ∀ i, i < q → ∀ σ, T n n_r03_Kind [.list k_int [.int .i64 (IntKind.i64.wrap (x + i)), .int .i64 i, .int .i64 (x.tdiv 7), .int .i64 (IntKind.i64.wrap (i * x))]] σ = some (.ret ⟨false, .agg [dlist k_api_Kind (K i)]⟩, σ) :=
      Evly.below _ fun i hi => (hK i).mono fun n h σ => by
        have := h σ
        rw [wrap64 (n := (i : Int)) (by omega) (by omega)] at this
        exact this
    refine ⟨vnL a q, kdL K q, ps, (if aro x 3 = 2 then t2 else t), by rw [vnL_len]; omega, hps, (h1.and (h2.and (h6.and (r3.and (r6.and (r18.and (r90.and hKs))))))).step 8 fun m hm h σ => ?_⟩
    obtain ⟨e1, e2, e6, e3, e4, e18, e90, eK⟩ := h
    have hloop := loopN_run (body := exec (T m) m a_r13_Made_l0) (fun i => Em x q i (vnL a i) (kdL K i) ps (if aro x 3 = 2 then t2 else t)) (fun _ => σ) q (r := _) (fun _ _ h => by cases h)
      (fun i hi => lm_kind x q i a (vnL a i) (kdL K i) ps _ (K i) hi (by omega) (by omega) (vnL_len a i) (kdL_len K i) w18 w90 w7 (e18 σ) (e90 σ) (eK i hi σ)) (lm_end x q _ _ ps _) 0 m (by omega) (by omega)
    exact made_end m d d1 _ x (aro x 3) q t t2 _ ps _ _ (e1 σ) (e2 σ) (e3 σ) (e4 σ) w3 (e6 σ) rfl hloop
  · refine ⟨vnL a q, [], ps, (if aro x 3 = 2 then t2 else t), by rw [vnL_len]; omega, hps, (h1.and (h2.and (h6.and (r3.and (r6.and (r18.and r90)))))).step 8 fun m hm h σ => ?_⟩
    obtain ⟨e1, e2, e6, e3, e4, e18, e90⟩ := h
    have hloop := loopN_run (body := exec (T m) m a_r13_Made_l0) (fun i => Em x q i (vnL a i) [] ps (if aro x 3 = 2 then t2 else t)) (fun _ => σ) q (r := _) (fun _ _ h => by cases h)
      (fun i hi => lm_plain x q i a _ (vnL a i) [] ps _ hi (by omega) (by omega) (vnL_len a i) hb w18 w90 (e18 σ) (e90 σ)) (lm_end x q _ _ ps _) 0 m (by omega) (by omega)
    exact made_end m d d1 _ x (aro x 3) q t t2 _ ps _ _ (e1 σ) (e2 σ) (e3 σ) (e4 σ) w3 (e6 σ) rfl hloop
end Go.Fu

