/-
  Numerals of small numbers; the document's variables in the place of numbers.
-/
import Derived.Test.YtkgdpcnobfadaaaDoorFqF0
set_option linter.unusedSimpArgs false
set_option linter.unusedVariables false
namespace Go.Fu
open Go Go.Mx
set_option maxRecDepth 10000
def dN (n : Nat) : D := .int .i64 (n : Int)
def dNs (l : List Nat) : D := dlist k_int (l.map dN)
def tn (n : Nat) : List UInt8 := [116, UInt8.ofNat (48 + n)]
theorem idx_N (l : List Nat) (i : Nat) (h : i < l.length) : indexD 1 (dlist k_int (l.map dN)) i = some (.eptr (.int .i64 (l[i] : Int))) := idx_map rfl _ _ _ h
theorem dec0 (n : Nat) (x : Int) (u : List UInt8) (σ : Store) (h1 : x.tmod 10 = x) (h2 : ¬ (x < 0)) (h3 : x > -10) (h4 : x < 10) (w : IntKind.i64.wrap (48 + x) = 48 + x) (w8 : IntKind.u8.wrap (48 + x) = 48 + x) (hb : bytesOf [D.int .u8 (48 + x)] = some u) : T (n + 1) n_r01_Decimal [.int .i64 x] σ = some (.ret ⟨false, .str u⟩, σ) := by
  rw [T_fun (af := a_r01_Decimal) rfl rfl]
  simp only [a_r01_Decimal, sy0, sy1, sy2, sy3, sy4, sy5, caseO_none, caseO_some, ifB_false, ifB_true, clearEnv, adel, mem, initEnv, initSlots, stepOp, wantedA, evalOp, callOf, panicOf, evalV, addr, opd, opds, aget, aset, adel1, lkill, lfree, readCells, nth, Env.put, Env.putV, Env.box, Env.bare, dropOwn, dropOwnS, binD, binBD, binBool, binInt, binStr, unD, mmD, AOpd.drop, Cell.of, AOp.kind, stableOf, sameKind, assertD, eqlB, isUndef, takeC, unownAt, fits, layCells, putCells, putD, fillD, partsOf, optLo, optHi, allSize, Option.getD_some, Option.getD_none, runDefers, readRes, readRes1, readRess, Nat.reduceAdd, Nat.reduceSub, Nat.reduceMul, Nat.reduceBEq, Nat.ble, Bool.false_and, Bool.true_and, Bool.and_true, Bool.and_false, Bool.or_true, Bool.true_or, Bool.or_false, Bool.false_or, Nat.zero_add, Nat.add_zero, beq_self_eq_true, Bool.true_beq, Bool.false_beq, Bool.not_true, Bool.not_false, decide_true, decide_false, bindO, List.map_cons, List.map_nil, List.length_cons, List.length_nil, List.append_nil, List.nil_append, List.cons_append, List.isEmpty_nil, List.isEmpty_cons, List.all_nil, List.all_cons, Nat.reduceLeDiff, Int.reduceBEq, Int.reduceBNe, Int.reduceLE, Int.reduceLT, Int.reduceGE, Int.reduceGT, Int.reduceNeg, Nat.le_refl, k_api_Type_sz, k_api_Type_ag, k_api_Type_same, k_api_Pred_sz, k_api_Pred_ag, k_api_Pred_same, k_string_sz, k_string_ag, k_string_same, k_int_sz, k_int_ag, k_int_same, k_api_Kind_sz, k_api_Kind_ag, k_api_Kind_same, nat1, nat2, nat3, nat4, nat5, nat6, nat7, nat8, idxL, k_uint8_sz, k_uint8_ag, k_uint8_same, h1, h2, h3, h4, w, w8, hb]
theorem decimal_run : Evly fun n => ∀ (x : Nat) σ, x < 6 → T n n_r01_Decimal [.int .i64 (x : Int)] σ = some (.ret ⟨false, .str [UInt8.ofNat (48 + x)]⟩, σ) := any _ fun n x σ hx => by
  have h : x = 0 ∨ x = 1 ∨ x = 2 ∨ x = 3 ∨ x = 4 ∨ x = 5 := by omega
  rcases h with rfl | rfl | rfl | rfl | rfl | rfl <;> exact dec0 n _ _ σ (by decide) (by decide) (by decide) (by decide) (by decide) (by decide) rfl
theorem itoa0 (n : Nat) (x : Int) (u : List UInt8) (σ : Store) (h : xItoa [.int .i64 x] = some (.str u)) : T (n + 1) n_strconv_Itoa [.int .i64 x] σ = some (.ret ⟨false, .str u⟩, σ) := by
  rw [T_lib rfl]
  show bindO (xItoa [.int .i64 x]) _ = _
  rw [h]
  rfl
theorem itoa_run : Evly fun n => ∀ (x : Nat) σ, x < 6 → T n n_strconv_Itoa [.int .i64 (x : Int)] σ = some (.ret ⟨false, .str [UInt8.ofNat (48 + x)]⟩, σ) := any _ fun n x σ hx => by
  have h : x = 0 ∨ x = 1 ∨ x = 2 ∨ x = 3 ∨ x = 4 ∨ x = 5 := by omega
  rcases h with rfl | rfl | rfl | rfl | rfl | rfl <;> exact itoa0 n _ _ σ rfl
/-- A type with variables in the place of numbers. -/
def varT (ms : List Nat) : Tp → Tp
  | .hole n => if (ms.any fun m => n == (m : Int)) then .var (tn n.toNat) else .hole n
  | .app f a => .app (varT ms f) (varT ms a)
  | .var s => .var s
  | .con s => .con s
def z4 : List Cell := [⟨false, .int .i64 0⟩, ⟨false, .int .i64 0⟩, ⟨false, .str []⟩, ⟨false, .nils⟩]
section
variable {C : CallF} {n : Nat} {σ : Store}
def Ev0 (t : Tp) (ms : List Nat) (i : Nat) : Env := { slots := [(1, ⟨false, dNs ms⟩), (5, ⟨false, .int .i64 i⟩)], locs := [(2, 2, 0), (4, 4, 0)], boxes := [(2, bT t), (4, z4)], defers := [] }
theorem lv0_other (t : Tp) (ms : List Nat) (i : Nat) (h : i < ms.length) (hl : ms.length < 100) (hf : (t.form == 1) = false) : exec C n a_r13_variables_l0 (Ev0 t ms i) σ = some (.normal, Ev0 t ms (i + 1), σ) := by
  have hi : ((i : Int) < (ms.length : Int)) := by omega
  have hlen : lenOf (dNs ms) = some ms.length := by simp only [dNs, lenOf_dlist, List.length_map]
  simp only [a_r13_variables_l0, Ev0, bT, z4, sy0, sy1, sy2, sy3, sy4, sy5, caseO_none, caseO_some, ifB_false, ifB_true, clearEnv, adel, mem, initEnv, initSlots, stepOp, wantedA, evalOp, callOf, panicOf, evalV, addr, opd, opds, aget, aset, adel1, lkill, lfree, readCells, nth, Env.put, Env.putV, Env.box, Env.bare, dropOwn, dropOwnS, binD, binBD, binBool, binInt, binStr, unD, mmD, AOpd.drop, Cell.of, AOp.kind, stableOf, sameKind, assertD, eqlB, isUndef, takeC, unownAt, fits, layCells, putCells, putD, fillD, partsOf, optLo, optHi, allSize, Option.getD_some, Option.getD_none, runDefers, readRes, readRes1, readRess, Nat.reduceAdd, Nat.reduceSub, Nat.reduceMul, Nat.reduceBEq, Nat.ble, Bool.false_and, Bool.true_and, Bool.and_true, Bool.and_false, Bool.or_true, Bool.true_or, Bool.or_false, Bool.false_or, Nat.zero_add, Nat.add_zero, beq_self_eq_true, Bool.true_beq, Bool.false_beq, Bool.not_true, Bool.not_false, decide_true, decide_false, bindO, List.map_cons, List.map_nil, List.length_cons, List.length_nil, List.append_nil, List.nil_append, List.cons_append, List.isEmpty_nil, List.isEmpty_cons, List.all_nil, List.all_cons, Nat.reduceLeDiff, Int.reduceBEq, Int.reduceBNe, Int.reduceLE, Int.reduceLT, Int.reduceGE, Int.reduceGT, Int.reduceNeg, Nat.le_refl, k_api_Type_sz, k_api_Type_ag, k_api_Type_same, k_api_Pred_sz, k_api_Pred_ag, k_api_Pred_same, k_string_sz, k_string_ag, k_string_same, k_int_sz, k_int_ag, k_int_same, k_api_Kind_sz, k_api_Kind_ag, k_api_Kind_same, nat1, nat2, nat3, nat4, nat5, nat6, nat7, nat8, idxL, hlen, hi, hf, wrap64_succ (i := i) (by omega)]
theorem lv0_step (t : Tp) (ms : List Nat) (i : Nat) (h : i < ms.length) (hl : ms.length < 100) (hf : (t.form == 1) = true) (hn : (t.num == (ms[i] : Int)) = false) : exec C n a_r13_variables_l0 (Ev0 t ms i) σ = some (.normal, Ev0 t ms (i + 1), σ) := by
  have hi : ((i : Int) < (ms.length : Int)) := by omega
  have hlen : lenOf (dNs ms) = some ms.length := by simp only [dNs, lenOf_dlist, List.length_map]
  have hx : indexD 1 (dNs ms) i = _ := idx_N ms i h
  simp only [a_r13_variables_l0, Ev0, bT, z4, sy0, sy1, sy2, sy3, sy4, sy5, caseO_none, caseO_some, ifB_false, ifB_true, clearEnv, adel, mem, initEnv, initSlots, stepOp, wantedA, evalOp, callOf, panicOf, evalV, addr, opd, opds, aget, aset, adel1, lkill, lfree, readCells, nth, Env.put, Env.putV, Env.box, Env.bare, dropOwn, dropOwnS, binD, binBD, binBool, binInt, binStr, unD, mmD, AOpd.drop, Cell.of, AOp.kind, stableOf, sameKind, assertD, eqlB, isUndef, takeC, unownAt, fits, layCells, putCells, putD, fillD, partsOf, optLo, optHi, allSize, Option.getD_some, Option.getD_none, runDefers, readRes, readRes1, readRess, Nat.reduceAdd, Nat.reduceSub, Nat.reduceMul, Nat.reduceBEq, Nat.ble, Bool.false_and, Bool.true_and, Bool.and_true, Bool.and_false, Bool.or_true, Bool.true_or, Bool.or_false, Bool.false_or, Nat.zero_add, Nat.add_zero, beq_self_eq_true, Bool.true_beq, Bool.false_beq, Bool.not_true, Bool.not_false, decide_true, decide_false, bindO, List.map_cons, List.map_nil, List.length_cons, List.length_nil, List.append_nil, List.nil_append, List.cons_append, List.isEmpty_nil, List.isEmpty_cons, List.all_nil, List.all_cons, Nat.reduceLeDiff, Int.reduceBEq, Int.reduceBNe, Int.reduceLE, Int.reduceLT, Int.reduceGE, Int.reduceGT, Int.reduceNeg, Nat.le_refl, k_api_Type_sz, k_api_Type_ag, k_api_Type_same, k_api_Pred_sz, k_api_Pred_ag, k_api_Pred_same, k_string_sz, k_string_ag, k_string_same, k_int_sz, k_int_ag, k_int_same, k_api_Kind_sz, k_api_Kind_ag, k_api_Kind_same, nat1, nat2, nat3, nat4, nat5, nat6, nat7, nat8, idxL, hlen, hi, hf, hn, hx, wrap64_succ (i := i) (by omega)]
theorem lv0_stop (t : Tp) (ms : List Nat) (i : Nat) (h : i < ms.length) (hl : ms.length < 100) (hf : (t.form == 1) = true) (hn : (t.num == (ms[i] : Int)) = true) (hc : C n_r01_Decimal [.int .i64 t.num] σ = some (.ret ⟨false, .str [UInt8.ofNat (48 + ms[i])]⟩, σ)) :
    exec C n a_r13_variables_l0 (Ev0 t ms i) σ = some (.ret, { slots := [], locs := [(4, 4, 0)], boxes := [(4, [⟨false, .int .i64 2⟩, ⟨false, .int .i64 0⟩, ⟨false, .str (tn ms[i])⟩, ⟨false, .nils⟩])], defers := [] }, σ) := by
  have hi : ((i : Int) < (ms.length : Int)) := by omega
  have hlen : lenOf (dNs ms) = some ms.length := by simp only [dNs, lenOf_dlist, List.length_map]
  have hx : indexD 1 (dNs ms) i = _ := idx_N ms i h
  simp only [a_r13_variables_l0, Ev0, bT, z4, sy0, sy1, sy2, sy3, sy4, sy5, caseO_none, caseO_some, ifB_false, ifB_true, clearEnv, adel, mem, initEnv, initSlots, stepOp, wantedA, evalOp, callOf, panicOf, evalV, addr, opd, opds, aget, aset, adel1, lkill, lfree, readCells, nth, Env.put, Env.putV, Env.box, Env.bare, dropOwn, dropOwnS, binD, binBD, binBool, binInt, binStr, unD, mmD, AOpd.drop, Cell.of, AOp.kind, stableOf, sameKind, assertD, eqlB, isUndef, takeC, unownAt, fits, layCells, putCells, putD, fillD, partsOf, optLo, optHi, allSize, Option.getD_some, Option.getD_none, runDefers, readRes, readRes1, readRess, Nat.reduceAdd, Nat.reduceSub, Nat.reduceMul, Nat.reduceBEq, Nat.ble, Bool.false_and, Bool.true_and, Bool.and_true, Bool.and_false, Bool.or_true, Bool.true_or, Bool.or_false, Bool.false_or, Nat.zero_add, Nat.add_zero, beq_self_eq_true, Bool.true_beq, Bool.false_beq, Bool.not_true, Bool.not_false, decide_true, decide_false, bindO, List.map_cons, List.map_nil, List.length_cons, List.length_nil, List.append_nil, List.nil_append, List.cons_append, List.isEmpty_nil, List.isEmpty_cons, List.all_nil, List.all_cons, Nat.reduceLeDiff, Int.reduceBEq, Int.reduceBNe, Int.reduceLE, Int.reduceLT, Int.reduceGE, Int.reduceGT, Int.reduceNeg, Nat.le_refl, k_api_Type_sz, k_api_Type_ag, k_api_Type_same, k_api_Pred_sz, k_api_Pred_ag, k_api_Pred_same, k_string_sz, k_string_ag, k_string_same, k_int_sz, k_int_ag, k_int_same, k_api_Kind_sz, k_api_Kind_ag, k_api_Kind_same, nat1, nat2, nat3, nat4, nat5, nat6, nat7, nat8, idxL, hlen, hi, hf, hn, hx, hc, tn]
theorem lv0_end (t : Tp) (ms : List Nat) : exec C n a_r13_variables_l0 (Ev0 t ms ms.length) σ = some (.exit 0, { Ev0 t ms ms.length with slots := [(1, ⟨false, dNs ms⟩), (5, ⟨false, .int .i64 ms.length⟩), (11, ⟨false, .bool false⟩)] }, σ) := by
  have hi : ¬ ((ms.length : Int) < (ms.length : Int)) := by omega
  have hlen : lenOf (dNs ms) = some ms.length := by simp only [dNs, lenOf_dlist, List.length_map]
  simp only [a_r13_variables_l0, Ev0, bT, z4, sy0, sy1, sy2, sy3, sy4, sy5, caseO_none, caseO_some, ifB_false, ifB_true, clearEnv, adel, mem, initEnv, initSlots, stepOp, wantedA, evalOp, callOf, panicOf, evalV, addr, opd, opds, aget, aset, adel1, lkill, lfree, readCells, nth, Env.put, Env.putV, Env.box, Env.bare, dropOwn, dropOwnS, binD, binBD, binBool, binInt, binStr, unD, mmD, AOpd.drop, Cell.of, AOp.kind, stableOf, sameKind, assertD, eqlB, isUndef, takeC, unownAt, fits, layCells, putCells, putD, fillD, partsOf, optLo, optHi, allSize, Option.getD_some, Option.getD_none, runDefers, readRes, readRes1, readRess, Nat.reduceAdd, Nat.reduceSub, Nat.reduceMul, Nat.reduceBEq, Nat.ble, Bool.false_and, Bool.true_and, Bool.and_true, Bool.and_false, Bool.or_true, Bool.true_or, Bool.or_false, Bool.false_or, Nat.zero_add, Nat.add_zero, beq_self_eq_true, Bool.true_beq, Bool.false_beq, Bool.not_true, Bool.not_false, decide_true, decide_false, bindO, List.map_cons, List.map_nil, List.length_cons, List.length_nil, List.append_nil, List.nil_append, List.cons_append, List.isEmpty_nil, List.isEmpty_cons, List.all_nil, List.all_cons, Nat.reduceLeDiff, Int.reduceBEq, Int.reduceBNe, Int.reduceLE, Int.reduceLT, Int.reduceGE, Int.reduceGT, Int.reduceNeg, Nat.le_refl, k_api_Type_sz, k_api_Type_ag, k_api_Type_same, k_api_Pred_sz, k_api_Pred_ag, k_api_Pred_same, k_string_sz, k_string_ag, k_string_same, k_int_sz, k_int_ag, k_int_same, k_api_Kind_sz, k_api_Kind_ag, k_api_Kind_same, nat1, nat2, nat3, nat4, nat5, nat6, nat7, nat8, idxL, hlen, hi]
def Ev1 (t : Tp) (ms : List Nat) (i : Nat) : Env := { slots := [(1, ⟨false, dNs ms⟩), (6, ⟨ow i, dlist k_api_Type (((t.args.map (varT ms)).take i).map dT)⟩), (7, ⟨false, .int .i64 i⟩)], locs := [(2, 2, 0), (4, 4, 0)], boxes := [(2, bT t), (4, z4)], defers := [] }
theorem lv1_step (t : Tp) (ms : List Nat) (i : Nat) (h : i < t.args.length) (hc : C n_r13_variables [dT t.args[i], dNs ms] σ = some (.ret ⟨false, dT (varT ms t.args[i])⟩, σ)) : exec C n a_r13_variables_l1 (Ev1 t ms i) σ = some (.normal, Ev1 t ms (i + 1), σ) := by
  have hi : ((i : Int) < (t.args.length : Int)) := by omega
  have h' : i < (t.args.map (varT ms)).length := by simpa using h
  have ha := append_T ((t.args.map (varT ms)).take i) (t.args.map (varT ms))[i] (ow i) ow_ne (by have := args_len t; simp; omega)
  rw [take_snoc _ _ h'] at ha
  have hx := idx_T t.args i h
  simp only [List.getElem_map] at ha
  rw [dT_eq t.args[i], dT_eq (varT ms t.args[i])] at hc
  rw [dT_eq t.args[i]] at hx
  rw [dT_eq (varT ms t.args[i])] at ha
  simp only [cT] at hc hx ha
  simp only [a_r13_variables_l1, Ev1, bT, z4, sy0, sy1, sy2, sy3, sy4, sy5, caseO_none, caseO_some, ifB_false, ifB_true, clearEnv, adel, mem, initEnv, initSlots, stepOp, wantedA, evalOp, callOf, panicOf, evalV, addr, opd, opds, aget, aset, adel1, lkill, lfree, readCells, nth, Env.put, Env.putV, Env.box, Env.bare, dropOwn, dropOwnS, binD, binBD, binBool, binInt, binStr, unD, mmD, AOpd.drop, Cell.of, AOp.kind, stableOf, sameKind, assertD, eqlB, isUndef, takeC, unownAt, fits, layCells, putCells, putD, fillD, partsOf, optLo, optHi, allSize, Option.getD_some, Option.getD_none, runDefers, readRes, readRes1, readRess, Nat.reduceAdd, Nat.reduceSub, Nat.reduceMul, Nat.reduceBEq, Nat.ble, Bool.false_and, Bool.true_and, Bool.and_true, Bool.and_false, Bool.or_true, Bool.true_or, Bool.or_false, Bool.false_or, Nat.zero_add, Nat.add_zero, beq_self_eq_true, Bool.true_beq, Bool.false_beq, Bool.not_true, Bool.not_false, decide_true, decide_false, bindO, List.map_cons, List.map_nil, List.length_cons, List.length_nil, List.append_nil, List.nil_append, List.cons_append, List.isEmpty_nil, List.isEmpty_cons, List.all_nil, List.all_cons, Nat.reduceLeDiff, Int.reduceBEq, Int.reduceBNe, Int.reduceLE, Int.reduceLT, Int.reduceGE, Int.reduceGT, Int.reduceNeg, Nat.le_refl, k_api_Type_sz, k_api_Type_ag, k_api_Type_same, k_api_Pred_sz, k_api_Pred_ag, k_api_Pred_same, k_string_sz, k_string_ag, k_string_same, k_int_sz, k_int_ag, k_int_same, k_api_Kind_sz, k_api_Kind_ag, k_api_Kind_same, nat1, nat2, nat3, nat4, nat5, nat6, nat7, nat8, idxL, List.length_map, hi, hx, hc, ha, wrap64_succ (i := i) (by have := args_len t; omega), ow_succ]
theorem lv1_end (t : Tp) (ms : List Nat) : exec C n a_r13_variables_l1 (Ev1 t ms t.args.length) σ = some (.exit 2, { Ev1 t ms t.args.length with slots := [(1, ⟨false, dNs ms⟩), (6, ⟨ow t.args.length, dlist k_api_Type ((t.args.map (varT ms)).map dT)⟩), (7, ⟨false, .int .i64 t.args.length⟩), (35, ⟨false, .bool false⟩)] }, σ) := by
  have hi : ¬ ((t.args.length : Int) < (t.args.length : Int)) := by omega
  have ht : (t.args.map (varT ms)).take t.args.length = t.args.map (varT ms) := List.take_of_length_le (by simp)
  simp only [a_r13_variables_l1, Ev1, bT, z4, sy0, sy1, sy2, sy3, sy4, sy5, caseO_none, caseO_some, ifB_false, ifB_true, clearEnv, adel, mem, initEnv, initSlots, stepOp, wantedA, evalOp, callOf, panicOf, evalV, addr, opd, opds, aget, aset, adel1, lkill, lfree, readCells, nth, Env.put, Env.putV, Env.box, Env.bare, dropOwn, dropOwnS, binD, binBD, binBool, binInt, binStr, unD, mmD, AOpd.drop, Cell.of, AOp.kind, stableOf, sameKind, assertD, eqlB, isUndef, takeC, unownAt, fits, layCells, putCells, putD, fillD, partsOf, optLo, optHi, allSize, Option.getD_some, Option.getD_none, runDefers, readRes, readRes1, readRess, Nat.reduceAdd, Nat.reduceSub, Nat.reduceMul, Nat.reduceBEq, Nat.ble, Bool.false_and, Bool.true_and, Bool.and_true, Bool.and_false, Bool.or_true, Bool.true_or, Bool.or_false, Bool.false_or, Nat.zero_add, Nat.add_zero, beq_self_eq_true, Bool.true_beq, Bool.false_beq, Bool.not_true, Bool.not_false, decide_true, decide_false, bindO, List.map_cons, List.map_nil, List.length_cons, List.length_nil, List.append_nil, List.nil_append, List.cons_append, List.isEmpty_nil, List.isEmpty_cons, List.all_nil, List.all_cons, Nat.reduceLeDiff, Int.reduceBEq, Int.reduceBNe, Int.reduceLE, Int.reduceLT, Int.reduceGE, Int.reduceGT, Int.reduceNeg, Nat.le_refl, k_api_Type_sz, k_api_Type_ag, k_api_Type_same, k_api_Pred_sz, k_api_Pred_ag, k_api_Pred_same, k_string_sz, k_string_ag, k_string_same, k_int_sz, k_int_ag, k_int_same, k_api_Kind_sz, k_api_Kind_ag, k_api_Kind_same, nat1, nat2, nat3, nat4, nat5, nat6, nat7, nat8, idxL, List.length_map, hi, ht]
end
end Go.Fu

/-
  The document's variables in the place of numbers, run.
-/
namespace Go.Fu
open Go Go.Mx
set_option maxRecDepth 10000
def nF (ms : List Nat) (x : Int) (i : Nat) : Bool := match ms[i]? with
  | some m => !(x == (m : Int))
  | none => true
theorem nF_get {ms : List Nat} {x : Int} {i : Nat} (h : i < ms.length) : nF ms x i = !(x == (ms[i] : Int)) := by simp [nF, h]
theorem rvar_tail (m : Nat) (σ : Store) (t : Tp) (ms : List Nat) (hl : ms.length < 100) (hm : ms.length + 4 ≤ m) (l0 : loopN (exec (T m) m a_r13_variables_l0) m (Ev0 t ms 0) σ = some (.exit 0, { Ev0 t ms ms.length with slots := [(1, ⟨false, dNs ms⟩), (5, ⟨false, .int .i64 ms.length⟩), (11, ⟨false, .bool false⟩)] }, σ))
    (hk : ∀ i (h : i < t.args.length), T m n_r13_variables [dT t.args[i], dNs ms] σ = some (.ret ⟨false, dT (varT ms t.args[i])⟩, σ)) :
    T (m + 1) n_r13_variables [dT t, dNs ms] σ = some (.ret ⟨false, .agg [.int .i64 t.form, .int .i64 t.num, .str t.name, dlist k_api_Type ((t.args.map (varT ms)).map dT)]⟩, σ) := by
  rw [T_fun (af := a_r13_variables) rfl rfl]
  have l1 := loopN_run (body := exec (T m) m a_r13_variables_l1) (Ev1 t ms) (fun _ => σ) t.args.length (r := _) (fun _ _ h => by cases h) (fun i hi => lv1_step t ms i hi (hk i hi)) (lv1_end t ms) 0 m (by omega) (by have := args_len t; omega)
  simp only [Ev0, Ev1, bT, z4, zeroI, List.take_zero, List.map_nil, dlist_nil, ow_zero] at l0 l1
  rw [dT_eq t]
  simp only [a_r13_variables, sy0, sy1, sy2, sy3, sy4, sy5, caseO_none, caseO_some, ifB_false, ifB_true, clearEnv, adel, mem, initEnv, initSlots, stepOp, wantedA, evalOp, callOf, panicOf, evalV, addr, opd, opds, aget, aset, adel1, lkill, lfree, readCells, nth, Env.put, Env.putV, Env.box, Env.bare, dropOwn, dropOwnS, binD, binBD, binBool, binInt, binStr, unD, mmD, AOpd.drop, Cell.of, AOp.kind, stableOf, sameKind, assertD, eqlB, isUndef, takeC, unownAt, fits, layCells, putCells, putD, fillD, partsOf, optLo, optHi, allSize, Option.getD_some, Option.getD_none, runDefers, readRes, readRes1, readRess, Nat.reduceAdd, Nat.reduceSub, Nat.reduceMul, Nat.reduceBEq, Nat.ble, Bool.false_and, Bool.true_and, Bool.and_true, Bool.and_false, Bool.or_true, Bool.true_or, Bool.or_false, Bool.false_or, Nat.zero_add, Nat.add_zero, beq_self_eq_true, Bool.true_beq, Bool.false_beq, Bool.not_true, Bool.not_false, decide_true, decide_false, bindO, List.map_cons, List.map_nil, List.length_cons, List.length_nil, List.append_nil, List.nil_append, List.cons_append, List.isEmpty_nil, List.isEmpty_cons, List.all_nil, List.all_cons, Nat.reduceLeDiff, Int.reduceBEq, Int.reduceBNe, Int.reduceLE, Int.reduceLT, Int.reduceGE, Int.reduceGT, Int.reduceNeg, Nat.le_refl, k_api_Type_sz, k_api_Type_ag, k_api_Type_same, k_api_Pred_sz, k_api_Pred_ag, k_api_Pred_same, k_string_sz, k_string_ag, k_string_same, k_int_sz, k_int_ag, k_int_same, k_api_Kind_sz, k_api_Kind_ag, k_api_Kind_same, nat1, nat2, nat3, nat4, nat5, nat6, nat7, nat8, idxL, cT, l0, l1]
theorem rvar_run (ms : List Nat) (hms : ∀ m ∈ ms, m < 6) (hl : ms.length < 100) : ∀ t : Tp, Evly fun n => ∀ σ, T n n_r13_variables [dT t, dNs ms] σ = some (.ret ⟨false, dT (varT ms t)⟩, σ)
  | .hole x => decimal_run.step (ms.length + 4) fun m hm hdec σ => by
    have hloop := loopN_until (body := exec (T m) m a_r13_variables_l0) (Ev0 (.hole x) ms) (fun _ => σ) ms.length (nF ms x) (stop := fun i => (.ret, { slots := [], locs := [(4, 4, 0)], boxes := [(4, [⟨false, .int .i64 2⟩, ⟨false, .int .i64 0⟩, ⟨false, .str (tn (ms.getD i 0))⟩, ⟨false, .nils⟩])], defers := [] }, σ)) (fun _ _ h => by cases h) (fun _ _ _ h => by cases h)
      (fun i hi hp => lv0_step (.hole x) ms i hi hl rfl (by rw [nF_get hi] at hp; simp only [Tp.num]; simpa using hp))
      (fun i hi hp => by
        rw [nF_get hi] at hp
        have he : x = (ms[i] : Int) := by simpa using hp
        have hg : ms.getD i 0 = ms[i] := by simp [hi]
        have hd := hdec ms[i] σ (hms _ (List.getElem_mem hi))
        rw [hg]
        exact lv0_stop (.hole x) ms i hi hl rfl (by simp [Tp.num, he]) (by simp only [Tp.num]; rw [he]; exact hd)) (lv0_end (.hole x) ms) m 0 (by omega) (by omega)
    rcases hloop with ⟨i, _, hi, hp, _, hrest⟩ | ⟨hp, hrest⟩
    · rw [nF_get hi] at hp
      have he : x = (ms[i] : Int) := by simpa using hp
      have hg : ms.getD i 0 = ms[i] := by simp [hi]
      have hv : varT ms (.hole x) = .var (tn ms[i]) := by
        have : (ms.any fun m => x == (m : Int)) = true := List.any_eq_true.2 ⟨ms[i], List.getElem_mem hi, by simp [he]⟩
        simp only [varT, this, if_true]
        rw [he]
        rfl
      rw [T_fun (af := a_r13_variables) rfl rfl, hv]
      simp only [Ev0, bT, z4, zeroI, hg, Tp.form, Tp.num, Tp.name, Tp.args, List.map_nil, dlist_nil] at hrest
      simp only [a_r13_variables, sy0, sy1, sy2, sy3, sy4, sy5, caseO_none, caseO_some, ifB_false, ifB_true, clearEnv, adel, mem, initEnv, initSlots, stepOp, wantedA, evalOp, callOf, panicOf, evalV, addr, opd, opds, aget, aset, adel1, lkill, lfree, readCells, nth, Env.put, Env.putV, Env.box, Env.bare, dropOwn, dropOwnS, binD, binBD, binBool, binInt, binStr, unD, mmD, AOpd.drop, Cell.of, AOp.kind, stableOf, sameKind, assertD, eqlB, isUndef, takeC, unownAt, fits, layCells, putCells, putD, fillD, partsOf, optLo, optHi, allSize, Option.getD_some, Option.getD_none, runDefers, readRes, readRes1, readRess, Nat.reduceAdd, Nat.reduceSub, Nat.reduceMul, Nat.reduceBEq, Nat.ble, Bool.false_and, Bool.true_and, Bool.and_true, Bool.and_false, Bool.or_true, Bool.true_or, Bool.or_false, Bool.false_or, Nat.zero_add, Nat.add_zero, beq_self_eq_true, Bool.true_beq, Bool.false_beq, Bool.not_true, Bool.not_false, decide_true, decide_false, bindO, List.map_cons, List.map_nil, List.length_cons, List.length_nil, List.append_nil, List.nil_append, List.cons_append, List.isEmpty_nil, List.isEmpty_cons, List.all_nil, List.all_cons, Nat.reduceLeDiff, Int.reduceBEq, Int.reduceBNe, Int.reduceLE, Int.reduceLT, Int.reduceGE, Int.reduceGT, Int.reduceNeg, Nat.le_refl, k_api_Type_sz, k_api_Type_ag, k_api_Type_same, k_api_Pred_sz, k_api_Pred_ag, k_api_Pred_same, k_string_sz, k_string_ag, k_string_same, k_int_sz, k_int_ag, k_int_same, k_api_Kind_sz, k_api_Kind_ag, k_api_Kind_same, nat1, nat2, nat3, nat4, nat5, nat6, nat7, nat8, idxL, dT, hrest]
    · have hv : varT ms (.hole x) = .hole x := by
        have : (ms.any fun m => x == (m : Int)) = false := by
          rw [List.any_eq_false]
          intro y hy
          obtain ⟨i, hi, rfl⟩ := List.getElem_of_mem hy
          have := hp i (Nat.zero_le _) hi
          rw [nF_get hi] at this
          simpa using this
        simp only [varT, this]
        rfl
      rw [hv]
      have := rvar_tail m σ (.hole x) ms hl hm hrest (fun i h => absurd h (by simp [Tp.args]))
      exact this
  | .var s => any2 ms hl (.var s) rfl (.all fun n i h => absurd h (by simp [Tp.args])) rfl
  | .con s => any2 ms hl (.con s) rfl (.all fun n i h => absurd h (by simp [Tp.args])) rfl
  | .app f a => any2 ms hl (.app f a) rfl (((rvar_run ms hms hl f).and (rvar_run ms hms hl a)).mono fun n h i hi σ => by
      match i, hi with
      | 0, _ => exact h.1 σ
      | 1, _ => exact h.2 σ) rfl
where
  any2 (ms : List Nat) (hl : ms.length < 100) (t : Tp) (hf : (t.form == 1) = false) (hk : Evly fun n => ∀ i (h : i < t.args.length) σ, T n n_r13_variables [dT t.args[i], dNs ms] σ = some (.ret ⟨false, dT (varT ms t.args[i])⟩, σ))
    (hv : dT (varT ms t) = .agg [.int .i64 t.form, .int .i64 t.num, .str t.name, dlist k_api_Type ((t.args.map (varT ms)).map dT)]) : Evly fun n => ∀ σ, T n n_r13_variables [dT t, dNs ms] σ = some (.ret ⟨false, dT (varT ms t)⟩, σ) :=
    hk.step (ms.length + 4) fun m hm h σ => by
      rw [hv]
      have l0 := loopN_run (body := exec (T m) m a_r13_variables_l0) (Ev0 t ms) (fun _ => σ) ms.length (r := _) (fun _ _ h => by cases h) (fun i hi => lv0_other t ms i hi hl hf) (lv0_end t ms) 0 m (by omega) (by omega)
      exact rvar_tail m σ t ms hl hm l0 (fun i hi => h i hi σ)
end Go.Fu

/-
  The program's variables in the place of numbers, run: what it lays in the store it gives up again.
-/
namespace Go.Fu
open Go Go.Mx
set_option maxRecDepth 10000
/-- All that is in a store stands below its next number. -/
structure WF (σ : Store) : Prop where
  objs : ∀ p ∈ σ.objs, p.1 < σ.next
  tys : ∀ p ∈ σ.tys, p.1 < σ.next
  oth : ∀ p ∈ σ.oth, p.1 < σ.next
def bump (σ : Store) (k : Nat) : Store := { objs := σ.objs, tys := σ.tys, oth := σ.oth, next := σ.next + k }
theorem isNilS_cons {k : RowK} {x : D} {l : List D} : (D.list k (x :: l)).isNilS? = some false := rfl
theorem adel1_none {α : Type} : ∀ (l : List (Nat × α)) (n : Nat), (∀ p ∈ l, p.1 < n) → adel1 l n = l
  | [], _, _ => rfl
  | (k, x) :: l, n, h => by
    have hk : k < n := h (k, x) (by simp)
    have hb : (k == n) = false := by simp; omega
    have := adel1_none l n fun p hp => h p (List.mem_cons_of_mem _ hp)
    simp only [adel1, hb, this]
    rfl
theorem filter_wf {α : Type} (l : List (Nat × α)) (n : Nat) (h : ∀ p ∈ l, p.1 < n) : l.filter (fun p => decide (p.1 < n)) = l := by
  rw [List.filter_eq_self]
  intro p hp
  exact decide_eq_true (h p hp)
theorem freezeD_dlist {n : Nat} {k : RowK} {cs : List D} {os : Objs} : freezeD (n + 1) (dlist k cs) os = some (dlist k cs, os) := by cases cs <;> rfl
/-- The store with a row of two types laid anew. -/
def arrS (σ : Store) (t u : Tp) (k : Nat) : Store := { objs := (σ.next + 2, bT t ++ bT u) :: σ.objs, tys := (σ.next + 2, ⟨k_api_Type.el, 4⟩) :: (σ.next, ⟨k_api_Type.el, 4⟩) :: σ.tys, oth := σ.oth, next := σ.next + 4 + k }
theorem wf_arrS {σ : Store} (h : WF σ) (t u : Tp) (k : Nat) : WF (arrS σ t u k) := by
  refine ⟨fun p hp => ?_, fun p hp => ?_, fun p hp => ?_⟩
  · simp only [arrS, List.mem_cons] at hp ⊢
    rcases hp with rfl | hp
    · simp only; omega
    · have := h.objs p hp; omega
  · simp only [arrS, List.mem_cons] at hp ⊢
    rcases hp with rfl | rfl | hp
    · simp only; omega
    · simp only; omega
    · have := h.tys p hp; omega
  · have := h.oth p hp
    simp only [arrS]; omega
theorem cloneA_run (t u : Tp) : Evly fun n => ∀ σ, WF σ → T n n_slices_Clone_Type [.list k_api_Type [dT t, dT u]] σ = some (.ret ⟨false, .arr k_api_Type (σ.next + 2) 0 2⟩, arrS σ t u 0) := any _ fun n σ hw => by
  rw [T_fun (af := a_slices_Clone_Type) rfl rfl]
  have h1 := adel1_none σ.objs σ.next hw.objs
  have b1 : (decide (112 ≤ bound)) = true := by decide
  have b2 : (decide (2 ≤ bound)) = true := by decide
  simp only [a_slices_Clone_Type, sy0, sy1, sy2, sy3, sy4, sy5, caseO_none, caseO_some, ifB_false, ifB_true, clearEnv, adel, mem, initEnv, initSlots, stepOp, wantedA, evalOp, callOf, panicOf, evalV, addr, opd, opds, aget, aset, adel1, lkill, lfree, readCells, nth, Env.put, Env.putV, Env.box, Env.bare, dropOwn, dropOwnS, binD, binBD, binBool, binInt, binStr, unD, mmD, AOpd.drop, Cell.of, AOp.kind, stableOf, sameKind, assertD, eqlB, isUndef, takeC, unownAt, fits, layCells, putCells, putD, fillD, partsOf, optLo, optHi, allSize, Option.getD_some, Option.getD_none, runDefers, readRes, readRes1, readRess, Nat.reduceAdd, Nat.reduceSub, Nat.reduceMul, Nat.reduceBEq, Nat.ble, Bool.false_and, Bool.true_and, Bool.and_true, Bool.and_false, Bool.or_true, Bool.true_or, Bool.or_false, Bool.false_or, Nat.zero_add, Nat.add_zero, beq_self_eq_true, Bool.true_beq, Bool.false_beq, Bool.not_true, Bool.not_false, decide_true, decide_false, bindO, List.map_cons, List.map_nil, List.length_cons, List.length_nil, List.append_nil, List.nil_append, List.cons_append, List.isEmpty_nil, List.isEmpty_cons, List.all_nil, List.all_cons, Nat.reduceLeDiff, Int.reduceBEq, Int.reduceBNe, Int.reduceLE, Int.reduceLT, Int.reduceGE, Int.reduceGT, Int.reduceNeg, Nat.le_refl, k_api_Type_sz, k_api_Type_ag, k_api_Type_same, k_api_Pred_sz, k_api_Pred_ag, k_api_Pred_same, k_string_sz, k_string_ag, k_string_same, k_int_sz, k_int_ag, k_int_same, k_api_Kind_sz, k_api_Kind_ag, k_api_Kind_same, nat1, nat2, nat3, nat4, nat5, nat6, nat7, nat8, idxL, memE, memOp, isNilS_cons, dT_eq, cT, newArr, cellsOf, appendAD, listOf_list, rowOf, h1, b1, b2, List.take_nil]
  rfl
theorem cloneA_nil : Evly fun n => ∀ σ, T n n_slices_Clone_Type [.nils] σ = some (.ret ⟨false, .nils⟩, σ) := any _ fun n σ => by
  rw [T_fun (af := a_slices_Clone_Type) rfl rfl]
  simp only [a_slices_Clone_Type, sy0, sy1, sy2, sy3, sy4, sy5, caseO_none, caseO_some, ifB_false, ifB_true, clearEnv, adel, mem, initEnv, initSlots, stepOp, wantedA, evalOp, callOf, panicOf, evalV, addr, opd, opds, aget, aset, adel1, lkill, lfree, readCells, nth, Env.put, Env.putV, Env.box, Env.bare, dropOwn, dropOwnS, binD, binBD, binBool, binInt, binStr, unD, mmD, AOpd.drop, Cell.of, AOp.kind, stableOf, sameKind, assertD, eqlB, isUndef, takeC, unownAt, fits, layCells, putCells, putD, fillD, partsOf, optLo, optHi, allSize, Option.getD_some, Option.getD_none, runDefers, readRes, readRes1, readRess, Nat.reduceAdd, Nat.reduceSub, Nat.reduceMul, Nat.reduceBEq, Nat.ble, Bool.false_and, Bool.true_and, Bool.and_true, Bool.and_false, Bool.or_true, Bool.true_or, Bool.or_false, Bool.false_or, Nat.zero_add, Nat.add_zero, beq_self_eq_true, Bool.true_beq, Bool.false_beq, Bool.not_true, Bool.not_false, decide_true, decide_false, bindO, List.map_cons, List.map_nil, List.length_cons, List.length_nil, List.append_nil, List.nil_append, List.cons_append, List.isEmpty_nil, List.isEmpty_cons, List.all_nil, List.all_cons, Nat.reduceLeDiff, Int.reduceBEq, Int.reduceBNe, Int.reduceLE, Int.reduceLT, Int.reduceGE, Int.reduceGT, Int.reduceNeg, Nat.le_refl, k_api_Type_sz, k_api_Type_ag, k_api_Type_same, k_api_Pred_sz, k_api_Pred_ag, k_api_Pred_same, k_string_sz, k_string_ag, k_string_same, k_int_sz, k_int_ag, k_int_same, k_api_Kind_sz, k_api_Kind_ag, k_api_Kind_same, nat1, nat2, nat3, nat4, nat5, nat6, nat7, nat8, idxL]
section
variable {C : CallF} {n : Nat}
def Esv (ms : List Nat) (f a : Tp) (id i : Nat) : Env := { slots := [(1, ⟨false, dNs ms⟩), (2, ⟨false, dSs (ms.map tn)⟩), (29, ⟨false, .arr k_api_Type id 0 2⟩), (30, ⟨false, .int .i64 2⟩), (31, ⟨false, .int .i64 i⟩)], locs := [(3, 3, 0), (6, 6, 0)], boxes := [(3, [⟨false, .int .i64 4⟩, ⟨false, .int .i64 0⟩, ⟨false, .str []⟩, ⟨false, .arr k_api_Type id 0 2⟩]), (6, z4)], defers := [] }
theorem lsv_step0 (σ : Store) (ms : List Nat) (f a : Tp) (k1 : Nat) (hc : C n_scheme_variables [dT f, dNs ms, dSs (ms.map tn)] (arrS σ f a 0) = some (.ret ⟨false, dT (varT ms f)⟩, bump (arrS σ f a 0) k1)) :
    exec C n a_scheme_variables_l0 (Esv ms f a (σ.next + 2) 0) (arrS σ f a 0) = some (.normal, Esv ms f a (σ.next + 2) 1, arrS σ (varT ms f) a k1) := by
  rw [dT_eq f, dT_eq (varT ms f)] at hc
  have h02 : (0 : Nat) < 2 := by decide
  have h12 : (1 : Nat) < 2 := by decide
  have w01 : IntKind.i64.wrap (0 + 1) = 1 := by decide
  have w12 : IntKind.i64.wrap (1 + 1) = 2 := by decide
  simp only [cT, arrS, bT, bump, List.cons_append, List.nil_append, Nat.add_zero] at hc
  simp only [a_scheme_variables_l0, Esv, z4, sy0, sy1, sy2, sy3, sy4, sy5, caseO_none, caseO_some, ifB_false, ifB_true, clearEnv, adel, mem, initEnv, initSlots, stepOp, wantedA, evalOp, callOf, panicOf, evalV, addr, opd, opds, aget, aset, adel1, lkill, lfree, readCells, nth, Env.put, Env.putV, Env.box, Env.bare, dropOwn, dropOwnS, binD, binBD, binBool, binInt, binStr, unD, mmD, AOpd.drop, Cell.of, AOp.kind, stableOf, sameKind, assertD, eqlB, isUndef, takeC, unownAt, fits, layCells, putCells, putD, fillD, partsOf, optLo, optHi, allSize, Option.getD_some, Option.getD_none, runDefers, readRes, readRes1, readRess, Nat.reduceAdd, Nat.reduceSub, Nat.reduceMul, Nat.reduceBEq, Nat.ble, Bool.false_and, Bool.true_and, Bool.and_true, Bool.and_false, Bool.or_true, Bool.true_or, Bool.or_false, Bool.false_or, Nat.zero_add, Nat.add_zero, beq_self_eq_true, Bool.true_beq, Bool.false_beq, Bool.not_true, Bool.not_false, decide_true, decide_false, bindO, List.map_cons, List.map_nil, List.length_cons, List.length_nil, List.append_nil, List.nil_append, List.cons_append, List.isEmpty_nil, List.isEmpty_cons, List.all_nil, List.all_cons, Nat.reduceLeDiff, Int.reduceBEq, Int.reduceBNe, Int.reduceLE, Int.reduceLT, Int.reduceGE, Int.reduceGT, Int.reduceNeg, Nat.le_refl, k_api_Type_sz, k_api_Type_ag, k_api_Type_same, k_api_Pred_sz, k_api_Pred_ag, k_api_Pred_same, k_string_sz, k_string_ag, k_string_same, k_int_sz, k_int_ag, k_int_same, k_api_Kind_sz, k_api_Kind_ag, k_api_Kind_same, nat1, nat2, nat3, nat4, nat5, nat6, nat7, nat8, idxL, zeroI, lit1, lit2, lit3, lit4, lit5, lit6, lit7, lit8, memE, memOp, arrS, bT, indexD_arr, h02, h12, w01, w12, hc]
theorem lsv_step1 (σ : Store) (ms : List Nat) (f a : Tp) (k1 k2 : Nat) (hc : C n_scheme_variables [dT a, dNs ms, dSs (ms.map tn)] (arrS σ f a k1) = some (.ret ⟨false, dT (varT ms a)⟩, bump (arrS σ f a k1) k2)) :
    exec C n a_scheme_variables_l0 (Esv ms f a (σ.next + 2) 1) (arrS σ f a k1) = some (.normal, Esv ms f a (σ.next + 2) 2, bump (arrS σ f (varT ms a) k1) k2) := by
  rw [dT_eq a, dT_eq (varT ms a)] at hc
  have h02 : (0 : Nat) < 2 := by decide
  have h12 : (1 : Nat) < 2 := by decide
  have w01 : IntKind.i64.wrap (0 + 1) = 1 := by decide
  have w12 : IntKind.i64.wrap (1 + 1) = 2 := by decide
  simp only [cT, arrS, bT, bump, List.cons_append, List.nil_append, Nat.add_zero] at hc
  simp only [a_scheme_variables_l0, Esv, z4, sy0, sy1, sy2, sy3, sy4, sy5, caseO_none, caseO_some, ifB_false, ifB_true, clearEnv, adel, mem, initEnv, initSlots, stepOp, wantedA, evalOp, callOf, panicOf, evalV, addr, opd, opds, aget, aset, adel1, lkill, lfree, readCells, nth, Env.put, Env.putV, Env.box, Env.bare, dropOwn, dropOwnS, binD, binBD, binBool, binInt, binStr, unD, mmD, AOpd.drop, Cell.of, AOp.kind, stableOf, sameKind, assertD, eqlB, isUndef, takeC, unownAt, fits, layCells, putCells, putD, fillD, partsOf, optLo, optHi, allSize, Option.getD_some, Option.getD_none, runDefers, readRes, readRes1, readRess, Nat.reduceAdd, Nat.reduceSub, Nat.reduceMul, Nat.reduceBEq, Nat.ble, Bool.false_and, Bool.true_and, Bool.and_true, Bool.and_false, Bool.or_true, Bool.true_or, Bool.or_false, Bool.false_or, Nat.zero_add, Nat.add_zero, beq_self_eq_true, Bool.true_beq, Bool.false_beq, Bool.not_true, Bool.not_false, decide_true, decide_false, bindO, List.map_cons, List.map_nil, List.length_cons, List.length_nil, List.append_nil, List.nil_append, List.cons_append, List.isEmpty_nil, List.isEmpty_cons, List.all_nil, List.all_cons, Nat.reduceLeDiff, Int.reduceBEq, Int.reduceBNe, Int.reduceLE, Int.reduceLT, Int.reduceGE, Int.reduceGT, Int.reduceNeg, Nat.le_refl, k_api_Type_sz, k_api_Type_ag, k_api_Type_same, k_api_Pred_sz, k_api_Pred_ag, k_api_Pred_same, k_string_sz, k_string_ag, k_string_same, k_int_sz, k_int_ag, k_int_same, k_api_Kind_sz, k_api_Kind_ag, k_api_Kind_same, nat1, nat2, nat3, nat4, nat5, nat6, nat7, nat8, idxL, zeroI, lit1, lit2, lit3, lit4, lit5, lit6, lit7, lit8, memE, memOp, arrS, bT, bump, indexD_arr, h02, h12, w01, w12, hc]
def Ese (ms : List Nat) (id : Nat) : Env := { slots := [(1, ⟨false, dNs ms⟩), (2, ⟨false, dSs (ms.map tn)⟩), (29, ⟨false, .arr k_api_Type id 0 2⟩), (30, ⟨false, .int .i64 2⟩), (31, ⟨false, .int .i64 2⟩), (32, ⟨false, .bool false⟩)], locs := [(3, 3, 0), (6, 6, 0)], boxes := [(3, [⟨false, .int .i64 4⟩, ⟨false, .int .i64 0⟩, ⟨false, .str []⟩, ⟨false, .arr k_api_Type id 0 2⟩]), (6, z4)], defers := [] }
theorem lsv_end (σ : Store) (ms : List Nat) (f a : Tp) (id : Nat) : exec C n a_scheme_variables_l0 (Esv ms f a id 2) σ = some (.exit 0, Ese ms id, σ) := by
  simp only [a_scheme_variables_l0, Esv, Ese, z4, sy0, sy1, sy2, sy3, sy4, sy5, caseO_none, caseO_some, ifB_false, ifB_true, clearEnv, adel, mem, initEnv, initSlots, stepOp, wantedA, evalOp, callOf, panicOf, evalV, addr, opd, opds, aget, aset, adel1, lkill, lfree, readCells, nth, Env.put, Env.putV, Env.box, Env.bare, dropOwn, dropOwnS, binD, binBD, binBool, binInt, binStr, unD, mmD, AOpd.drop, Cell.of, AOp.kind, stableOf, sameKind, assertD, eqlB, isUndef, takeC, unownAt, fits, layCells, putCells, putD, fillD, partsOf, optLo, optHi, allSize, Option.getD_some, Option.getD_none, runDefers, readRes, readRes1, readRess, Nat.reduceAdd, Nat.reduceSub, Nat.reduceMul, Nat.reduceBEq, Nat.ble, Bool.false_and, Bool.true_and, Bool.and_true, Bool.and_false, Bool.or_true, Bool.true_or, Bool.or_false, Bool.false_or, Nat.zero_add, Nat.add_zero, beq_self_eq_true, Bool.true_beq, Bool.false_beq, Bool.not_true, Bool.not_false, decide_true, decide_false, bindO, List.map_cons, List.map_nil, List.length_cons, List.length_nil, List.append_nil, List.nil_append, List.cons_append, List.isEmpty_nil, List.isEmpty_cons, List.all_nil, List.all_cons, Nat.reduceLeDiff, Int.reduceBEq, Int.reduceBNe, Int.reduceLE, Int.reduceLT, Int.reduceGE, Int.reduceGT, Int.reduceNeg, Nat.le_refl, k_api_Type_sz, k_api_Type_ag, k_api_Type_same, k_api_Pred_sz, k_api_Pred_ag, k_api_Pred_same, k_string_sz, k_string_ag, k_string_same, k_int_sz, k_int_ag, k_int_same, k_api_Kind_sz, k_api_Kind_ag, k_api_Kind_same, nat1, nat2, nat3, nat4, nat5, nat6, nat7, nat8, idxL, zeroI, lit1, lit2, lit3, lit4, lit5, lit6, lit7, lit8]
end
theorem exec_frz {C : CallF} {n : Nat} {ts : List FTgt} {b : ACode} {e : Env} {σ : Store} : exec C n (.frz ts b) e σ = bindO (freezes ts e σ) fun x => exec C n b x.1 x.2 := rfl
theorem freezeD_int {n : Nat} {k : IntKind} {x : Int} {os : Objs} : freezeD (n + 1) (.int k x) os = some (.int k x, os) := rfl
theorem freezeD_str {n : Nat} {x : List UInt8} {os : Objs} : freezeD (n + 1) (.str x) os = some (.str x, os) := rfl
theorem freezeD_arr {n : Nat} {k : RowK} {id off len : Nat} {os : Objs} : freezeD (n + 1) (.arr k id off len) os = bindO (aget os id) fun cs => ifB ((k.ag || k.sz == 1) && decide ((off + len) * k.sz ≤ cs.length)) (bindO (freezeL (freezeD n) (elems k cs off len) (adel1 os id)) fun r => some (.list k r.1, r.2)) none := rfl
theorem freezeD_agg {n : Nat} {ds : List D} {os : Objs} : freezeD (n + 1) (.agg ds) os = bindO (freezeL (freezeD n) ds os) fun r => some (.agg r.1, r.2) := rfl
theorem elems_row (t u : Tp) : elems k_api_Type (bT t ++ bT u) 0 2 = [.agg (cT t), .agg (cT u)] := rfl
/-- The array is given up as a list. -/
theorem frz_row (ms : List Nat) (t u : Tp) (id : Nat) (σ σ1 : Store) (ho : σ1.objs = (id, bT t ++ bT u) :: σ.objs) (hn : adel1 σ.objs id = σ.objs) :
    freezes [.box 3] (Ese ms id) σ1 = some ({ Ese ms id with boxes := [(3, [⟨false, .int .i64 4⟩, ⟨false, .int .i64 0⟩, ⟨false, .str []⟩, ⟨false, .list k_api_Type [dT t, dT u]⟩]), (6, z4)] }, { objs := σ.objs, tys := σ1.tys, oth := σ1.oth, next := σ1.next }) := by
  have hk : (k_api_Type.ag || k_api_Type.sz == 1) = true := rfl
  have hz : k_api_Type.sz = 4 := rfl
  have hlen : (decide ((0 + 2) * 4 ≤ (bT t ++ bT u).length)) = true := rfl
  have hg : aget ((id, bT t ++ bT u) :: σ.objs) id = some (bT t ++ bT u) := by simp [aget, ifB]
  have hd : adel1 ((id, bT t ++ bT u) :: σ.objs) id = σ.objs := by
    simp only [adel1, beq_self_eq_true, hn]
    rfl
  have hf : freezeD 40 (.arr k_api_Type id 0 2) ((id, bT t ++ bT u) :: σ.objs) = some (.list k_api_Type [.agg (cT t), .agg (cT u)], σ.objs) := by
    simp only [freezeD_arr, hg, hd, k_api_Type_ag, Bool.true_or, hz, hlen, elems_row, bindO, caseO_some, Bool.and_self, ifB_true, freezeL, freezeD_agg, cT, freezeD_int, freezeD_str, freezeD_dlist]
  simp only [freezes, freeze1, Ese, sy0, sy1, sy2, sy3, sy4, sy5, caseO_none, caseO_some, ifB_false, ifB_true, clearEnv, adel, mem, initEnv, initSlots, stepOp, wantedA, evalOp, callOf, panicOf, evalV, addr, opd, opds, aget, aset, adel1, lkill, lfree, readCells, nth, Env.put, Env.putV, Env.box, Env.bare, dropOwn, dropOwnS, binD, binBD, binBool, binInt, binStr, unD, mmD, AOpd.drop, Cell.of, AOp.kind, stableOf, sameKind, assertD, eqlB, isUndef, takeC, unownAt, fits, layCells, putCells, putD, fillD, partsOf, optLo, optHi, allSize, Option.getD_some, Option.getD_none, runDefers, readRes, readRes1, readRess, Nat.reduceAdd, Nat.reduceSub, Nat.reduceMul, Nat.reduceBEq, Nat.ble, Bool.false_and, Bool.true_and, Bool.and_true, Bool.and_false, Bool.or_true, Bool.true_or, Bool.or_false, Bool.false_or, Nat.zero_add, Nat.add_zero, beq_self_eq_true, Bool.true_beq, Bool.false_beq, Bool.not_true, Bool.not_false, decide_true, decide_false, bindO, List.map_cons, List.map_nil, List.length_cons, List.length_nil, List.append_nil, List.nil_append, List.cons_append, List.isEmpty_nil, List.isEmpty_cons, List.all_nil, List.all_cons, Nat.reduceLeDiff, Int.reduceBEq, Int.reduceBNe, Int.reduceLE, Int.reduceLT, Int.reduceGE, Int.reduceGT, Int.reduceNeg, Nat.le_refl, k_api_Type_sz, k_api_Type_ag, k_api_Type_same, k_api_Pred_sz, k_api_Pred_ag, k_api_Pred_same, k_string_sz, k_string_ag, k_string_same, k_int_sz, k_int_ag, k_int_same, k_api_Kind_sz, k_api_Kind_ag, k_api_Kind_same, nat1, nat2, nat3, nat4, nat5, nat6, nat7, nat8, idxL, freezeC, freezeD_int, freezeD_str, ho, hf, dT_eq, Cell.keeps]
/-- How many numbers of the store it takes. -/
def cnt : Tp → Nat
  | .app f a => 4 + cnt f + cnt a
  | _ => 0
theorem svar_app (m : Nat) (hm : 8 ≤ m) (σ : Store) (hw : WF σ) (ms : List Nat) (f a : Tp) (k1 k2 : Nat) (h0 : T m n_slices_Clone_Type [.list k_api_Type [dT f, dT a]] σ = some (.ret ⟨false, .arr k_api_Type (σ.next + 2) 0 2⟩, arrS σ f a 0))
    (h1 : T m n_scheme_variables [dT f, dNs ms, dSs (ms.map tn)] (arrS σ f a 0) = some (.ret ⟨false, dT (varT ms f)⟩, bump (arrS σ f a 0) k1))
    (h2 : T m n_scheme_variables [dT a, dNs ms, dSs (ms.map tn)] (arrS σ (varT ms f) a k1) = some (.ret ⟨false, dT (varT ms a)⟩, bump (arrS σ (varT ms f) a k1) k2)) :
    T (m + 1) n_scheme_variables [dT (.app f a), dNs ms, dSs (ms.map tn)] σ = some (.ret ⟨false, dT (.app (varT ms f) (varT ms a))⟩, bump σ (4 + k1 + k2)) := by
  have hloop : loopN (exec (T m) m a_scheme_variables_l0) m (Esv ms f a (σ.next + 2) 0) (arrS σ f a 0) = some (.exit 0, Ese ms (σ.next + 2), bump (arrS σ (varT ms f) (varT ms a) k1) k2) := by
    obtain ⟨j, rfl⟩ : ∃ j, m = j + 3 := ⟨m - 3, by omega⟩
    rw [loopN_more (lsv_step0 σ ms f a k1 h1)]
    have e1 : Esv ms f a (σ.next + 2) 1 = Esv ms (varT ms f) a (σ.next + 2) 1 := rfl
    rw [e1, loopN_more (lsv_step1 σ ms (varT ms f) a k1 k2 h2)]
    exact loopN_one (lsv_end _ ms _ a (σ.next + 2))
  rw [T_fun (af := a_scheme_variables) rfl rfl]
  have x1 := adel1_none σ.objs (σ.next + 2) (fun p hp => by have := hw.objs p hp; omega)
  have f1 := filter_wf σ.objs σ.next hw.objs
  have f2 := filter_wf σ.tys σ.next hw.tys
  have f3 := filter_wf σ.oth σ.next hw.oth
  simp only [Esv, Ese, z4, zeroI, arrS, bump, bT, List.cons_append, List.nil_append, Nat.add_zero] at hloop h0
  have hz := frz_row ms (varT ms f) (varT ms a) (σ.next + 2) σ (bump (arrS σ (varT ms f) (varT ms a) k1) k2) rfl x1
  simp only [Ese, z4, arrS, bump, bT, List.cons_append, List.nil_append, Nat.add_zero] at hz
  simp only [a_scheme_variables, sy0, sy1, sy2, sy3, sy4, sy5, caseO_none, caseO_some, ifB_false, ifB_true, clearEnv, adel, mem, initEnv, initSlots, stepOp, wantedA, evalOp, callOf, panicOf, evalV, addr, opd, opds, aget, aset, adel1, lkill, lfree, readCells, nth, Env.put, Env.putV, Env.box, Env.bare, dropOwn, dropOwnS, binD, binBD, binBool, binInt, binStr, unD, mmD, AOpd.drop, Cell.of, AOp.kind, stableOf, sameKind, assertD, eqlB, isUndef, takeC, unownAt, fits, layCells, putCells, putD, fillD, partsOf, optLo, optHi, allSize, Option.getD_some, Option.getD_none, runDefers, readRes, readRes1, readRess, Nat.reduceAdd, Nat.reduceSub, Nat.reduceMul, Nat.reduceBEq, Nat.ble, Bool.false_and, Bool.true_and, Bool.and_true, Bool.and_false, Bool.or_true, Bool.true_or, Bool.or_false, Bool.false_or, Nat.zero_add, Nat.add_zero, beq_self_eq_true, Bool.true_beq, Bool.false_beq, Bool.not_true, Bool.not_false, decide_true, decide_false, bindO, List.map_cons, List.map_nil, List.length_cons, List.length_nil, List.append_nil, List.nil_append, List.cons_append, List.isEmpty_nil, List.isEmpty_cons, List.all_nil, List.all_cons, Nat.reduceLeDiff, Int.reduceBEq, Int.reduceBNe, Int.reduceLE, Int.reduceLT, Int.reduceGE, Int.reduceGT, Int.reduceNeg, Nat.le_refl, k_api_Type_sz, k_api_Type_ag, k_api_Type_same, k_api_Pred_sz, k_api_Pred_ag, k_api_Pred_same, k_string_sz, k_string_ag, k_string_same, k_int_sz, k_int_ag, k_int_same, k_api_Kind_sz, k_api_Kind_ag, k_api_Kind_same, nat1, nat2, nat3, nat4, nat5, nat6, nat7, nat8, idxL, zeroI, lit1, lit2, lit3, lit4, lit5, lit6, lit7, lit8, dT, h0, hloop, exec_frz, hz]
  have g1 : decide (σ.next + 2 < σ.next) = false := by simp
  have g2 : decide (σ.next < σ.next) = false := by simp
  simp only [Store.trunc, List.filter_cons, g1, g2, f1, f2, f3, bump, Bool.false_eq_true, if_false, Nat.add_assoc]
end Go.Fu

