/-
  Rows that lie in the store as arrays: what an append does, what a frozen row is.
-/
import Derived.Test.YtkgdpcnobfadaaaDoorFqQ3
set_option linter.unusedSimpArgs false
set_option linter.unusedVariables false
namespace Go.Fu
open Go Go.Mx
set_option maxRecDepth 10000
theorem cellsOf_append : ∀ a b : List D, cellsOf (a ++ b) = cellsOf a ++ cellsOf b
  | [], b => rfl
  | d :: a, b => by simp only [List.cons_append, cellsOf, cellsOf_append a b, List.append_assoc]
theorem cellsOf_of : ∀ a : List D, (cellsOf a).map (fun c => Cell.of c.d) = cellsOf a
  | [] => rfl
  | d :: a => by
    simp only [cellsOf, List.map_append, List.map_map, cellsOf_of a]
    rfl
theorem cellsOf_len {z : Nat} : ∀ a : List D, (∀ d ∈ a, d.cells.length = z) → (cellsOf a).length = a.length * z
  | [], _ => by simp [cellsOf]
  | d :: a, h => by
    have h1 := h d (by simp)
    have h2 := cellsOf_len a fun x hx => h x (List.mem_cons_of_mem _ hx)
    simp only [cellsOf, List.length_append, List.length_map, h1, h2, List.length_cons, Nat.succ_mul, Nat.add_comm]
theorem appendAD_arr {σ : Store} {k : RowK} {by_ id : Nat} {ds : List D} {y : D} {os : Objs} (ha : aget σ.objs id = some (cellsOf ds)) (hb' : aget σ.tys id = some ⟨k.el, k.sz⟩) (hd : adel1 σ.objs id = os)
    (hs : ∀ d ∈ ds, d.cells.length = k.sz) (hk : y.ok = true) (hy : y.cells.length = k.sz) (hb : (ds.length + 1) * by_ ≤ bound) (hb2 : ds.length + 1 ≤ bound) :
    appendAD σ k by_ (.arr k id 0 ds.length) [y] = some (.arr k σ.next 0 (ds.length + 1), { objs := (σ.next, cellsOf (ds ++ [y])) :: os, tys := (σ.next, ⟨k.el, k.sz⟩) :: σ.tys, oth := σ.oth, next := σ.next + 2 }) := by
  have h1 : allSize k.sz [y] = true := by simp [allSize, hk, hy]
  have hl := cellsOf_len ds hs
  have ht2 : (cellsOf ds).take (ds.length * k.sz) = cellsOf ds := List.take_of_length_le (by omega)
  have e0 : decide (ds.length * k.sz ≤ (cellsOf ds).length) = true := by simp; omega
  have e1 : decide ((ds.length + 1) * by_ ≤ bound) = true := by simpa using hb
  have e2 : decide (ds.length + 1 ≤ bound) = true := by simpa using hb2
  have ek : k.same k = true := by simp [RowK.same]
  have en : (cellsOf ds).map (fun c => Cell.of c.d) ++ cellsOf [y] = cellsOf (ds ++ [y]) := by rw [cellsOf_of, cellsOf_append]
  simp only [appendAD, h1, ifB, ha, bindO, caseO_some, hb', ek, List.length_cons, List.length_nil, Nat.zero_add, e0, e1, e2, hd, ht2, en, newArr, beq_self_eq_true, Bool.and_self]
theorem appendAD_nil {σ : Store} {k : RowK} {by_ : Nat} {y : D} (hk : y.ok = true) (hy : y.cells.length = k.sz) (hb : by_ ≤ bound) :
    appendAD σ k by_ .nils [y] = some (.arr k σ.next 0 1, { objs := (σ.next, cellsOf [y]) :: σ.objs, tys := (σ.next, ⟨k.el, k.sz⟩) :: σ.tys, oth := σ.oth, next := σ.next + 2 }) := by
  have h1 : allSize k.sz [y] = true := by simp [allSize, hk, hy]
  have e1 : decide (1 * by_ ≤ bound) = true := by simpa using hb
  have e2 : decide (1 ≤ bound) = true := by decide
  simp only [appendAD, h1, ifB, List.length_cons, List.length_nil, Nat.zero_add, e1, e2, newArr, List.isEmpty_cons, Bool.and_self]
theorem chunks_cells {k : RowK} : ∀ ds : List D, (∀ d ∈ ds, d.cells.length = k.sz ∧ packD k d.cells = d) → chunks k ds.length ((cellsOf ds).map fun c => c.d) = ds
  | [], _ => rfl
  | d :: ds, h => by
    obtain ⟨h1, h2⟩ := h d (by simp)
    have h3 := chunks_cells ds fun x hx => h x (List.mem_cons_of_mem _ hx)
    have e1 : (d.cells.map Cell.of).map (fun c => c.d) = d.cells := by
      rw [List.map_map]
      exact List.map_id'' (fun _ => rfl) _
    simp only [List.length_cons, chunks, cellsOf, List.map_append, e1]
    rw [List.take_left' h1, List.drop_left' h1, h2, h3]
theorem elems_cells {k : RowK} {ds : List D} (h : ∀ d ∈ ds, d.cells.length = k.sz ∧ packD k d.cells = d) : elems k (cellsOf ds) 0 ds.length = ds := by
  simp only [elems, Nat.zero_mul, List.drop_zero]
  exact chunks_cells ds h
theorem freezeL_id {n : Nat} {os : Objs} : ∀ ds : List D, (∀ d ∈ ds, freezeD n d os = some (d, os)) → freezeL (freezeD n) ds os = some (ds, os)
  | [], _ => rfl
  | d :: ds, h => by
    have h1 := h d (by simp)
    have h2 := freezeL_id ds fun x hx => h x (List.mem_cons_of_mem _ hx)
    simp only [freezeL, h1, bindO, caseO_some, h2]
/-- An array that is given up is a list. -/
theorem freezeD_row {k : RowK} {id n : Nat} {ds : List D} {os os' : Objs} (ho : aget os id = some (cellsOf ds)) (hd : adel1 os id = os') (hk : (k.ag || k.sz == 1) = true) (h : ∀ d ∈ ds, d.cells.length = k.sz ∧ packD k d.cells = d) (hf : ∀ d ∈ ds, freezeD n d os' = some (d, os')) :
    freezeD (n + 1) (.arr k id 0 ds.length) os = some (.list k ds, os') := by
  have hl := cellsOf_len ds fun d hd => (h d hd).1
  have e0 : decide ((0 + ds.length) * k.sz ≤ (cellsOf ds).length) = true := by simp; omega
  simp only [freezeD_arr, ho, bindO, caseO_some, hk, e0, Bool.and_self, ifB, elems_cells h, hd, freezeL_id ds hf]
end Go.Fu

/-
  Where a number stands among numbers; the program's variables, run at every type.
-/
namespace Go.Fu
open Go Go.Mx
set_option maxRecDepth 10000
section
variable {C : CallF} {n : Nat} {σ : Store}
def Eix (l : List Nat) (x : Int) (i : Nat) : Env := { slots := [(0, ⟨false, dlist k_int (l.map dN)⟩), (1, ⟨false, .int .i64 x⟩), (7, ⟨false, .int .i64 l.length⟩), (8, ⟨false, .int .i64 i⟩)], locs := [], boxes := [], defers := [] }
theorem lix_step (l : List Nat) (x : Int) (i : Nat) (h : i < l.length) (hl : l.length < 1048576) (hp : (x == (l[i] : Int)) = false) : exec C n a_slices_Index_int_l0 (Eix l x i) σ = some (.normal, Eix l x (i + 1), σ) := by
  have hi : ((i : Int) < (l.length : Int)) := by omega
  simp only [a_slices_Index_int_l0, Eix, sy0, sy1, sy2, sy3, sy4, sy5, caseO_none, caseO_some, ifB_false, ifB_true, clearEnv, adel, mem, initEnv, initSlots, stepOp, wantedA, evalOp, callOf, panicOf, evalV, addr, opd, opds, aget, aset, adel1, lkill, lfree, readCells, nth, Env.put, Env.putV, Env.box, Env.bare, dropOwn, dropOwnS, binD, binBD, binBool, binInt, binStr, unD, mmD, AOpd.drop, Cell.of, AOp.kind, stableOf, sameKind, assertD, eqlB, isUndef, takeC, unownAt, fits, layCells, putCells, putD, fillD, partsOf, optLo, optHi, allSize, Option.getD_some, Option.getD_none, runDefers, readRes, readRes1, readRess, Nat.reduceAdd, Nat.reduceSub, Nat.reduceMul, Nat.reduceBEq, Nat.ble, Bool.false_and, Bool.true_and, Bool.and_true, Bool.and_false, Bool.or_true, Bool.true_or, Bool.or_false, Bool.false_or, Nat.zero_add, Nat.add_zero, beq_self_eq_true, Bool.true_beq, Bool.false_beq, Bool.not_true, Bool.not_false, decide_true, decide_false, bindO, List.map_cons, List.map_nil, List.length_cons, List.length_nil, List.append_nil, List.nil_append, List.cons_append, List.isEmpty_nil, List.isEmpty_cons, List.all_nil, List.all_cons, Nat.reduceLeDiff, Int.reduceBEq, Int.reduceBNe, Int.reduceLE, Int.reduceLT, Int.reduceGE, Int.reduceGT, Int.reduceNeg, Nat.le_refl, k_api_Type_sz, k_api_Type_ag, k_api_Type_same, k_api_Pred_sz, k_api_Pred_ag, k_api_Pred_same, k_string_sz, k_string_ag, k_string_same, k_int_sz, k_int_ag, k_int_same, k_api_Kind_sz, k_api_Kind_ag, k_api_Kind_same, nat1, nat2, nat3, nat4, nat5, nat6, nat7, nat8, idxL, hi, idx_N _ _ h, hp, wrap64_succ (i := i) (by omega)]
theorem lix_stop (l : List Nat) (x : Int) (i : Nat) (h : i < l.length) (hl : l.length < 1048576) (hp : (x == (l[i] : Int)) = true) : exec C n a_slices_Index_int_l0 (Eix l x i) σ = some (.ret, { slots := [(4, ⟨false, .int .i64 i⟩)], locs := [], boxes := [], defers := [] }, σ) := by
  have hi : ((i : Int) < (l.length : Int)) := by omega
  simp only [a_slices_Index_int_l0, Eix, sy0, sy1, sy2, sy3, sy4, sy5, caseO_none, caseO_some, ifB_false, ifB_true, clearEnv, adel, mem, initEnv, initSlots, stepOp, wantedA, evalOp, callOf, panicOf, evalV, addr, opd, opds, aget, aset, adel1, lkill, lfree, readCells, nth, Env.put, Env.putV, Env.box, Env.bare, dropOwn, dropOwnS, binD, binBD, binBool, binInt, binStr, unD, mmD, AOpd.drop, Cell.of, AOp.kind, stableOf, sameKind, assertD, eqlB, isUndef, takeC, unownAt, fits, layCells, putCells, putD, fillD, partsOf, optLo, optHi, allSize, Option.getD_some, Option.getD_none, runDefers, readRes, readRes1, readRess, Nat.reduceAdd, Nat.reduceSub, Nat.reduceMul, Nat.reduceBEq, Nat.ble, Bool.false_and, Bool.true_and, Bool.and_true, Bool.and_false, Bool.or_true, Bool.true_or, Bool.or_false, Bool.false_or, Nat.zero_add, Nat.add_zero, beq_self_eq_true, Bool.true_beq, Bool.false_beq, Bool.not_true, Bool.not_false, decide_true, decide_false, bindO, List.map_cons, List.map_nil, List.length_cons, List.length_nil, List.append_nil, List.nil_append, List.cons_append, List.isEmpty_nil, List.isEmpty_cons, List.all_nil, List.all_cons, Nat.reduceLeDiff, Int.reduceBEq, Int.reduceBNe, Int.reduceLE, Int.reduceLT, Int.reduceGE, Int.reduceGT, Int.reduceNeg, Nat.le_refl, k_api_Type_sz, k_api_Type_ag, k_api_Type_same, k_api_Pred_sz, k_api_Pred_ag, k_api_Pred_same, k_string_sz, k_string_ag, k_string_same, k_int_sz, k_int_ag, k_int_same, k_api_Kind_sz, k_api_Kind_ag, k_api_Kind_same, nat1, nat2, nat3, nat4, nat5, nat6, nat7, nat8, idxL, hi, idx_N _ _ h, hp]
theorem lix_end (l : List Nat) (x : Int) : exec C n a_slices_Index_int_l0 (Eix l x l.length) σ = some (.exit 0, { Eix l x l.length with slots := [(0, ⟨false, dlist k_int (l.map dN)⟩), (1, ⟨false, .int .i64 x⟩), (7, ⟨false, .int .i64 l.length⟩), (8, ⟨false, .int .i64 l.length⟩), (9, ⟨false, .bool false⟩)] }, σ) := by
  have hi : ¬ ((l.length : Int) < (l.length : Int)) := by omega
  simp only [a_slices_Index_int_l0, Eix, sy0, sy1, sy2, sy3, sy4, sy5, caseO_none, caseO_some, ifB_false, ifB_true, clearEnv, adel, mem, initEnv, initSlots, stepOp, wantedA, evalOp, callOf, panicOf, evalV, addr, opd, opds, aget, aset, adel1, lkill, lfree, readCells, nth, Env.put, Env.putV, Env.box, Env.bare, dropOwn, dropOwnS, binD, binBD, binBool, binInt, binStr, unD, mmD, AOpd.drop, Cell.of, AOp.kind, stableOf, sameKind, assertD, eqlB, isUndef, takeC, unownAt, fits, layCells, putCells, putD, fillD, partsOf, optLo, optHi, allSize, Option.getD_some, Option.getD_none, runDefers, readRes, readRes1, readRess, Nat.reduceAdd, Nat.reduceSub, Nat.reduceMul, Nat.reduceBEq, Nat.ble, Bool.false_and, Bool.true_and, Bool.and_true, Bool.and_false, Bool.or_true, Bool.true_or, Bool.or_false, Bool.false_or, Nat.zero_add, Nat.add_zero, beq_self_eq_true, Bool.true_beq, Bool.false_beq, Bool.not_true, Bool.not_false, decide_true, decide_false, bindO, List.map_cons, List.map_nil, List.length_cons, List.length_nil, List.append_nil, List.nil_append, List.cons_append, List.isEmpty_nil, List.isEmpty_cons, List.all_nil, List.all_cons, Nat.reduceLeDiff, Int.reduceBEq, Int.reduceBNe, Int.reduceLE, Int.reduceLT, Int.reduceGE, Int.reduceGT, Int.reduceNeg, Nat.le_refl, k_api_Type_sz, k_api_Type_ag, k_api_Type_same, k_api_Pred_sz, k_api_Pred_ag, k_api_Pred_same, k_string_sz, k_string_ag, k_string_same, k_int_sz, k_int_ag, k_int_same, k_api_Kind_sz, k_api_Kind_ag, k_api_Kind_same, nat1, nat2, nat3, nat4, nat5, nat6, nat7, nat8, idxL, hi]
end
theorem intIndex (m : Nat) (l : List Nat) (x : Int) (hl : l.length < 1048576) (hm : l.length + 2 ≤ m) (σ : Store) : (∃ i, ∃ h : i < l.length, x = (l[i] : Int) ∧ T (m + 1) n_slices_Index_int [dNs l, .int .i64 x] σ = some (.ret ⟨false, .int .i64 i⟩, σ)) ∨
    ((l.any fun m => x == (m : Int)) = false ∧ T (m + 1) n_slices_Index_int [dNs l, .int .i64 x] σ = some (.ret ⟨false, .int .i64 (-1)⟩, σ)) := by
  rw [T_fun (af := a_slices_Index_int) rfl rfl]
  have hloop := loopN_until (body := exec (T m) m a_slices_Index_int_l0) (Eix l x) (fun _ => σ) l.length (nF l x) (stop := fun i => (.ret, { slots := [(4, ⟨false, .int .i64 i⟩)], locs := [], boxes := [], defers := [] }, σ)) (fun _ _ h => by cases h) (fun _ _ _ h => by cases h)
    (fun i hi hp => lix_step l x i hi hl (by rw [nF_get hi] at hp; simpa using hp)) (fun i hi hp => lix_stop l x i hi hl (by rw [nF_get hi] at hp; simpa using hp)) (lix_end l x) m 0 (by omega) (by omega)
  simp only [Eix, zeroI] at hloop
  rcases hloop with ⟨i, _, hi, hp, hb, hrest⟩ | ⟨hp, hrest⟩
  · rw [nF_get hi] at hp
    refine .inl ⟨i, hi, by simpa using hp, ?_⟩
    simp only [a_slices_Index_int, sy0, sy1, sy2, sy3, sy4, sy5, caseO_none, caseO_some, ifB_false, ifB_true, clearEnv, adel, mem, initEnv, initSlots, stepOp, wantedA, evalOp, callOf, panicOf, evalV, addr, opd, opds, aget, aset, adel1, lkill, lfree, readCells, nth, Env.put, Env.putV, Env.box, Env.bare, dropOwn, dropOwnS, binD, binBD, binBool, binInt, binStr, unD, mmD, AOpd.drop, Cell.of, AOp.kind, stableOf, sameKind, assertD, eqlB, isUndef, takeC, unownAt, fits, layCells, putCells, putD, fillD, partsOf, optLo, optHi, allSize, Option.getD_some, Option.getD_none, runDefers, readRes, readRes1, readRess, Nat.reduceAdd, Nat.reduceSub, Nat.reduceMul, Nat.reduceBEq, Nat.ble, Bool.false_and, Bool.true_and, Bool.and_true, Bool.and_false, Bool.or_true, Bool.true_or, Bool.or_false, Bool.false_or, Nat.zero_add, Nat.add_zero, beq_self_eq_true, Bool.true_beq, Bool.false_beq, Bool.not_true, Bool.not_false, decide_true, decide_false, bindO, List.map_cons, List.map_nil, List.length_cons, List.length_nil, List.append_nil, List.nil_append, List.cons_append, List.isEmpty_nil, List.isEmpty_cons, List.all_nil, List.all_cons, Nat.reduceLeDiff, Int.reduceBEq, Int.reduceBNe, Int.reduceLE, Int.reduceLT, Int.reduceGE, Int.reduceGT, Int.reduceNeg, Nat.le_refl, k_api_Type_sz, k_api_Type_ag, k_api_Type_same, k_api_Pred_sz, k_api_Pred_ag, k_api_Pred_same, k_string_sz, k_string_ag, k_string_same, k_int_sz, k_int_ag, k_int_same, k_api_Kind_sz, k_api_Kind_ag, k_api_Kind_same, nat1, nat2, nat3, nat4, nat5, nat6, nat7, nat8, idxL, dNs, List.length_map, hrest]
  · refine .inr ⟨?_, ?_⟩
    · rw [List.any_eq_false]
      intro y hy
      obtain ⟨i, hi, rfl⟩ := List.getElem_of_mem hy
      have := hp i (Nat.zero_le _) hi
      rw [nF_get hi] at this
      simpa using this
    · simp only [a_slices_Index_int, sy0, sy1, sy2, sy3, sy4, sy5, caseO_none, caseO_some, ifB_false, ifB_true, clearEnv, adel, mem, initEnv, initSlots, stepOp, wantedA, evalOp, callOf, panicOf, evalV, addr, opd, opds, aget, aset, adel1, lkill, lfree, readCells, nth, Env.put, Env.putV, Env.box, Env.bare, dropOwn, dropOwnS, binD, binBD, binBool, binInt, binStr, unD, mmD, AOpd.drop, Cell.of, AOp.kind, stableOf, sameKind, assertD, eqlB, isUndef, takeC, unownAt, fits, layCells, putCells, putD, fillD, partsOf, optLo, optHi, allSize, Option.getD_some, Option.getD_none, runDefers, readRes, readRes1, readRess, Nat.reduceAdd, Nat.reduceSub, Nat.reduceMul, Nat.reduceBEq, Nat.ble, Bool.false_and, Bool.true_and, Bool.and_true, Bool.and_false, Bool.or_true, Bool.true_or, Bool.or_false, Bool.false_or, Nat.zero_add, Nat.add_zero, beq_self_eq_true, Bool.true_beq, Bool.false_beq, Bool.not_true, Bool.not_false, decide_true, decide_false, bindO, List.map_cons, List.map_nil, List.length_cons, List.length_nil, List.append_nil, List.nil_append, List.cons_append, List.isEmpty_nil, List.isEmpty_cons, List.all_nil, List.all_cons, Nat.reduceLeDiff, Int.reduceBEq, Int.reduceBNe, Int.reduceLE, Int.reduceLT, Int.reduceGE, Int.reduceGT, Int.reduceNeg, Nat.le_refl, k_api_Type_sz, k_api_Type_ag, k_api_Type_same, k_api_Pred_sz, k_api_Pred_ag, k_api_Pred_same, k_string_sz, k_string_ag, k_string_same, k_int_sz, k_int_ag, k_int_same, k_api_Kind_sz, k_api_Kind_ag, k_api_Kind_same, nat1, nat2, nat3, nat4, nat5, nat6, nat7, nat8, idxL, dNs, List.length_map, hrest]
theorem var_run : Evly fun n => ∀ (s : List UInt8) σ, T n n_types_Var [.str s] σ = some (.ret ⟨false, dT (.var s)⟩, σ) := any _ fun n s σ => by
  rw [T_fun (af := a_types_Var) rfl rfl]
  simp only [a_types_Var, sy0, sy1, sy2, sy3, sy4, sy5, caseO_none, caseO_some, ifB_false, ifB_true, clearEnv, adel, mem, initEnv, initSlots, stepOp, wantedA, evalOp, callOf, panicOf, evalV, addr, opd, opds, aget, aset, adel1, lkill, lfree, readCells, nth, Env.put, Env.putV, Env.box, Env.bare, dropOwn, dropOwnS, binD, binBD, binBool, binInt, binStr, unD, mmD, AOpd.drop, Cell.of, AOp.kind, stableOf, sameKind, assertD, eqlB, isUndef, takeC, unownAt, fits, layCells, putCells, putD, fillD, partsOf, optLo, optHi, allSize, Option.getD_some, Option.getD_none, runDefers, readRes, readRes1, readRess, Nat.reduceAdd, Nat.reduceSub, Nat.reduceMul, Nat.reduceBEq, Nat.ble, Bool.false_and, Bool.true_and, Bool.and_true, Bool.and_false, Bool.or_true, Bool.true_or, Bool.or_false, Bool.false_or, Nat.zero_add, Nat.add_zero, beq_self_eq_true, Bool.true_beq, Bool.false_beq, Bool.not_true, Bool.not_false, decide_true, decide_false, bindO, List.map_cons, List.map_nil, List.length_cons, List.length_nil, List.append_nil, List.nil_append, List.cons_append, List.isEmpty_nil, List.isEmpty_cons, List.all_nil, List.all_cons, Nat.reduceLeDiff, Int.reduceBEq, Int.reduceBNe, Int.reduceLE, Int.reduceLT, Int.reduceGE, Int.reduceGT, Int.reduceNeg, Nat.le_refl, k_api_Type_sz, k_api_Type_ag, k_api_Type_same, k_api_Pred_sz, k_api_Pred_ag, k_api_Pred_same, k_string_sz, k_string_ag, k_string_same, k_int_sz, k_int_ag, k_int_same, k_api_Kind_sz, k_api_Kind_ag, k_api_Kind_same, nat1, nat2, nat3, nat4, nat5, nat6, nat7, nat8, idxL, dT]
/-- A loop over nothing. -/
theorem lsv_nil {C : CallF} {n : Nat} {σ : Store} (ms : List Nat) (f : Int) (x : Int) (s : List UInt8) : exec C n a_scheme_variables_l0 { slots := [(1, ⟨false, dNs ms⟩), (2, ⟨false, dSs (ms.map tn)⟩), (29, ⟨false, .nils⟩), (30, ⟨false, .int .i64 0⟩), (31, ⟨false, .int .i64 0⟩)], locs := [(3, 3, 0), (6, 6, 0)], boxes := [(3, [⟨false, .int .i64 f⟩, ⟨false, .int .i64 x⟩, ⟨false, .str s⟩, ⟨false, .nils⟩]), (6, z4)], defers := [] } σ =
    some (.exit 0, { slots := [(1, ⟨false, dNs ms⟩), (2, ⟨false, dSs (ms.map tn)⟩), (29, ⟨false, .nils⟩), (30, ⟨false, .int .i64 0⟩), (31, ⟨false, .int .i64 0⟩), (32, ⟨false, .bool false⟩)], locs := [(3, 3, 0), (6, 6, 0)], boxes := [(3, [⟨false, .int .i64 f⟩, ⟨false, .int .i64 x⟩, ⟨false, .str s⟩, ⟨false, .nils⟩]), (6, z4)], defers := [] }, σ) := by
  simp only [a_scheme_variables_l0, z4, sy0, sy1, sy2, sy3, sy4, sy5, caseO_none, caseO_some, ifB_false, ifB_true, clearEnv, adel, mem, initEnv, initSlots, stepOp, wantedA, evalOp, callOf, panicOf, evalV, addr, opd, opds, aget, aset, adel1, lkill, lfree, readCells, nth, Env.put, Env.putV, Env.box, Env.bare, dropOwn, dropOwnS, binD, binBD, binBool, binInt, binStr, unD, mmD, AOpd.drop, Cell.of, AOp.kind, stableOf, sameKind, assertD, eqlB, isUndef, takeC, unownAt, fits, layCells, putCells, putD, fillD, partsOf, optLo, optHi, allSize, Option.getD_some, Option.getD_none, runDefers, readRes, readRes1, readRess, Nat.reduceAdd, Nat.reduceSub, Nat.reduceMul, Nat.reduceBEq, Nat.ble, Bool.false_and, Bool.true_and, Bool.and_true, Bool.and_false, Bool.or_true, Bool.true_or, Bool.or_false, Bool.false_or, Nat.zero_add, Nat.add_zero, beq_self_eq_true, Bool.true_beq, Bool.false_beq, Bool.not_true, Bool.not_false, decide_true, decide_false, bindO, List.map_cons, List.map_nil, List.length_cons, List.length_nil, List.append_nil, List.nil_append, List.cons_append, List.isEmpty_nil, List.isEmpty_cons, List.all_nil, List.all_cons, Nat.reduceLeDiff, Int.reduceBEq, Int.reduceBNe, Int.reduceLE, Int.reduceLT, Int.reduceGE, Int.reduceGT, Int.reduceNeg, Nat.le_refl, k_api_Type_sz, k_api_Type_ag, k_api_Type_same, k_api_Pred_sz, k_api_Pred_ag, k_api_Pred_same, k_string_sz, k_string_ag, k_string_same, k_int_sz, k_int_ag, k_int_same, k_api_Kind_sz, k_api_Kind_ag, k_api_Kind_same, nat1, nat2, nat3, nat4, nat5, nat6, nat7, nat8, idxL]
theorem frz_nil (e : Env) (σ : Store) (f x : Int) (s : List UInt8) (h : e.boxes = [(3, [⟨false, .int .i64 f⟩, ⟨false, .int .i64 x⟩, ⟨false, .str s⟩, ⟨false, .nils⟩]), (6, z4)]) : freezes [.box 3] e σ = some (e, σ) := by
  obtain ⟨a, b, c, d⟩ := e
  simp only at h
  subst h
  rfl
theorem trunc_self {σ : Store} (hw : WF σ) : σ.trunc σ.next = bump σ 0 := by
  simp only [Store.trunc, filter_wf σ.objs σ.next hw.objs, filter_wf σ.tys σ.next hw.tys, filter_wf σ.oth σ.next hw.oth, bump, Nat.add_zero]
theorem svar_leaf (m : Nat) (hm : 4 ≤ m) (σ : Store) (hw : WF σ) (ms : List Nat) (f x : Int) (s : List UInt8) (h0 : T m n_slices_Clone_Type [.nils] σ = some (.ret ⟨false, .nils⟩, σ))
    (hx : (f == 1) = false ∨ ((f == 1) = true ∧ T m n_slices_Index_int [dNs ms, .int .i64 x] σ = some (.ret ⟨false, .int .i64 (-1)⟩, σ))) :
    T (m + 1) n_scheme_variables [.agg [.int .i64 f, .int .i64 x, .str s, .nils], dNs ms, dSs (ms.map tn)] σ = some (.ret ⟨false, .agg [.int .i64 f, .int .i64 x, .str s, .nils]⟩, bump σ 0) := by
  obtain ⟨j, rfl⟩ : ∃ j, m = j + 1 := ⟨m - 1, by omega⟩
  have hloop := loopN_one (k := j) (lsv_nil (C := T (j + 1)) (n := j + 1) (σ := σ) ms f x s)
  rw [T_fun (af := a_scheme_variables) rfl rfl]
  simp only [z4] at hloop
  have ht := trunc_self hw
  rcases hx with hx | ⟨hx, h1⟩
  · have hz := fun sl => frz_nil { slots := sl, locs := [(3, 3, 0), (6, 6, 0)], boxes := [(3, [⟨false, .int .i64 f⟩, ⟨false, .int .i64 x⟩, ⟨false, .str s⟩, ⟨false, .nils⟩]), (6, z4)], defers := [] } σ f x s rfl
    simp only [z4] at hz
    simp only [a_scheme_variables, sy0, sy1, sy2, sy3, sy4, sy5, caseO_none, caseO_some, ifB_false, ifB_true, clearEnv, adel, mem, initEnv, initSlots, stepOp, wantedA, evalOp, callOf, panicOf, evalV, addr, opd, opds, aget, aset, adel1, lkill, lfree, readCells, nth, Env.put, Env.putV, Env.box, Env.bare, dropOwn, dropOwnS, binD, binBD, binBool, binInt, binStr, unD, mmD, AOpd.drop, Cell.of, AOp.kind, stableOf, sameKind, assertD, eqlB, isUndef, takeC, unownAt, fits, layCells, putCells, putD, fillD, partsOf, optLo, optHi, allSize, Option.getD_some, Option.getD_none, runDefers, readRes, readRes1, readRess, Nat.reduceAdd, Nat.reduceSub, Nat.reduceMul, Nat.reduceBEq, Nat.ble, Bool.false_and, Bool.true_and, Bool.and_true, Bool.and_false, Bool.or_true, Bool.true_or, Bool.or_false, Bool.false_or, Nat.zero_add, Nat.add_zero, beq_self_eq_true, Bool.true_beq, Bool.false_beq, Bool.not_true, Bool.not_false, decide_true, decide_false, bindO, List.map_cons, List.map_nil, List.length_cons, List.length_nil, List.append_nil, List.nil_append, List.cons_append, List.isEmpty_nil, List.isEmpty_cons, List.all_nil, List.all_cons, Nat.reduceLeDiff, Int.reduceBEq, Int.reduceBNe, Int.reduceLE, Int.reduceLT, Int.reduceGE, Int.reduceGT, Int.reduceNeg, Nat.le_refl, k_api_Type_sz, k_api_Type_ag, k_api_Type_same, k_api_Pred_sz, k_api_Pred_ag, k_api_Pred_same, k_string_sz, k_string_ag, k_string_same, k_int_sz, k_int_ag, k_int_same, k_api_Kind_sz, k_api_Kind_ag, k_api_Kind_same, nat1, nat2, nat3, nat4, nat5, nat6, nat7, nat8, idxL, zeroI, lit1, lit2, lit3, lit4, lit5, lit6, lit7, lit8, hx, h0, hloop, exec_frz, hz, ht]
  · have hz := fun sl => frz_nil { slots := sl, locs := [(3, 3, 0), (6, 6, 0)], boxes := [(3, [⟨false, .int .i64 f⟩, ⟨false, .int .i64 x⟩, ⟨false, .str s⟩, ⟨false, .nils⟩]), (6, z4)], defers := [] } σ f x s rfl
    simp only [z4] at hz
    simp only [a_scheme_variables, sy0, sy1, sy2, sy3, sy4, sy5, caseO_none, caseO_some, ifB_false, ifB_true, clearEnv, adel, mem, initEnv, initSlots, stepOp, wantedA, evalOp, callOf, panicOf, evalV, addr, opd, opds, aget, aset, adel1, lkill, lfree, readCells, nth, Env.put, Env.putV, Env.box, Env.bare, dropOwn, dropOwnS, binD, binBD, binBool, binInt, binStr, unD, mmD, AOpd.drop, Cell.of, AOp.kind, stableOf, sameKind, assertD, eqlB, isUndef, takeC, unownAt, fits, layCells, putCells, putD, fillD, partsOf, optLo, optHi, allSize, Option.getD_some, Option.getD_none, runDefers, readRes, readRes1, readRess, Nat.reduceAdd, Nat.reduceSub, Nat.reduceMul, Nat.reduceBEq, Nat.ble, Bool.false_and, Bool.true_and, Bool.and_true, Bool.and_false, Bool.or_true, Bool.true_or, Bool.or_false, Bool.false_or, Nat.zero_add, Nat.add_zero, beq_self_eq_true, Bool.true_beq, Bool.false_beq, Bool.not_true, Bool.not_false, decide_true, decide_false, bindO, List.map_cons, List.map_nil, List.length_cons, List.length_nil, List.append_nil, List.nil_append, List.cons_append, List.isEmpty_nil, List.isEmpty_cons, List.all_nil, List.all_cons, Nat.reduceLeDiff, Int.reduceBEq, Int.reduceBNe, Int.reduceLE, Int.reduceLT, Int.reduceGE, Int.reduceGT, Int.reduceNeg, Nat.le_refl, k_api_Type_sz, k_api_Type_ag, k_api_Type_same, k_api_Pred_sz, k_api_Pred_ag, k_api_Pred_same, k_string_sz, k_string_ag, k_string_same, k_int_sz, k_int_ag, k_int_same, k_api_Kind_sz, k_api_Kind_ag, k_api_Kind_same, nat1, nat2, nat3, nat4, nat5, nat6, nat7, nat8, idxL, zeroI, lit1, lit2, lit3, lit4, lit5, lit6, lit7, lit8, hx, h1, h0, hloop, exec_frz, hz, ht]
end Go.Fu

/-
  The program's variables in the place of numbers, at every type.
-/
namespace Go.Fu
open Go Go.Mx
set_option maxRecDepth 10000
theorem svar_found (m : Nat) (σ : Store) (hw : WF σ) (ms : List Nat) (x : Int) (i : Nat) (hi : i < ms.length) (h1 : T m n_slices_Index_int [dNs ms, .int .i64 x] σ = some (.ret ⟨false, .int .i64 i⟩, σ))
    (h2 : T m n_types_Var [.str (tn ms[i])] σ = some (.ret ⟨false, dT (.var (tn ms[i]))⟩, σ)) :
    T (m + 1) n_scheme_variables [dT (.hole x), dNs ms, dSs (ms.map tn)] σ = some (.ret ⟨false, dT (.var (tn ms[i]))⟩, bump σ 0) := by
  have hx := idx_S (ms.map tn) i (by simpa using hi)
  simp only [List.getElem_map] at hx
  have h0 : (0 : Int) ≤ (i : Int) := by omega
  have ht := trunc_self hw
  rw [T_fun (af := a_scheme_variables) rfl rfl]
  simp only [dT] at h2 ⊢
  have hxx : indexD 1 (dSs (ms.map tn)) i = some (.eptr (.str (tn ms[i]))) := hx
  simp only [a_scheme_variables, sy0, sy1, sy2, sy3, sy4, sy5, caseO_none, caseO_some, ifB_false, ifB_true, clearEnv, adel, mem, initEnv, initSlots, stepOp, wantedA, evalOp, callOf, panicOf, evalV, addr, opd, opds, aget, aset, adel1, lkill, lfree, readCells, nth, Env.put, Env.putV, Env.box, Env.bare, dropOwn, dropOwnS, binD, binBD, binBool, binInt, binStr, unD, mmD, AOpd.drop, Cell.of, AOp.kind, stableOf, sameKind, assertD, eqlB, isUndef, takeC, unownAt, fits, layCells, putCells, putD, fillD, partsOf, optLo, optHi, allSize, Option.getD_some, Option.getD_none, runDefers, readRes, readRes1, readRess, Nat.reduceAdd, Nat.reduceSub, Nat.reduceMul, Nat.reduceBEq, Nat.ble, Bool.false_and, Bool.true_and, Bool.and_true, Bool.and_false, Bool.or_true, Bool.true_or, Bool.or_false, Bool.false_or, Nat.zero_add, Nat.add_zero, beq_self_eq_true, Bool.true_beq, Bool.false_beq, Bool.not_true, Bool.not_false, decide_true, decide_false, bindO, List.map_cons, List.map_nil, List.length_cons, List.length_nil, List.append_nil, List.nil_append, List.cons_append, List.isEmpty_nil, List.isEmpty_cons, List.all_nil, List.all_cons, Nat.reduceLeDiff, Int.reduceBEq, Int.reduceBNe, Int.reduceLE, Int.reduceLT, Int.reduceGE, Int.reduceGT, Int.reduceNeg, Nat.le_refl, k_api_Type_sz, k_api_Type_ag, k_api_Type_same, k_api_Pred_sz, k_api_Pred_ag, k_api_Pred_same, k_string_sz, k_string_ag, k_string_same, k_int_sz, k_int_ag, k_int_same, k_api_Kind_sz, k_api_Kind_ag, k_api_Kind_same, nat1, nat2, nat3, nat4, nat5, nat6, nat7, nat8, idxL, zeroI, lit1, lit2, lit3, lit4, lit5, lit6, lit7, lit8, h1, h2, h0, hxx, ht]
theorem svar_run (ms : List Nat) (hl : ms.length < 100) : ∀ t : Tp, Evly fun n => ∀ σ, WF σ → T n n_scheme_variables [dT t, dNs ms, dSs (ms.map tn)] σ = some (.ret ⟨false, dT (varT ms t)⟩, bump σ (cnt t))
  | .var s => cloneA_nil.step 4 fun m hm h σ hw => svar_leaf m hm σ hw ms 2 0 s (h σ) (.inl rfl)
  | .con s => cloneA_nil.step 4 fun m hm h σ hw => svar_leaf m hm σ hw ms 3 0 s (h σ) (.inl rfl)
  | .hole x => (cloneA_nil.and var_run).step (ms.length + 6) fun m hm h σ hw => by
      obtain ⟨hc, hv⟩ := h
      obtain ⟨j, rfl⟩ : ∃ j, m = j + 1 := ⟨m - 1, by omega⟩
      rcases intIndex j ms x (by omega) (by omega) σ with ⟨i, hi, he, h1⟩ | ⟨hn, h1⟩
      · have hvt : varT ms (.hole x) = .var (tn ms[i]) := by
          have : (ms.any fun m => x == (m : Int)) = true := List.any_eq_true.2 ⟨ms[i], List.getElem_mem hi, by simp [he]⟩
          simp only [varT, this, if_true]
          rw [he]
          rfl
        rw [hvt]
        exact svar_found (j + 1) σ hw ms x i hi h1 (hv _ σ)
      · have hvt : varT ms (.hole x) = .hole x := by
          simp only [varT, hn]
          rfl
        rw [hvt]
        exact svar_leaf (j + 1) (by omega) σ hw ms 1 x [] (hc σ) (.inr ⟨rfl, h1⟩)
  | .app f a => ((svar_run ms hl f).and ((svar_run ms hl a).and (cloneA_run f a))).step 8 fun m hm h σ hw => by
      have h0 := h.2.2 σ hw
      have h1 := h.1 (arrS σ f a 0) (wf_arrS hw f a 0)
      have h2 := h.2.1 (arrS σ (varT ms f) a (cnt f)) (wf_arrS hw _ a _)
      exact svar_app m hm σ hw ms f a (cnt f) (cnt a) h0 h1 h2
end Go.Fu

