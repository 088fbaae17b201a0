/-
  Numbers in rows; names of a small world.
-/
import Derived.Test.YtkgdpcnobfadaaaDoorFqD
import Derived.Test.YtkgdpcnobfadaaaDoorMzRow
set_option linter.unusedSimpArgs false
set_option linter.unusedVariables false
namespace Go.Fu
open Go Go.Mx
set_option maxRecDepth 10000
theorem lit1 : ((1 : Nat) : Int) = 1 := rfl
theorem lit2 : ((2 : Nat) : Int) = 2 := rfl
theorem lit3 : ((3 : Nat) : Int) = 3 := rfl
theorem lit4 : ((4 : Nat) : Int) = 4 := rfl
theorem lit5 : ((5 : Nat) : Int) = 5 := rfl
theorem lit6 : ((6 : Nat) : Int) = 6 := rfl
theorem lit7 : ((7 : Nat) : Int) = 7 := rfl
theorem lit8 : ((8 : Nat) : Int) = 8 := rfl
theorem aroundL : Evly fun n => ∀ (x : Int) (m : Nat) (k : Int) σ, Small x → k = (m : Int) → 0 < m → m < 1048576 → T n n_r01_Around [.int .i64 x, .int .i64 k] σ = some (.ret ⟨false, .int .i64 (aro x m)⟩, σ) := around_run.mono fun n h x m k σ hx hk h1 h2 => by
  subst hk
  exact h x m σ hx h1 h2
def dI (x : Int) : D := .int .i64 x
def Row (d : D) (xs : List Int) : Prop := IntRow k_int d xs
theorem row_len {d : D} {xs : List Int} (h : Row d xs) : lenOf d = some xs.length := by
  rcases h with rfl | ⟨rfl, rfl⟩
  · simp [lenOf]
  · rfl
theorem row_get {d : D} {xs : List Int} (h : Row d xs) (i : Nat) (hi : i < xs.length) : indexD 1 d i = some (.eptr (.int .i64 xs[i])) := by
  rcases h with rfl | ⟨rfl, rfl⟩
  · have hn : nth (xs.map fun x => D.int .i64 x) i = some (.int .i64 xs[i]) := by rw [nth_map, nth_get _ _ hi]; rfl
    rw [idxL, hn]
    rfl
  · simp at hi
theorem row_tail {d : D} {x : Int} {xs : List Int} (h : Row d (x :: xs)) : ∃ d', sliceD 1 d 1 none = some d' ∧ Row d' xs := by
  rcases h with rfl | ⟨h, _⟩
  · refine ⟨.list k_int (xs.map fun x => .int .i64 x), ?_, .inl rfl⟩
    have h1 : (xs.map fun x => D.int .i64 x).take xs.length = xs.map fun x => .int .i64 x := List.take_of_length_le (by simp)
    simp only [sliceD, List.map_cons, List.length_cons, Option.getD_none, List.length_map, List.drop_succ_cons, List.drop_zero, k_int_sz]
    simp [ifB]
    exact h1
  · cases h
theorem ints_run (d : D) (xs : List Int) (m : Nat) (h : Row d xs) (hm : m < 1048576) : ∃ d', Row d' (xs.take m) ∧ ∃ o, Evly fun n => ∀ σ, T n n_r01_Ints [d, .int .i64 m] σ = some (.ret ⟨o, d'⟩, σ) := by
  have hlen := row_len h
  have hmin : ifB (decide ((m : Int) < ((xs.length : Nat) : Int))) (m : Int) ((xs.length : Nat) : Int) = ((min xs.length m : Nat) : Int) := by
    by_cases hc : (m : Int) < ((xs.length : Nat) : Int)
    · rw [decide_eq_true hc, ifB_true]; omega
    · rw [decide_eq_false hc, ifB_false]; omega
  rcases h with rfl | ⟨rfl, rfl⟩
  · refine ⟨dlist k_int ((xs.take m).map dI), ?_, true, any _ fun n σ => ?_⟩
    · cases xs with
      | nil => exact .inr ⟨by simp, by simp [dlist]⟩
      | cons x r => cases m with
        | zero => exact .inr ⟨by simp, by simp [dlist]⟩
        | succ m => exact .inl (by simp [dlist, dI]; rfl)
    · rw [T_fun (af := a_r01_Ints) rfl rfl]
      have hs : sliceD 1 (.list k_int (xs.map fun x => .int .i64 x)) 0 (some (min xs.length m)) = some (.list k_int ((xs.take m).map dI)) := by
        have h1 : (xs.map fun x => D.int .i64 x).take (min xs.length m) = (xs.take m).map dI := by
          rcases Nat.le_total m xs.length with h | h
          · rw [Nat.min_eq_right h, List.map_take]; rfl
          · rw [Nat.min_eq_left h, List.take_of_length_le (by simp), List.take_of_length_le h]; rfl
        simp only [sliceD, Option.getD_some, List.length_map, k_int_sz]
        simp [ifB, Nat.min_le_left]
        exact h1.trans (by rw [List.map_take])
      have ha := append_more (r := k_int) (by_ := 8) (es := []) (ys := (xs.take m).map dI) (o := false) (fun h => absurd rfl h) (by intro d hd; obtain ⟨v, _, rfl⟩ := List.mem_map.1 hd; exact ⟨rfl, rfl⟩) (by simp [bound]; omega) (by simp [bound]; omega)
      simp only [dlist_nil, List.nil_append] at ha
      simp only [a_r01_Ints, sy0, sy1, sy2, sy3, sy4, sy5, caseO_none, caseO_some, ifB_false, ifB_true, clearEnv, adel, mem, initEnv, initSlots, stepOp, wantedA, evalOp, callOf, panicOf, evalV, addr, opd, opds, aget, aset, adel1, lkill, lfree, readCells, nth, Env.put, Env.putV, Env.box, Env.bare, dropOwn, dropOwnS, binD, binBD, binBool, binInt, binStr, unD, mmD, AOpd.drop, Cell.of, AOp.kind, stableOf, sameKind, assertD, eqlB, isUndef, takeC, unownAt, fits, layCells, putCells, putD, fillD, partsOf, optLo, optHi, allSize, Option.getD_some, Option.getD_none, runDefers, readRes, readRes1, readRess, Nat.reduceAdd, Nat.reduceSub, Nat.reduceMul, Nat.reduceBEq, Nat.ble, Bool.false_and, Bool.true_and, Bool.and_true, Bool.and_false, Bool.or_true, Bool.true_or, Bool.or_false, Bool.false_or, Nat.zero_add, Nat.add_zero, beq_self_eq_true, Bool.true_beq, Bool.false_beq, Bool.not_true, Bool.not_false, decide_true, decide_false, bindO, List.map_cons, List.map_nil, List.length_cons, List.length_nil, List.append_nil, List.nil_append, List.cons_append, List.isEmpty_nil, List.isEmpty_cons, List.all_nil, List.all_cons, Nat.reduceLeDiff, Int.reduceBEq, Int.reduceBNe, Int.reduceLE, Int.reduceLT, Int.reduceGE, Int.reduceGT, Int.reduceNeg, Nat.le_refl, k_api_Type_sz, k_api_Type_ag, k_api_Type_same, k_api_Pred_sz, k_api_Pred_ag, k_api_Pred_same, k_string_sz, k_string_ag, k_string_same, k_int_sz, k_int_ag, k_int_same, k_api_Kind_sz, k_api_Kind_ag, k_api_Kind_same, nat1, nat2, nat3, nat4, nat5, nat6, nat7, nat8, idxL, hlen, hs, ha, List.length_map, hmin]
      done
  · refine ⟨.nils, .inr ⟨by simp, rfl⟩, true, any _ fun n σ => ?_⟩
    rw [T_fun (af := a_r01_Ints) rfl rfl]
    have hmin0 : ifB (decide ((m : Int) < ((0 : Nat) : Int))) (m : Int) ((0 : Nat) : Int) = 0 := by
      rw [decide_eq_false (by omega), ifB_false]
      rfl
    have hs0 : sliceD 1 .nils 0 (some 0) = some .nils := rfl
    have ha0 : appendD k_int 8 ⟨false, .nils⟩ [] = some ⟨true, .nils⟩ := rfl
    simp only [a_r01_Ints, sy0, sy1, sy2, sy3, sy4, sy5, caseO_none, caseO_some, ifB_false, ifB_true, clearEnv, adel, mem, initEnv, initSlots, stepOp, wantedA, evalOp, callOf, panicOf, evalV, addr, opd, opds, aget, aset, adel1, lkill, lfree, readCells, nth, Env.put, Env.putV, Env.box, Env.bare, dropOwn, dropOwnS, binD, binBD, binBool, binInt, binStr, unD, mmD, AOpd.drop, Cell.of, AOp.kind, stableOf, sameKind, assertD, eqlB, isUndef, takeC, unownAt, fits, layCells, putCells, putD, fillD, partsOf, optLo, optHi, allSize, Option.getD_some, Option.getD_none, runDefers, readRes, readRes1, readRess, Nat.reduceAdd, Nat.reduceSub, Nat.reduceMul, Nat.reduceBEq, Nat.ble, Bool.false_and, Bool.true_and, Bool.and_true, Bool.and_false, Bool.or_true, Bool.true_or, Bool.or_false, Bool.false_or, Nat.zero_add, Nat.add_zero, beq_self_eq_true, Bool.true_beq, Bool.false_beq, Bool.not_true, Bool.not_false, decide_true, decide_false, bindO, List.map_cons, List.map_nil, List.length_cons, List.length_nil, List.append_nil, List.nil_append, List.cons_append, List.isEmpty_nil, List.isEmpty_cons, List.all_nil, List.all_cons, Nat.reduceLeDiff, Int.reduceBEq, Int.reduceBNe, Int.reduceLE, Int.reduceLT, Int.reduceGE, Int.reduceGT, Int.reduceNeg, Nat.le_refl, k_api_Type_sz, k_api_Type_ag, k_api_Type_same, k_api_Pred_sz, k_api_Pred_ag, k_api_Pred_same, k_string_sz, k_string_ag, k_string_same, k_int_sz, k_int_ag, k_int_same, k_api_Kind_sz, k_api_Kind_ag, k_api_Kind_same, nat1, nat2, nat3, nat4, nat5, nat6, nat7, nat8, idxL, hmin0, hs0, ha0]
    done
def pk : List Int → Nat
  | [] => 0
  | x :: _ => aro x 100000
theorem pk_lt (xs : List Int) : pk xs < 100000 := by
  cases xs with
  | nil => simp [pk]
  | cons x r => exact aro_lt x (by omega)
theorem pick_run (d : D) (xs : List Int) (h : Row d xs) (hs : ∀ x ∈ xs, Small x) : Evly fun n => ∀ σ, T n n_r12_pick [d, .int .i64 0] σ = some (.ret ⟨false, .int .i64 (pk xs)⟩, σ) := aroundL.step 0 fun n _ har σ => by
  rw [T_fun (af := a_r12_pick) rfl rfl]
  have hlen := row_len h
  cases xs with
  | nil => simp only [a_r12_pick, sy0, sy1, sy2, sy3, sy4, sy5, caseO_none, caseO_some, ifB_false, ifB_true, clearEnv, adel, mem, initEnv, initSlots, stepOp, wantedA, evalOp, callOf, panicOf, evalV, addr, opd, opds, aget, aset, adel1, lkill, lfree, readCells, nth, Env.put, Env.putV, Env.box, Env.bare, dropOwn, dropOwnS, binD, binBD, binBool, binInt, binStr, unD, mmD, AOpd.drop, Cell.of, AOp.kind, stableOf, sameKind, assertD, eqlB, isUndef, takeC, unownAt, fits, layCells, putCells, putD, fillD, partsOf, optLo, optHi, allSize, Option.getD_some, Option.getD_none, runDefers, readRes, readRes1, readRess, Nat.reduceAdd, Nat.reduceSub, Nat.reduceMul, Nat.reduceBEq, Nat.ble, Bool.false_and, Bool.true_and, Bool.and_true, Bool.and_false, Bool.or_true, Bool.true_or, Bool.or_false, Bool.false_or, Nat.zero_add, Nat.add_zero, beq_self_eq_true, Bool.true_beq, Bool.false_beq, Bool.not_true, Bool.not_false, decide_true, decide_false, bindO, List.map_cons, List.map_nil, List.length_cons, List.length_nil, List.append_nil, List.nil_append, List.cons_append, List.isEmpty_nil, List.isEmpty_cons, List.all_nil, List.all_cons, Nat.reduceLeDiff, Int.reduceBEq, Int.reduceBNe, Int.reduceLE, Int.reduceLT, Int.reduceGE, Int.reduceGT, Int.reduceNeg, Nat.le_refl, k_api_Type_sz, k_api_Type_ag, k_api_Type_same, k_api_Pred_sz, k_api_Pred_ag, k_api_Pred_same, k_string_sz, k_string_ag, k_string_same, k_int_sz, k_int_ag, k_int_same, k_api_Kind_sz, k_api_Kind_ag, k_api_Kind_same, nat1, nat2, nat3, nat4, nat5, nat6, nat7, nat8, idxL, hlen, pk, zeroI, lit1, lit2, lit3, lit4, lit5, lit6, lit7, lit8]
           done
  | cons x r =>
    have hx := row_get h 0 (by simp)
    have h1 := har x 100000 100000 σ (hs x (by simp)) rfl (by omega) (by omega)
    have hg : ¬ ((0 : Int) ≥ ((r.length + 1 : Nat) : Int)) := by omega
    simp only [List.getElem_cons_zero] at hx
    simp only [a_r12_pick, sy0, sy1, sy2, sy3, sy4, sy5, caseO_none, caseO_some, ifB_false, ifB_true, clearEnv, adel, mem, initEnv, initSlots, stepOp, wantedA, evalOp, callOf, panicOf, evalV, addr, opd, opds, aget, aset, adel1, lkill, lfree, readCells, nth, Env.put, Env.putV, Env.box, Env.bare, dropOwn, dropOwnS, binD, binBD, binBool, binInt, binStr, unD, mmD, AOpd.drop, Cell.of, AOp.kind, stableOf, sameKind, assertD, eqlB, isUndef, takeC, unownAt, fits, layCells, putCells, putD, fillD, partsOf, optLo, optHi, allSize, Option.getD_some, Option.getD_none, runDefers, readRes, readRes1, readRess, Nat.reduceAdd, Nat.reduceSub, Nat.reduceMul, Nat.reduceBEq, Nat.ble, Bool.false_and, Bool.true_and, Bool.and_true, Bool.and_false, Bool.or_true, Bool.true_or, Bool.or_false, Bool.false_or, Nat.zero_add, Nat.add_zero, beq_self_eq_true, Bool.true_beq, Bool.false_beq, Bool.not_true, Bool.not_false, decide_true, decide_false, bindO, List.map_cons, List.map_nil, List.length_cons, List.length_nil, List.append_nil, List.nil_append, List.cons_append, List.isEmpty_nil, List.isEmpty_cons, List.all_nil, List.all_cons, Nat.reduceLeDiff, Int.reduceBEq, Int.reduceBNe, Int.reduceLE, Int.reduceLT, Int.reduceGE, Int.reduceGT, Int.reduceNeg, Nat.le_refl, k_api_Type_sz, k_api_Type_ag, k_api_Type_same, k_api_Pred_sz, k_api_Pred_ag, k_api_Pred_same, k_string_sz, k_string_ag, k_string_same, k_int_sz, k_int_ag, k_int_same, k_api_Kind_sz, k_api_Kind_ag, k_api_Kind_same, nat1, nat2, nat3, nat4, nat5, nat6, nat7, nat8, idxL, hlen, hx, hg, pk, h1]
    done
def nmS (x : Int) : List UInt8 := match aro x 4 with
  | 0 => [97]
  | 1 => [98]
  | 2 => [99]
  | _ => [120]
theorem name_run : Evly fun n => ∀ (x : Int) σ, Small x → T n n_r04_Name [.int .i64 x] σ = some (.ret ⟨false, .str (nmS x)⟩, σ) := aroundL.step 0 fun n _ har x σ hx => by
  rw [T_fun (af := a_r04_Name) rfl rfl]
  have h1 := har x 4 4 σ hx rfl (by omega) (by omega)
  have h2 := aro_lt x (m := 4) (by omega)
  have h4 : aro x 4 = 0 ∨ aro x 4 = 1 ∨ aro x 4 = 2 ∨ aro x 4 = 3 := by omega
  rcases h4 with h4 | h4 | h4 | h4 <;> rw [h4] at h1 <;> simp only [zeroI, lit1, lit2, lit3, lit4, lit5, lit6, lit7, lit8] at h1 <;> simp only [nmS, h4] <;> simp only [a_r04_Name, sy0, sy1, sy2, sy3, sy4, sy5, caseO_none, caseO_some, ifB_false, ifB_true, clearEnv, adel, mem, initEnv, initSlots, stepOp, wantedA, evalOp, callOf, panicOf, evalV, addr, opd, opds, aget, aset, adel1, lkill, lfree, readCells, nth, Env.put, Env.putV, Env.box, Env.bare, dropOwn, dropOwnS, binD, binBD, binBool, binInt, binStr, unD, mmD, AOpd.drop, Cell.of, AOp.kind, stableOf, sameKind, assertD, eqlB, isUndef, takeC, unownAt, fits, layCells, putCells, putD, fillD, partsOf, optLo, optHi, allSize, Option.getD_some, Option.getD_none, runDefers, readRes, readRes1, readRess, Nat.reduceAdd, Nat.reduceSub, Nat.reduceMul, Nat.reduceBEq, Nat.ble, Bool.false_and, Bool.true_and, Bool.and_true, Bool.and_false, Bool.or_true, Bool.true_or, Bool.or_false, Bool.false_or, Nat.zero_add, Nat.add_zero, beq_self_eq_true, Bool.true_beq, Bool.false_beq, Bool.not_true, Bool.not_false, decide_true, decide_false, bindO, List.map_cons, List.map_nil, List.length_cons, List.length_nil, List.append_nil, List.nil_append, List.cons_append, List.isEmpty_nil, List.isEmpty_cons, List.all_nil, List.all_cons, Nat.reduceLeDiff, Int.reduceBEq, Int.reduceBNe, Int.reduceLE, Int.reduceLT, Int.reduceGE, Int.reduceGT, Int.reduceNeg, Nat.le_refl, k_api_Type_sz, k_api_Type_ag, k_api_Type_same, k_api_Pred_sz, k_api_Pred_ag, k_api_Pred_same, k_string_sz, k_string_ag, k_string_same, k_int_sz, k_int_ag, k_int_same, k_api_Kind_sz, k_api_Kind_ag, k_api_Kind_same, nat1, nat2, nat3, nat4, nat5, nat6, nat7, nat8, idxL, zeroI, lit1, lit2, lit3, lit4, lit5, lit6, lit7, lit8, h1]
  all_goals done
def cnS (x : Int) : List UInt8 := match aro x 6 with
  | 0 => [73, 110, 116]
  | 1 => [66, 111, 111, 108]
  | 2 => [76]
  | 3 => [80]
  | 4 => [70]
  | _ => [45, 62]
theorem con_run : Evly fun n => ∀ (x : Int) σ, Small x → T n n_r04_Con [.int .i64 x] σ = some (.ret ⟨false, .str (cnS x)⟩, σ) := aroundL.step 0 fun n _ har x σ hx => by
  rw [T_fun (af := a_r04_Con) rfl rfl]
  have h1 := har x 6 6 σ hx rfl (by omega) (by omega)
  have h2 := aro_lt x (m := 6) (by omega)
  have h4 : aro x 6 = 0 ∨ aro x 6 = 1 ∨ aro x 6 = 2 ∨ aro x 6 = 3 ∨ aro x 6 = 4 ∨ aro x 6 = 5 := by omega
  rcases h4 with h4 | h4 | h4 | h4 | h4 | h4 <;> rw [h4] at h1 <;> simp only [zeroI, lit1, lit2, lit3, lit4, lit5, lit6, lit7, lit8] at h1 <;> simp only [cnS, h4] <;> simp only [a_r04_Con, sy0, sy1, sy2, sy3, sy4, sy5, caseO_none, caseO_some, ifB_false, ifB_true, clearEnv, adel, mem, initEnv, initSlots, stepOp, wantedA, evalOp, callOf, panicOf, evalV, addr, opd, opds, aget, aset, adel1, lkill, lfree, readCells, nth, Env.put, Env.putV, Env.box, Env.bare, dropOwn, dropOwnS, binD, binBD, binBool, binInt, binStr, unD, mmD, AOpd.drop, Cell.of, AOp.kind, stableOf, sameKind, assertD, eqlB, isUndef, takeC, unownAt, fits, layCells, putCells, putD, fillD, partsOf, optLo, optHi, allSize, Option.getD_some, Option.getD_none, runDefers, readRes, readRes1, readRess, Nat.reduceAdd, Nat.reduceSub, Nat.reduceMul, Nat.reduceBEq, Nat.ble, Bool.false_and, Bool.true_and, Bool.and_true, Bool.and_false, Bool.or_true, Bool.true_or, Bool.or_false, Bool.false_or, Nat.zero_add, Nat.add_zero, beq_self_eq_true, Bool.true_beq, Bool.false_beq, Bool.not_true, Bool.not_false, decide_true, decide_false, bindO, List.map_cons, List.map_nil, List.length_cons, List.length_nil, List.append_nil, List.nil_append, List.cons_append, List.isEmpty_nil, List.isEmpty_cons, List.all_nil, List.all_cons, Nat.reduceLeDiff, Int.reduceBEq, Int.reduceBNe, Int.reduceLE, Int.reduceLT, Int.reduceGE, Int.reduceGT, Int.reduceNeg, Nat.le_refl, k_api_Type_sz, k_api_Type_ag, k_api_Type_same, k_api_Pred_sz, k_api_Pred_ag, k_api_Pred_same, k_string_sz, k_string_ag, k_string_same, k_int_sz, k_int_ag, k_int_same, k_api_Kind_sz, k_api_Kind_ag, k_api_Kind_same, nat1, nat2, nat3, nat4, nat5, nat6, nat7, nat8, idxL, zeroI, lit1, lit2, lit3, lit4, lit5, lit6, lit7, lit8, h1]
  all_goals done
end Go.Fu

