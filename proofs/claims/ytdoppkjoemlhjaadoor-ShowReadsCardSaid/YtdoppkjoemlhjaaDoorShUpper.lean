/-
  Is a text an upper name? The program's function at the empty store.
-/
import Derived.Laws.RangeString
import Derived.Laws.RangeAny
import Derived.Test.YtdoppkjoemlhjaaDoorShV
import Derived.Test.YtdoppkjoemlhjaaDoorMxSy
set_option linter.unusedSimpArgs false
set_option linter.unusedVariables false
namespace Go.Proofs.YtdoppkjoemlhjaaDoor.Sh
open Go Go.Mx
def plainB (b : Nat) : Bool := decide (97 ≤ b ∧ b ≤ 122) || decide (65 ≤ b ∧ b ≤ 90) || decide (48 ≤ b ∧ b ≤ 57)
def okB (b : Nat) : Bool := plainB b || b == 39 || b == 95
def firstB (b : Nat) : Bool := decide (65 ≤ b ∧ b ≤ 90)
/-- May the byte stand there? -/
def byteB (s : List UInt8) (i : Nat) : Bool := match s[i]? with
  | some b => okB b.toNat && (i != 0 || firstB b.toNat)
  | none => true
def upperB (s : List UInt8) : Bool := !s.isEmpty && decide (s.length ≤ 32) && (List.range s.length).all (byteB s)
/-- The whole program, with so much fuel. -/
def TU (n : Nat) : CallF := runQ Γl Rl Xl n false
def TUD (n : Nat) : CallF := runQ Γl Rl Xl n true
theorem TU_fun {n : Nat} {f : FuncId} {af : AFun} {ds : List D} {σ : Store} (h : Γl f = some af) (hl : ds.length = af.nargs) : TU (n + 1) f ds σ = finX Rl (TUD n) af σ.next (exec (TU n) n af.body (initEnv ds) σ) := runQ_fun h hl
theorem TU_lib {n : Nat} {f : FuncId} {ds : List D} {σ : Store} (h : Γl f = none) : TU (n + 1) f ds σ = Xl f ds σ := runQ_lib h
theorem TU_sound (n : Nat) : CSound Tryd.prog κ (TU n) := (run_sound Γl_holds Rl_sound Xl_sound n).1
set_option maxRecDepth 10000
theorem plain_run : Evly fun n => ∀ b, b < 256 → ∀ σ, TU n 53 [.int .u8 ((b : Nat) : Int)] σ = some (.ret ⟨false, .bool (plainB b)⟩, σ) := (Evly.all (p := fun _ => True) fun _ => trivial).step 0 fun m _ _ b hb σ => by
  rw [TU_fun (af := a53) rfl rfl]
  have hc : (0 ≤ b ∧ b ≤ 47) ∨ (48 ≤ b ∧ b ≤ 57) ∨ (58 ≤ b ∧ b ≤ 64) ∨ (65 ≤ b ∧ b ≤ 90) ∨ (91 ≤ b ∧ b ≤ 96) ∨ (97 ≤ b ∧ b ≤ 122) ∨ (123 ≤ b ∧ b ≤ 255) := by omega
  rcases hc with h | h | h | h | h | h | h
  · have hv : plainB b = false := by unfold plainB; simp; omega
    have f0 : ¬ ((b : Int) ≥ 97) := by omega
    have f1 : ((b : Int) ≤ 122) := by omega
    have f2 : ¬ ((b : Int) ≥ 65) := by omega
    have f3 : ((b : Int) ≤ 90) := by omega
    have f4 : ¬ ((b : Int) ≥ 48) := by omega
    have f5 : ((b : Int) ≤ 57) := by omega
    simp only [a53, sy0, sy1, sy2, sy3, sy4, sy5, clearEnv, adel, mem, initEnv, initSlots, stepOp, wantedA, evalOp, callOf, panicOf, evalV, addr, opd, opds, aget, aset, adel1, lkill, readCells, nth, Env.put, Env.putV, Env.box, Env.bare, dropOwn, dropOwnS, binD, binBD, binBool, binInt, binStr, unD, AOpd.drop, Cell.of, AOp.kind, sameKind, assertD, eqlB, isUndef, takeC, unownAt, fits, layCells, putCells, putD, fillD, partsOf, optLo, optHi, allSize, Option.getD_some, Option.getD_none, runDefers, readRes, readRes1, readRess, Nat.reduceAdd, Nat.reduceSub, Nat.reduceMul, Nat.reduceBEq, Bool.false_and, Bool.true_and, Bool.and_true, Bool.and_false, Nat.zero_add, Nat.add_zero, beq_self_eq_true, Bool.true_beq, Bool.false_beq, Bool.not_true, Bool.not_false, decide_true, decide_false, bindO, List.map_cons, List.map_nil, List.length_cons, List.length_nil, List.append_nil, List.nil_append, List.cons_append, List.isEmpty_nil, List.isEmpty_cons, Nat.reduceLeDiff, Int.reduceBEq, Int.reduceNeg, Nat.le_refl, hv, f0, f1, f2, f3, f4, f5]
  · have hv : plainB b = true := by unfold plainB; simp; omega
    have f0 : ¬ ((b : Int) ≥ 97) := by omega
    have f1 : ((b : Int) ≤ 122) := by omega
    have f2 : ¬ ((b : Int) ≥ 65) := by omega
    have f3 : ((b : Int) ≤ 90) := by omega
    have f4 : ((b : Int) ≥ 48) := by omega
    have f5 : ((b : Int) ≤ 57) := by omega
    simp only [a53, sy0, sy1, sy2, sy3, sy4, sy5, clearEnv, adel, mem, initEnv, initSlots, stepOp, wantedA, evalOp, callOf, panicOf, evalV, addr, opd, opds, aget, aset, adel1, lkill, readCells, nth, Env.put, Env.putV, Env.box, Env.bare, dropOwn, dropOwnS, binD, binBD, binBool, binInt, binStr, unD, AOpd.drop, Cell.of, AOp.kind, sameKind, assertD, eqlB, isUndef, takeC, unownAt, fits, layCells, putCells, putD, fillD, partsOf, optLo, optHi, allSize, Option.getD_some, Option.getD_none, runDefers, readRes, readRes1, readRess, Nat.reduceAdd, Nat.reduceSub, Nat.reduceMul, Nat.reduceBEq, Bool.false_and, Bool.true_and, Bool.and_true, Bool.and_false, Nat.zero_add, Nat.add_zero, beq_self_eq_true, Bool.true_beq, Bool.false_beq, Bool.not_true, Bool.not_false, decide_true, decide_false, bindO, List.map_cons, List.map_nil, List.length_cons, List.length_nil, List.append_nil, List.nil_append, List.cons_append, List.isEmpty_nil, List.isEmpty_cons, Nat.reduceLeDiff, Int.reduceBEq, Int.reduceNeg, Nat.le_refl, hv, f0, f1, f2, f3, f4, f5]
  · have hv : plainB b = false := by unfold plainB; simp; omega
    have f0 : ¬ ((b : Int) ≥ 97) := by omega
    have f1 : ((b : Int) ≤ 122) := by omega
    have f2 : ¬ ((b : Int) ≥ 65) := by omega
    have f3 : ((b : Int) ≤ 90) := by omega
    have f4 : ((b : Int) ≥ 48) := by omega
    have f5 : ¬ ((b : Int) ≤ 57) := by omega
    simp only [a53, sy0, sy1, sy2, sy3, sy4, sy5, clearEnv, adel, mem, initEnv, initSlots, stepOp, wantedA, evalOp, callOf, panicOf, evalV, addr, opd, opds, aget, aset, adel1, lkill, readCells, nth, Env.put, Env.putV, Env.box, Env.bare, dropOwn, dropOwnS, binD, binBD, binBool, binInt, binStr, unD, AOpd.drop, Cell.of, AOp.kind, sameKind, assertD, eqlB, isUndef, takeC, unownAt, fits, layCells, putCells, putD, fillD, partsOf, optLo, optHi, allSize, Option.getD_some, Option.getD_none, runDefers, readRes, readRes1, readRess, Nat.reduceAdd, Nat.reduceSub, Nat.reduceMul, Nat.reduceBEq, Bool.false_and, Bool.true_and, Bool.and_true, Bool.and_false, Nat.zero_add, Nat.add_zero, beq_self_eq_true, Bool.true_beq, Bool.false_beq, Bool.not_true, Bool.not_false, decide_true, decide_false, bindO, List.map_cons, List.map_nil, List.length_cons, List.length_nil, List.append_nil, List.nil_append, List.cons_append, List.isEmpty_nil, List.isEmpty_cons, Nat.reduceLeDiff, Int.reduceBEq, Int.reduceNeg, Nat.le_refl, hv, f0, f1, f2, f3, f4, f5]
  · have hv : plainB b = true := by unfold plainB; simp; omega
    have f0 : ¬ ((b : Int) ≥ 97) := by omega
    have f1 : ((b : Int) ≤ 122) := by omega
    have f2 : ((b : Int) ≥ 65) := by omega
    have f3 : ((b : Int) ≤ 90) := by omega
    have f4 : ((b : Int) ≥ 48) := by omega
    have f5 : ¬ ((b : Int) ≤ 57) := by omega
    simp only [a53, sy0, sy1, sy2, sy3, sy4, sy5, clearEnv, adel, mem, initEnv, initSlots, stepOp, wantedA, evalOp, callOf, panicOf, evalV, addr, opd, opds, aget, aset, adel1, lkill, readCells, nth, Env.put, Env.putV, Env.box, Env.bare, dropOwn, dropOwnS, binD, binBD, binBool, binInt, binStr, unD, AOpd.drop, Cell.of, AOp.kind, sameKind, assertD, eqlB, isUndef, takeC, unownAt, fits, layCells, putCells, putD, fillD, partsOf, optLo, optHi, allSize, Option.getD_some, Option.getD_none, runDefers, readRes, readRes1, readRess, Nat.reduceAdd, Nat.reduceSub, Nat.reduceMul, Nat.reduceBEq, Bool.false_and, Bool.true_and, Bool.and_true, Bool.and_false, Nat.zero_add, Nat.add_zero, beq_self_eq_true, Bool.true_beq, Bool.false_beq, Bool.not_true, Bool.not_false, decide_true, decide_false, bindO, List.map_cons, List.map_nil, List.length_cons, List.length_nil, List.append_nil, List.nil_append, List.cons_append, List.isEmpty_nil, List.isEmpty_cons, Nat.reduceLeDiff, Int.reduceBEq, Int.reduceNeg, Nat.le_refl, hv, f0, f1, f2, f3, f4, f5]
  · have hv : plainB b = false := by unfold plainB; simp; omega
    have f0 : ¬ ((b : Int) ≥ 97) := by omega
    have f1 : ((b : Int) ≤ 122) := by omega
    have f2 : ((b : Int) ≥ 65) := by omega
    have f3 : ¬ ((b : Int) ≤ 90) := by omega
    have f4 : ((b : Int) ≥ 48) := by omega
    have f5 : ¬ ((b : Int) ≤ 57) := by omega
    simp only [a53, sy0, sy1, sy2, sy3, sy4, sy5, clearEnv, adel, mem, initEnv, initSlots, stepOp, wantedA, evalOp, callOf, panicOf, evalV, addr, opd, opds, aget, aset, adel1, lkill, readCells, nth, Env.put, Env.putV, Env.box, Env.bare, dropOwn, dropOwnS, binD, binBD, binBool, binInt, binStr, unD, AOpd.drop, Cell.of, AOp.kind, sameKind, assertD, eqlB, isUndef, takeC, unownAt, fits, layCells, putCells, putD, fillD, partsOf, optLo, optHi, allSize, Option.getD_some, Option.getD_none, runDefers, readRes, readRes1, readRess, Nat.reduceAdd, Nat.reduceSub, Nat.reduceMul, Nat.reduceBEq, Bool.false_and, Bool.true_and, Bool.and_true, Bool.and_false, Nat.zero_add, Nat.add_zero, beq_self_eq_true, Bool.true_beq, Bool.false_beq, Bool.not_true, Bool.not_false, decide_true, decide_false, bindO, List.map_cons, List.map_nil, List.length_cons, List.length_nil, List.append_nil, List.nil_append, List.cons_append, List.isEmpty_nil, List.isEmpty_cons, Nat.reduceLeDiff, Int.reduceBEq, Int.reduceNeg, Nat.le_refl, hv, f0, f1, f2, f3, f4, f5]
  · have hv : plainB b = true := by unfold plainB; simp; omega
    have f0 : ((b : Int) ≥ 97) := by omega
    have f1 : ((b : Int) ≤ 122) := by omega
    have f2 : ((b : Int) ≥ 65) := by omega
    have f3 : ¬ ((b : Int) ≤ 90) := by omega
    have f4 : ((b : Int) ≥ 48) := by omega
    have f5 : ¬ ((b : Int) ≤ 57) := by omega
    simp only [a53, sy0, sy1, sy2, sy3, sy4, sy5, clearEnv, adel, mem, initEnv, initSlots, stepOp, wantedA, evalOp, callOf, panicOf, evalV, addr, opd, opds, aget, aset, adel1, lkill, readCells, nth, Env.put, Env.putV, Env.box, Env.bare, dropOwn, dropOwnS, binD, binBD, binBool, binInt, binStr, unD, AOpd.drop, Cell.of, AOp.kind, sameKind, assertD, eqlB, isUndef, takeC, unownAt, fits, layCells, putCells, putD, fillD, partsOf, optLo, optHi, allSize, Option.getD_some, Option.getD_none, runDefers, readRes, readRes1, readRess, Nat.reduceAdd, Nat.reduceSub, Nat.reduceMul, Nat.reduceBEq, Bool.false_and, Bool.true_and, Bool.and_true, Bool.and_false, Nat.zero_add, Nat.add_zero, beq_self_eq_true, Bool.true_beq, Bool.false_beq, Bool.not_true, Bool.not_false, decide_true, decide_false, bindO, List.map_cons, List.map_nil, List.length_cons, List.length_nil, List.append_nil, List.nil_append, List.cons_append, List.isEmpty_nil, List.isEmpty_cons, Nat.reduceLeDiff, Int.reduceBEq, Int.reduceNeg, Nat.le_refl, hv, f0, f1, f2, f3, f4, f5]
  · have hv : plainB b = false := by unfold plainB; simp; omega
    have f0 : ((b : Int) ≥ 97) := by omega
    have f1 : ¬ ((b : Int) ≤ 122) := by omega
    have f2 : ((b : Int) ≥ 65) := by omega
    have f3 : ¬ ((b : Int) ≤ 90) := by omega
    have f4 : ((b : Int) ≥ 48) := by omega
    have f5 : ¬ ((b : Int) ≤ 57) := by omega
    simp only [a53, sy0, sy1, sy2, sy3, sy4, sy5, clearEnv, adel, mem, initEnv, initSlots, stepOp, wantedA, evalOp, callOf, panicOf, evalV, addr, opd, opds, aget, aset, adel1, lkill, readCells, nth, Env.put, Env.putV, Env.box, Env.bare, dropOwn, dropOwnS, binD, binBD, binBool, binInt, binStr, unD, AOpd.drop, Cell.of, AOp.kind, sameKind, assertD, eqlB, isUndef, takeC, unownAt, fits, layCells, putCells, putD, fillD, partsOf, optLo, optHi, allSize, Option.getD_some, Option.getD_none, runDefers, readRes, readRes1, readRess, Nat.reduceAdd, Nat.reduceSub, Nat.reduceMul, Nat.reduceBEq, Bool.false_and, Bool.true_and, Bool.and_true, Bool.and_false, Nat.zero_add, Nat.add_zero, beq_self_eq_true, Bool.true_beq, Bool.false_beq, Bool.not_true, Bool.not_false, decide_true, decide_false, bindO, List.map_cons, List.map_nil, List.length_cons, List.length_nil, List.append_nil, List.nil_append, List.cons_append, List.isEmpty_nil, List.isEmpty_cons, Nat.reduceLeDiff, Int.reduceBEq, Int.reduceNeg, Nat.le_refl, hv, f0, f1, f2, f3, f4, f5]
theorem first_run : Evly fun n => ∀ (i b : Nat) σ o1 o2, aget σ.objs 0 = some (⟨o1, .int .i32 65⟩ :: []) → aget σ.objs 1 = some (⟨o2, .int .i32 90⟩ :: []) → TU n 52 [.int .i64 ((i : Nat) : Int), .int .i32 ((b : Nat) : Int), .ptr 0 0, .ptr 1 0] σ = some (.ret ⟨false, .bool (i != 0 || firstB b)⟩, σ) := (Evly.all (p := fun _ => True) fun _ => trivial).step 0 fun m _ _ i b σ o1 o2 h1 h2 => by
  rw [TU_fun (af := a52) rfl rfl]
  by_cases hi : i = 0
  · subst hi
    have f1 : ¬ (((0 : Nat) : Int) > 0) := by omega
    by_cases h3 : 65 ≤ b
    · have f2 : ((b : Int) ≥ 65) := by omega
      by_cases h4 : b ≤ 90
      · have f3 : ((b : Int) ≤ 90) := by omega
        have hv : firstB b = true := by unfold firstB; simp; omega
        simp only [a52, sy0, sy1, sy2, sy3, sy4, sy5, clearEnv, adel, mem, initEnv, initSlots, stepOp, wantedA, evalOp, callOf, panicOf, evalV, addr, opd, opds, aget, aset, adel1, lkill, readCells, nth, Env.put, Env.putV, Env.box, Env.bare, dropOwn, dropOwnS, binD, binBD, binBool, binInt, binStr, unD, AOpd.drop, Cell.of, AOp.kind, sameKind, assertD, eqlB, isUndef, takeC, unownAt, fits, layCells, putCells, putD, fillD, partsOf, optLo, optHi, allSize, Option.getD_some, Option.getD_none, runDefers, readRes, readRes1, readRess, Nat.reduceAdd, Nat.reduceSub, Nat.reduceMul, Nat.reduceBEq, Bool.false_and, Bool.true_and, Bool.and_true, Bool.and_false, Nat.zero_add, Nat.add_zero, beq_self_eq_true, Bool.true_beq, Bool.false_beq, Bool.not_true, Bool.not_false, decide_true, decide_false, bindO, List.map_cons, List.map_nil, List.length_cons, List.length_nil, List.append_nil, List.nil_append, List.cons_append, List.isEmpty_nil, List.isEmpty_cons, Nat.reduceLeDiff, Int.reduceBEq, Int.reduceNeg, Nat.le_refl, h1, h2, f1, f2, f3, hv, Bool.or_true]
      · have f3 : ¬ ((b : Int) ≤ 90) := by omega
        have hv : firstB b = false := by unfold firstB; simp; omega
        simp only [a52, sy0, sy1, sy2, sy3, sy4, sy5, clearEnv, adel, mem, initEnv, initSlots, stepOp, wantedA, evalOp, callOf, panicOf, evalV, addr, opd, opds, aget, aset, adel1, lkill, readCells, nth, Env.put, Env.putV, Env.box, Env.bare, dropOwn, dropOwnS, binD, binBD, binBool, binInt, binStr, unD, AOpd.drop, Cell.of, AOp.kind, sameKind, assertD, eqlB, isUndef, takeC, unownAt, fits, layCells, putCells, putD, fillD, partsOf, optLo, optHi, allSize, Option.getD_some, Option.getD_none, runDefers, readRes, readRes1, readRess, Nat.reduceAdd, Nat.reduceSub, Nat.reduceMul, Nat.reduceBEq, Bool.false_and, Bool.true_and, Bool.and_true, Bool.and_false, Nat.zero_add, Nat.add_zero, beq_self_eq_true, Bool.true_beq, Bool.false_beq, Bool.not_true, Bool.not_false, decide_true, decide_false, bindO, List.map_cons, List.map_nil, List.length_cons, List.length_nil, List.append_nil, List.nil_append, List.cons_append, List.isEmpty_nil, List.isEmpty_cons, Nat.reduceLeDiff, Int.reduceBEq, Int.reduceNeg, Nat.le_refl, h1, h2, f1, f2, f3, hv, Bool.or_false, bne_self_eq_false]
    · have f2 : ¬ ((b : Int) ≥ 65) := by omega
      have hv : firstB b = false := by unfold firstB; simp; omega
      simp only [a52, sy0, sy1, sy2, sy3, sy4, sy5, clearEnv, adel, mem, initEnv, initSlots, stepOp, wantedA, evalOp, callOf, panicOf, evalV, addr, opd, opds, aget, aset, adel1, lkill, readCells, nth, Env.put, Env.putV, Env.box, Env.bare, dropOwn, dropOwnS, binD, binBD, binBool, binInt, binStr, unD, AOpd.drop, Cell.of, AOp.kind, sameKind, assertD, eqlB, isUndef, takeC, unownAt, fits, layCells, putCells, putD, fillD, partsOf, optLo, optHi, allSize, Option.getD_some, Option.getD_none, runDefers, readRes, readRes1, readRess, Nat.reduceAdd, Nat.reduceSub, Nat.reduceMul, Nat.reduceBEq, Bool.false_and, Bool.true_and, Bool.and_true, Bool.and_false, Nat.zero_add, Nat.add_zero, beq_self_eq_true, Bool.true_beq, Bool.false_beq, Bool.not_true, Bool.not_false, decide_true, decide_false, bindO, List.map_cons, List.map_nil, List.length_cons, List.length_nil, List.append_nil, List.nil_append, List.cons_append, List.isEmpty_nil, List.isEmpty_cons, Nat.reduceLeDiff, Int.reduceBEq, Int.reduceNeg, Nat.le_refl, h1, h2, f1, f2, hv, Bool.or_false, bne_self_eq_false]
  · have f1 : ((i : Int) > 0) := by omega
    have hv : (i != 0) = true := by simp [hi]
    simp only [a52, sy0, sy1, sy2, sy3, sy4, sy5, clearEnv, adel, mem, initEnv, initSlots, stepOp, wantedA, evalOp, callOf, panicOf, evalV, addr, opd, opds, aget, aset, adel1, lkill, readCells, nth, Env.put, Env.putV, Env.box, Env.bare, dropOwn, dropOwnS, binD, binBD, binBool, binInt, binStr, unD, AOpd.drop, Cell.of, AOp.kind, sameKind, assertD, eqlB, isUndef, takeC, unownAt, fits, layCells, putCells, putD, fillD, partsOf, optLo, optHi, allSize, Option.getD_some, Option.getD_none, runDefers, readRes, readRes1, readRess, Nat.reduceAdd, Nat.reduceSub, Nat.reduceMul, Nat.reduceBEq, Bool.false_and, Bool.true_and, Bool.and_true, Bool.and_false, Nat.zero_add, Nat.add_zero, beq_self_eq_true, Bool.true_beq, Bool.false_beq, Bool.not_true, Bool.not_false, decide_true, decide_false, bindO, List.map_cons, List.map_nil, List.length_cons, List.length_nil, List.append_nil, List.nil_append, List.cons_append, List.isEmpty_nil, List.isEmpty_cons, Nat.reduceLeDiff, Int.reduceBEq, Int.reduceNeg, Nat.le_refl, h1, h2, f1, hv, Bool.true_or]
theorem zeroU : ((0 : Nat) : Int) = 0 := rfl
def ex39 : Nat → List (Nat × Cell)
  | 0 => []
  | _ + 1 => [(39, ⟨false, .bool false⟩)]
def E42 (s : List UInt8) (i : Nat) : Env := { slots := [(0, ⟨false, .str s⟩), (7, ⟨false, .fn (.func 52) [] [.ptr 0 0, .ptr 1 0]⟩), (12, ⟨false, .ptr 2 0⟩)] ++ ex39 i, locs := [], boxes := [], defers := [] }
def S42 (s : List UInt8) (i : Nat) : Store := { objs := [(1, [⟨false, .int .i32 90⟩]), (0, [⟨false, .int .i32 65⟩])], tys := [(1, 21), (0, 21)], iters := [(2, (s, i))], next := 3 }
theorem decode_lo (s : List UInt8) (i : Nat) (h : i < s.length) (ha : s[i].toNat < 128) : Utf8.decode ⟨⟨s⟩⟩ i = (s[i].toNat, 1) := decode_ascii ⟨⟨s⟩⟩ i h ha
theorem decode_hi (s : List UInt8) (i : Nat) (h : i < s.length) (ha : 128 ≤ s[i].toNat) : 128 ≤ (Utf8.decode ⟨⟨s⟩⟩ i).1 := (decode_high ⟨⟨s⟩⟩ i h ha).1
section
variable {C : CallF} {n : Nat} {s : List UInt8} {i : Nat}
theorem S42_0 : aget (S42 s i).objs 0 = some (⟨false, .int .i32 65⟩ :: []) := rfl
theorem S42_1 : aget (S42 s i).objs 1 = some (⟨false, .int .i32 90⟩ :: []) := rfl
theorem wrap8 {b : Nat} (h : b < 256) : IntKind.u8.wrap (b : Int) = (b : Int) := by
  simp [IntKind.wrap, IntKind.bits, IntKind.signed]
  omega
/-- The round's end, whatever stands ahead of it. -/
theorem l42_step (h : i < s.length) (hb : byteB s i = true)
    (hfirst : C 52 [.int .i64 ((i : Nat) : Int), .int .i32 ((s[i].toNat : Nat) : Int), .ptr 0 0, .ptr 1 0] (S42 s (i + 1)) = some (.ret ⟨false, .bool (i != 0 || firstB s[i].toNat)⟩, S42 s (i + 1)))
    (hplain : C 53 [.int .u8 ((s[i].toNat : Nat) : Int)] (S42 s (i + 1)) = some (.ret ⟨false, .bool (plainB s[i].toNat)⟩, S42 s (i + 1))) : exec C n a42_l0 (E42 s i) (S42 s i) = some (.normal, E42 s (i + 1), S42 s (i + 1)) := by
  unfold byteB at hb
  rw [List.getElem?_eq_getElem h] at hb
  simp only [Bool.and_eq_true] at hb
  obtain ⟨h1, h2⟩ := hb
  have hlo : s[i].toNat < 128 := by
    unfold okB plainB at h1
    simp at h1
    omega
  have hdec := decode_lo s i h hlo
  rw [h2] at hfirst
  have hw := wrap8 (b := s[i].toNat) (by omega)
  have f1 : ¬ ((s[i].toNat : Int) > 127) := by omega
  generalize s[i].toNat = b at *
  simp only [S42] at hfirst hplain
  cases hp : plainB b with
  | true =>
    rw [hp] at hplain
    cases i with
    | zero => simp only [a42_l0, E42, S42, ex39, sy0, sy1, sy2, sy3, sy4, sy5, clearEnv, adel, mem, initEnv, initSlots, stepOp, wantedA, evalOp, callOf, panicOf, evalV, addr, opd, opds, aget, aset, adel1, lkill, readCells, nth, Env.put, Env.putV, Env.box, Env.bare, dropOwn, dropOwnS, binD, binBD, binBool, binInt, binStr, unD, AOpd.drop, Cell.of, AOp.kind, sameKind, assertD, eqlB, isUndef, takeC, unownAt, fits, layCells, putCells, putD, fillD, partsOf, optLo, optHi, allSize, Option.getD_some, Option.getD_none, runDefers, readRes, readRes1, readRess, Nat.reduceAdd, Nat.reduceSub, Nat.reduceMul, Nat.reduceBEq, Bool.false_and, Bool.true_and, Bool.and_true, Bool.and_false, Nat.zero_add, Nat.add_zero, beq_self_eq_true, Bool.true_beq, Bool.false_beq, Bool.not_true, Bool.not_false, decide_true, decide_false, bindO, List.map_cons, List.map_nil, List.length_cons, List.length_nil, List.append_nil, List.nil_append, List.cons_append, List.isEmpty_nil, List.isEmpty_cons, Nat.reduceLeDiff, Int.reduceBEq, Int.reduceNeg, Nat.le_refl, h, hdec, hw, f1, hfirst, hplain]
    | succ i => simp only [a42_l0, E42, S42, ex39, sy0, sy1, sy2, sy3, sy4, sy5, clearEnv, adel, mem, initEnv, initSlots, stepOp, wantedA, evalOp, callOf, panicOf, evalV, addr, opd, opds, aget, aset, adel1, lkill, readCells, nth, Env.put, Env.putV, Env.box, Env.bare, dropOwn, dropOwnS, binD, binBD, binBool, binInt, binStr, unD, AOpd.drop, Cell.of, AOp.kind, sameKind, assertD, eqlB, isUndef, takeC, unownAt, fits, layCells, putCells, putD, fillD, partsOf, optLo, optHi, allSize, Option.getD_some, Option.getD_none, runDefers, readRes, readRes1, readRess, Nat.reduceAdd, Nat.reduceSub, Nat.reduceMul, Nat.reduceBEq, Bool.false_and, Bool.true_and, Bool.and_true, Bool.and_false, Nat.zero_add, Nat.add_zero, beq_self_eq_true, Bool.true_beq, Bool.false_beq, Bool.not_true, Bool.not_false, decide_true, decide_false, bindO, List.map_cons, List.map_nil, List.length_cons, List.length_nil, List.append_nil, List.nil_append, List.cons_append, List.isEmpty_nil, List.isEmpty_cons, Nat.reduceLeDiff, Int.reduceBEq, Int.reduceNeg, Nat.le_refl, h, hdec, hw, f1, hfirst, hplain]
  | false =>
    rw [hp] at hplain
    unfold okB at h1
    rw [hp] at h1
    simp only [Bool.false_or] at h1
    cases h39 : b == 39 with
    | true =>
      have e39 : ((b : Int) != 39) = false := by simp at h39 ⊢; omega
      cases i with
      | zero => simp only [a42_l0, E42, S42, ex39, sy0, sy1, sy2, sy3, sy4, sy5, clearEnv, adel, mem, initEnv, initSlots, stepOp, wantedA, evalOp, callOf, panicOf, evalV, addr, opd, opds, aget, aset, adel1, lkill, readCells, nth, Env.put, Env.putV, Env.box, Env.bare, dropOwn, dropOwnS, binD, binBD, binBool, binInt, binStr, unD, AOpd.drop, Cell.of, AOp.kind, sameKind, assertD, eqlB, isUndef, takeC, unownAt, fits, layCells, putCells, putD, fillD, partsOf, optLo, optHi, allSize, Option.getD_some, Option.getD_none, runDefers, readRes, readRes1, readRess, Nat.reduceAdd, Nat.reduceSub, Nat.reduceMul, Nat.reduceBEq, Bool.false_and, Bool.true_and, Bool.and_true, Bool.and_false, Nat.zero_add, Nat.add_zero, beq_self_eq_true, Bool.true_beq, Bool.false_beq, Bool.not_true, Bool.not_false, decide_true, decide_false, bindO, List.map_cons, List.map_nil, List.length_cons, List.length_nil, List.append_nil, List.nil_append, List.cons_append, List.isEmpty_nil, List.isEmpty_cons, Nat.reduceLeDiff, Int.reduceBEq, Int.reduceNeg, Nat.le_refl, h, hdec, hw, f1, hfirst, hplain, e39]
      | succ i => simp only [a42_l0, E42, S42, ex39, sy0, sy1, sy2, sy3, sy4, sy5, clearEnv, adel, mem, initEnv, initSlots, stepOp, wantedA, evalOp, callOf, panicOf, evalV, addr, opd, opds, aget, aset, adel1, lkill, readCells, nth, Env.put, Env.putV, Env.box, Env.bare, dropOwn, dropOwnS, binD, binBD, binBool, binInt, binStr, unD, AOpd.drop, Cell.of, AOp.kind, sameKind, assertD, eqlB, isUndef, takeC, unownAt, fits, layCells, putCells, putD, fillD, partsOf, optLo, optHi, allSize, Option.getD_some, Option.getD_none, runDefers, readRes, readRes1, readRess, Nat.reduceAdd, Nat.reduceSub, Nat.reduceMul, Nat.reduceBEq, Bool.false_and, Bool.true_and, Bool.and_true, Bool.and_false, Nat.zero_add, Nat.add_zero, beq_self_eq_true, Bool.true_beq, Bool.false_beq, Bool.not_true, Bool.not_false, decide_true, decide_false, bindO, List.map_cons, List.map_nil, List.length_cons, List.length_nil, List.append_nil, List.nil_append, List.cons_append, List.isEmpty_nil, List.isEmpty_cons, Nat.reduceLeDiff, Int.reduceBEq, Int.reduceNeg, Nat.le_refl, h, hdec, hw, f1, hfirst, hplain, e39]
    | false =>
      rw [h39] at h1
      have e39 : ((b : Int) != 39) = true := by simp at h39 ⊢; omega
      have e95 : ((b : Int) != 95) = false := by simp at h1 ⊢; omega
      cases i with
      | zero => simp only [a42_l0, E42, S42, ex39, sy0, sy1, sy2, sy3, sy4, sy5, clearEnv, adel, mem, initEnv, initSlots, stepOp, wantedA, evalOp, callOf, panicOf, evalV, addr, opd, opds, aget, aset, adel1, lkill, readCells, nth, Env.put, Env.putV, Env.box, Env.bare, dropOwn, dropOwnS, binD, binBD, binBool, binInt, binStr, unD, AOpd.drop, Cell.of, AOp.kind, sameKind, assertD, eqlB, isUndef, takeC, unownAt, fits, layCells, putCells, putD, fillD, partsOf, optLo, optHi, allSize, Option.getD_some, Option.getD_none, runDefers, readRes, readRes1, readRess, Nat.reduceAdd, Nat.reduceSub, Nat.reduceMul, Nat.reduceBEq, Bool.false_and, Bool.true_and, Bool.and_true, Bool.and_false, Nat.zero_add, Nat.add_zero, beq_self_eq_true, Bool.true_beq, Bool.false_beq, Bool.not_true, Bool.not_false, decide_true, decide_false, bindO, List.map_cons, List.map_nil, List.length_cons, List.length_nil, List.append_nil, List.nil_append, List.cons_append, List.isEmpty_nil, List.isEmpty_cons, Nat.reduceLeDiff, Int.reduceBEq, Int.reduceNeg, Nat.le_refl, h, hdec, hw, f1, hfirst, hplain, e39, e95]
      | succ i => simp only [a42_l0, E42, S42, ex39, sy0, sy1, sy2, sy3, sy4, sy5, clearEnv, adel, mem, initEnv, initSlots, stepOp, wantedA, evalOp, callOf, panicOf, evalV, addr, opd, opds, aget, aset, adel1, lkill, readCells, nth, Env.put, Env.putV, Env.box, Env.bare, dropOwn, dropOwnS, binD, binBD, binBool, binInt, binStr, unD, AOpd.drop, Cell.of, AOp.kind, sameKind, assertD, eqlB, isUndef, takeC, unownAt, fits, layCells, putCells, putD, fillD, partsOf, optLo, optHi, allSize, Option.getD_some, Option.getD_none, runDefers, readRes, readRes1, readRess, Nat.reduceAdd, Nat.reduceSub, Nat.reduceMul, Nat.reduceBEq, Bool.false_and, Bool.true_and, Bool.and_true, Bool.and_false, Nat.zero_add, Nat.add_zero, beq_self_eq_true, Bool.true_beq, Bool.false_beq, Bool.not_true, Bool.not_false, decide_true, decide_false, bindO, List.map_cons, List.map_nil, List.length_cons, List.length_nil, List.append_nil, List.nil_append, List.cons_append, List.isEmpty_nil, List.isEmpty_cons, Nat.reduceLeDiff, Int.reduceBEq, Int.reduceNeg, Nat.le_refl, h, hdec, hw, f1, hfirst, hplain, e39, e95]
theorem l42_stop (h : i < s.length) (hb : byteB s i = false)
    (hfirst : ∀ σ, σ = S42 s (i + 1) → s[i].toNat < 128 → C 52 [.int .i64 ((i : Nat) : Int), .int .i32 ((s[i].toNat : Nat) : Int), .ptr 0 0, .ptr 1 0] σ = some (.ret ⟨false, .bool (i != 0 || firstB s[i].toNat)⟩, σ))
    (hplain : C 53 [.int .u8 ((s[i].toNat : Nat) : Int)] (S42 s (i + 1)) = some (.ret ⟨false, .bool (plainB s[i].toNat)⟩, S42 s (i + 1))) : exec C n a42_l0 (E42 s i) (S42 s i) = some (.ret, { slots := [(6, ⟨false, .bool false⟩)], locs := [], boxes := [], defers := [] }, S42 s (i + (Utf8.decode ⟨⟨s⟩⟩ i).2)) := by
  unfold byteB at hb
  rw [List.getElem?_eq_getElem h] at hb
  simp only at hb
  by_cases hlo : s[i].toNat < 128
  · have hdec := decode_lo s i h hlo
    have hfirst := hfirst _ rfl hlo
    have hw := wrap8 (b := s[i].toNat) (by omega)
    have f1 : ¬ ((s[i].toNat : Int) > 127) := by omega
    generalize s[i].toNat = b at *
    simp only [S42] at hfirst hplain
    cases hf : (i != 0 || firstB b) with
    | false =>
      rw [hf] at hfirst
      cases i with
      | zero => simp only [a42_l0, E42, S42, ex39, sy0, sy1, sy2, sy3, sy4, sy5, clearEnv, adel, mem, initEnv, initSlots, stepOp, wantedA, evalOp, callOf, panicOf, evalV, addr, opd, opds, aget, aset, adel1, lkill, readCells, nth, Env.put, Env.putV, Env.box, Env.bare, dropOwn, dropOwnS, binD, binBD, binBool, binInt, binStr, unD, AOpd.drop, Cell.of, AOp.kind, sameKind, assertD, eqlB, isUndef, takeC, unownAt, fits, layCells, putCells, putD, fillD, partsOf, optLo, optHi, allSize, Option.getD_some, Option.getD_none, runDefers, readRes, readRes1, readRess, Nat.reduceAdd, Nat.reduceSub, Nat.reduceMul, Nat.reduceBEq, Bool.false_and, Bool.true_and, Bool.and_true, Bool.and_false, Nat.zero_add, Nat.add_zero, beq_self_eq_true, Bool.true_beq, Bool.false_beq, Bool.not_true, Bool.not_false, decide_true, decide_false, bindO, List.map_cons, List.map_nil, List.length_cons, List.length_nil, List.append_nil, List.nil_append, List.cons_append, List.isEmpty_nil, List.isEmpty_cons, Nat.reduceLeDiff, Int.reduceBEq, Int.reduceNeg, Nat.le_refl, h, hdec, f1, hfirst]
      | succ i => simp only [a42_l0, E42, S42, ex39, sy0, sy1, sy2, sy3, sy4, sy5, clearEnv, adel, mem, initEnv, initSlots, stepOp, wantedA, evalOp, callOf, panicOf, evalV, addr, opd, opds, aget, aset, adel1, lkill, readCells, nth, Env.put, Env.putV, Env.box, Env.bare, dropOwn, dropOwnS, binD, binBD, binBool, binInt, binStr, unD, AOpd.drop, Cell.of, AOp.kind, sameKind, assertD, eqlB, isUndef, takeC, unownAt, fits, layCells, putCells, putD, fillD, partsOf, optLo, optHi, allSize, Option.getD_some, Option.getD_none, runDefers, readRes, readRes1, readRess, Nat.reduceAdd, Nat.reduceSub, Nat.reduceMul, Nat.reduceBEq, Bool.false_and, Bool.true_and, Bool.and_true, Bool.and_false, Nat.zero_add, Nat.add_zero, beq_self_eq_true, Bool.true_beq, Bool.false_beq, Bool.not_true, Bool.not_false, decide_true, decide_false, bindO, List.map_cons, List.map_nil, List.length_cons, List.length_nil, List.append_nil, List.nil_append, List.cons_append, List.isEmpty_nil, List.isEmpty_cons, Nat.reduceLeDiff, Int.reduceBEq, Int.reduceNeg, Nat.le_refl, h, hdec, f1, hfirst]
    | true =>
      rw [hf] at hfirst hb
      simp only [Bool.and_true] at hb
      have hb2 : plainB b = false ∧ ((b == 39) = false ∧ (b == 95) = false) := by
        unfold okB at hb
        simp only [Bool.or_eq_false_iff] at hb
        exact ⟨hb.1.1, hb.1.2, hb.2⟩
      obtain ⟨hp, h39, h95⟩ := hb2
      rw [hp] at hplain
      have e39 : ((b : Int) != 39) = true := by simp at h39 ⊢; omega
      have e95 : ((b : Int) != 95) = true := by simp at h95 ⊢; omega
      cases i with
      | zero => simp only [a42_l0, E42, S42, ex39, sy0, sy1, sy2, sy3, sy4, sy5, clearEnv, adel, mem, initEnv, initSlots, stepOp, wantedA, evalOp, callOf, panicOf, evalV, addr, opd, opds, aget, aset, adel1, lkill, readCells, nth, Env.put, Env.putV, Env.box, Env.bare, dropOwn, dropOwnS, binD, binBD, binBool, binInt, binStr, unD, AOpd.drop, Cell.of, AOp.kind, sameKind, assertD, eqlB, isUndef, takeC, unownAt, fits, layCells, putCells, putD, fillD, partsOf, optLo, optHi, allSize, Option.getD_some, Option.getD_none, runDefers, readRes, readRes1, readRess, Nat.reduceAdd, Nat.reduceSub, Nat.reduceMul, Nat.reduceBEq, Bool.false_and, Bool.true_and, Bool.and_true, Bool.and_false, Nat.zero_add, Nat.add_zero, beq_self_eq_true, Bool.true_beq, Bool.false_beq, Bool.not_true, Bool.not_false, decide_true, decide_false, bindO, List.map_cons, List.map_nil, List.length_cons, List.length_nil, List.append_nil, List.nil_append, List.cons_append, List.isEmpty_nil, List.isEmpty_cons, Nat.reduceLeDiff, Int.reduceBEq, Int.reduceNeg, Nat.le_refl, h, hdec, hw, f1, hfirst, hplain, e39, e95]
      | succ i => simp only [a42_l0, E42, S42, ex39, sy0, sy1, sy2, sy3, sy4, sy5, clearEnv, adel, mem, initEnv, initSlots, stepOp, wantedA, evalOp, callOf, panicOf, evalV, addr, opd, opds, aget, aset, adel1, lkill, readCells, nth, Env.put, Env.putV, Env.box, Env.bare, dropOwn, dropOwnS, binD, binBD, binBool, binInt, binStr, unD, AOpd.drop, Cell.of, AOp.kind, sameKind, assertD, eqlB, isUndef, takeC, unownAt, fits, layCells, putCells, putD, fillD, partsOf, optLo, optHi, allSize, Option.getD_some, Option.getD_none, runDefers, readRes, readRes1, readRess, Nat.reduceAdd, Nat.reduceSub, Nat.reduceMul, Nat.reduceBEq, Bool.false_and, Bool.true_and, Bool.and_true, Bool.and_false, Nat.zero_add, Nat.add_zero, beq_self_eq_true, Bool.true_beq, Bool.false_beq, Bool.not_true, Bool.not_false, decide_true, decide_false, bindO, List.map_cons, List.map_nil, List.length_cons, List.length_nil, List.append_nil, List.nil_append, List.cons_append, List.isEmpty_nil, List.isEmpty_cons, Nat.reduceLeDiff, Int.reduceBEq, Int.reduceNeg, Nat.le_refl, h, hdec, hw, f1, hfirst, hplain, e39, e95]
  · have hd := decode_hi s i h (by omega)
    have f1 : (((Utf8.decode ⟨⟨s⟩⟩ i).1 : Int) > 127) := by omega
    cases i with
    | zero => simp only [a42_l0, E42, S42, ex39, sy0, sy1, sy2, sy3, sy4, sy5, clearEnv, adel, mem, initEnv, initSlots, stepOp, wantedA, evalOp, callOf, panicOf, evalV, addr, opd, opds, aget, aset, adel1, lkill, readCells, nth, Env.put, Env.putV, Env.box, Env.bare, dropOwn, dropOwnS, binD, binBD, binBool, binInt, binStr, unD, AOpd.drop, Cell.of, AOp.kind, sameKind, assertD, eqlB, isUndef, takeC, unownAt, fits, layCells, putCells, putD, fillD, partsOf, optLo, optHi, allSize, Option.getD_some, Option.getD_none, runDefers, readRes, readRes1, readRess, Nat.reduceAdd, Nat.reduceSub, Nat.reduceMul, Nat.reduceBEq, Bool.false_and, Bool.true_and, Bool.and_true, Bool.and_false, Nat.zero_add, Nat.add_zero, beq_self_eq_true, Bool.true_beq, Bool.false_beq, Bool.not_true, Bool.not_false, decide_true, decide_false, bindO, List.map_cons, List.map_nil, List.length_cons, List.length_nil, List.append_nil, List.nil_append, List.cons_append, List.isEmpty_nil, List.isEmpty_cons, Nat.reduceLeDiff, Int.reduceBEq, Int.reduceNeg, Nat.le_refl, h, f1]
    | succ i => simp only [a42_l0, E42, S42, ex39, sy0, sy1, sy2, sy3, sy4, sy5, clearEnv, adel, mem, initEnv, initSlots, stepOp, wantedA, evalOp, callOf, panicOf, evalV, addr, opd, opds, aget, aset, adel1, lkill, readCells, nth, Env.put, Env.putV, Env.box, Env.bare, dropOwn, dropOwnS, binD, binBD, binBool, binInt, binStr, unD, AOpd.drop, Cell.of, AOp.kind, sameKind, assertD, eqlB, isUndef, takeC, unownAt, fits, layCells, putCells, putD, fillD, partsOf, optLo, optHi, allSize, Option.getD_some, Option.getD_none, runDefers, readRes, readRes1, readRess, Nat.reduceAdd, Nat.reduceSub, Nat.reduceMul, Nat.reduceBEq, Bool.false_and, Bool.true_and, Bool.and_true, Bool.and_false, Nat.zero_add, Nat.add_zero, beq_self_eq_true, Bool.true_beq, Bool.false_beq, Bool.not_true, Bool.not_false, decide_true, decide_false, bindO, List.map_cons, List.map_nil, List.length_cons, List.length_nil, List.append_nil, List.nil_append, List.cons_append, List.isEmpty_nil, List.isEmpty_cons, Nat.reduceLeDiff, Int.reduceBEq, Int.reduceNeg, Nat.le_refl, h, f1]
theorem l42_end : exec C n a42_l0 (E42 s s.length) (S42 s s.length) = some (.exit 0, { slots := [(0, ⟨false, .str s⟩), (7, ⟨false, .fn (.func 52) [] [.ptr 0 0, .ptr 1 0]⟩), (12, ⟨false, .ptr 2 0⟩), (13, ⟨false, .tup [.bool false]⟩), (14, ⟨false, .bool false⟩)], locs := [], boxes := [], defers := [] }, S42 s s.length) := by
  have h : ¬ (s.length < s.length) := by omega
  cases hs : s.length with
  | zero =>
    rw [hs] at h
    simp only [a42_l0, E42, S42, ex39, sy0, sy1, sy2, sy3, sy4, sy5, clearEnv, adel, mem, initEnv, initSlots, stepOp, wantedA, evalOp, callOf, panicOf, evalV, addr, opd, opds, aget, aset, adel1, lkill, readCells, nth, Env.put, Env.putV, Env.box, Env.bare, dropOwn, dropOwnS, binD, binBD, binBool, binInt, binStr, unD, AOpd.drop, Cell.of, AOp.kind, sameKind, assertD, eqlB, isUndef, takeC, unownAt, fits, layCells, putCells, putD, fillD, partsOf, optLo, optHi, allSize, Option.getD_some, Option.getD_none, runDefers, readRes, readRes1, readRess, Nat.reduceAdd, Nat.reduceSub, Nat.reduceMul, Nat.reduceBEq, Bool.false_and, Bool.true_and, Bool.and_true, Bool.and_false, Nat.zero_add, Nat.add_zero, beq_self_eq_true, Bool.true_beq, Bool.false_beq, Bool.not_true, Bool.not_false, decide_true, decide_false, bindO, List.map_cons, List.map_nil, List.length_cons, List.length_nil, List.append_nil, List.nil_append, List.cons_append, List.isEmpty_nil, List.isEmpty_cons, Nat.reduceLeDiff, Int.reduceBEq, Int.reduceNeg, Nat.le_refl, hs, h]
  | succ k =>
    rw [hs] at h
    simp only [a42_l0, E42, S42, ex39, sy0, sy1, sy2, sy3, sy4, sy5, clearEnv, adel, mem, initEnv, initSlots, stepOp, wantedA, evalOp, callOf, panicOf, evalV, addr, opd, opds, aget, aset, adel1, lkill, readCells, nth, Env.put, Env.putV, Env.box, Env.bare, dropOwn, dropOwnS, binD, binBD, binBool, binInt, binStr, unD, AOpd.drop, Cell.of, AOp.kind, sameKind, assertD, eqlB, isUndef, takeC, unownAt, fits, layCells, putCells, putD, fillD, partsOf, optLo, optHi, allSize, Option.getD_some, Option.getD_none, runDefers, readRes, readRes1, readRess, Nat.reduceAdd, Nat.reduceSub, Nat.reduceMul, Nat.reduceBEq, Bool.false_and, Bool.true_and, Bool.and_true, Bool.and_false, Nat.zero_add, Nat.add_zero, beq_self_eq_true, Bool.true_beq, Bool.false_beq, Bool.not_true, Bool.not_false, decide_true, decide_false, bindO, List.map_cons, List.map_nil, List.length_cons, List.length_nil, List.append_nil, List.nil_append, List.cons_append, List.isEmpty_nil, List.isEmpty_cons, Nat.reduceLeDiff, Int.reduceBEq, Int.reduceNeg, Nat.le_refl, hs, h]
end
theorem upper_all {s : List UInt8} (h : ∀ i, 0 ≤ i → i < s.length → byteB s i = true) : (List.range s.length).all (byteB s) = true := by
  rw [List.all_eq_true]
  intro i hi
  exact h i (Nat.zero_le _) (List.mem_range.1 hi)
theorem upper_not {s : List UInt8} {i : Nat} (hi : i < s.length) (h : byteB s i = false) : (List.range s.length).all (byteB s) = false := by
  cases hx : (List.range s.length).all (byteB s) with
  | false => rfl
  | true =>
    rw [List.all_eq_true.1 hx i (List.mem_range.2 hi)] at h
    cases h
def σ3 : Store := { objs := [], tys := [], iters := [], next := 3 }
theorem name_run0 (s : List UInt8) : Evly fun n => TU n 42 [.str s, .int .i32 65, .int .i32 90] σ0 = some (.ret ⟨false, .bool (upperB s)⟩, σ3) := by
  refine (plain_run.and first_run).step (s.length + 1) fun m hm ⟨hplain, hfirst⟩ => ?_
  rw [TU_fun (af := a42) rfl rfl]
  have hloop := loopN_until (body := exec (TU m) m a42_l0) (E42 s) (S42 s) s.length (byteB s) (stop := fun i => (.ret, { slots := [(6, ⟨false, .bool false⟩)], locs := [], boxes := [], defers := [] }, S42 s (i + (Utf8.decode ⟨⟨s⟩⟩ i).2))) (fun _ _ h => by cases h) (fun _ _ _ h => by cases h)
    (fun i hi hp => l42_step hi hp (hfirst i _ _ false false rfl rfl) (hplain _ s[i].toNat_lt _))
    (fun i hi hp => l42_stop hi hp (fun σ hσ _ => hfirst i _ _ false false (by rw [hσ]; rfl) (by rw [hσ]; rfl)) (hplain _ s[i].toNat_lt _))
    l42_end m 0 (by omega) (by omega)
  simp only [E42, S42, ex39, List.append_nil, zeroU] at hloop
  rcases hloop with ⟨i, _, hi, hp, _, hrest⟩ | ⟨hp, hrest⟩
  · have hv : upperB s = false := by unfold upperB; rw [upper_not hi hp]; simp
    simp only [a42, σ0, sy0, sy1, sy2, sy3, sy4, sy5, clearEnv, adel, mem, initEnv, initSlots, stepOp, wantedA, evalOp, callOf, panicOf, evalV, addr, opd, opds, aget, aset, adel1, lkill, readCells, nth, Env.put, Env.putV, Env.box, Env.bare, dropOwn, dropOwnS, binD, binBD, binBool, binInt, binStr, unD, AOpd.drop, Cell.of, AOp.kind, sameKind, assertD, eqlB, isUndef, takeC, unownAt, fits, layCells, putCells, putD, fillD, partsOf, optLo, optHi, allSize, Option.getD_some, Option.getD_none, runDefers, readRes, readRes1, readRess, Nat.reduceAdd, Nat.reduceSub, Nat.reduceMul, Nat.reduceBEq, Bool.false_and, Bool.true_and, Bool.and_true, Bool.and_false, Nat.zero_add, Nat.add_zero, beq_self_eq_true, Bool.true_beq, Bool.false_beq, Bool.not_true, Bool.not_false, decide_true, decide_false, bindO, List.map_cons, List.map_nil, List.length_cons, List.length_nil, List.append_nil, List.nil_append, List.cons_append, List.isEmpty_nil, List.isEmpty_cons, Nat.reduceLeDiff, Int.reduceBEq, Int.reduceNeg, Nat.le_refl, hrest, hv]
    rfl
  · have hall := upper_all hp
    cases s with
    | nil =>
      simp only [a42, σ0, sy0, sy1, sy2, sy3, sy4, sy5, clearEnv, adel, mem, initEnv, initSlots, stepOp, wantedA, evalOp, callOf, panicOf, evalV, addr, opd, opds, aget, aset, adel1, lkill, readCells, nth, Env.put, Env.putV, Env.box, Env.bare, dropOwn, dropOwnS, binD, binBD, binBool, binInt, binStr, unD, AOpd.drop, Cell.of, AOp.kind, sameKind, assertD, eqlB, isUndef, takeC, unownAt, fits, layCells, putCells, putD, fillD, partsOf, optLo, optHi, allSize, Option.getD_some, Option.getD_none, runDefers, readRes, readRes1, readRess, Nat.reduceAdd, Nat.reduceSub, Nat.reduceMul, Nat.reduceBEq, Bool.false_and, Bool.true_and, Bool.and_true, Bool.and_false, Nat.zero_add, Nat.add_zero, beq_self_eq_true, Bool.true_beq, Bool.false_beq, Bool.not_true, Bool.not_false, decide_true, decide_false, bindO, List.map_cons, List.map_nil, List.length_cons, List.length_nil, List.append_nil, List.nil_append, List.cons_append, List.isEmpty_nil, List.isEmpty_cons, Nat.reduceLeDiff, Int.reduceBEq, Int.reduceNeg, Nat.le_refl, hrest, upperB, bne_self_eq_false]
      rfl
    | cons b l =>
      have hne : ((b :: l) == ([] : List UInt8)) = false := rfl
      have hrest := hrest
      by_cases hl : (b :: l).length ≤ 32
      · have f : (((b :: l).length : Nat) : Int) ≤ 32 := by omega
        have hv : upperB (b :: l) = true := by unfold upperB; rw [hall, decide_eq_true hl]; rfl
        generalize b :: l = s at *
        simp only [a42, σ0, sy0, sy1, sy2, sy3, sy4, sy5, clearEnv, adel, mem, initEnv, initSlots, stepOp, wantedA, evalOp, callOf, panicOf, evalV, addr, opd, opds, aget, aset, adel1, lkill, readCells, nth, Env.put, Env.putV, Env.box, Env.bare, dropOwn, dropOwnS, binD, binBD, binBool, binInt, binStr, unD, AOpd.drop, Cell.of, AOp.kind, sameKind, assertD, eqlB, isUndef, takeC, unownAt, fits, layCells, putCells, putD, fillD, partsOf, optLo, optHi, allSize, Option.getD_some, Option.getD_none, runDefers, readRes, readRes1, readRess, Nat.reduceAdd, Nat.reduceSub, Nat.reduceMul, Nat.reduceBEq, Bool.false_and, Bool.true_and, Bool.and_true, Bool.and_false, Nat.zero_add, Nat.add_zero, beq_self_eq_true, Bool.true_beq, Bool.false_beq, Bool.not_true, Bool.not_false, decide_true, decide_false, bindO, List.map_cons, List.map_nil, List.length_cons, List.length_nil, List.append_nil, List.nil_append, List.cons_append, List.isEmpty_nil, List.isEmpty_cons, Nat.reduceLeDiff, Int.reduceBEq, Int.reduceNeg, Nat.le_refl, hrest, hne, hv, f]
        rfl
      · have f : ¬ (((b :: l).length : Nat) : Int) ≤ 32 := by omega
        have hv : upperB (b :: l) = false := by unfold upperB; rw [decide_eq_false hl]; simp
        generalize b :: l = s at *
        simp only [a42, σ0, sy0, sy1, sy2, sy3, sy4, sy5, clearEnv, adel, mem, initEnv, initSlots, stepOp, wantedA, evalOp, callOf, panicOf, evalV, addr, opd, opds, aget, aset, adel1, lkill, readCells, nth, Env.put, Env.putV, Env.box, Env.bare, dropOwn, dropOwnS, binD, binBD, binBool, binInt, binStr, unD, AOpd.drop, Cell.of, AOp.kind, sameKind, assertD, eqlB, isUndef, takeC, unownAt, fits, layCells, putCells, putD, fillD, partsOf, optLo, optHi, allSize, Option.getD_some, Option.getD_none, runDefers, readRes, readRes1, readRess, Nat.reduceAdd, Nat.reduceSub, Nat.reduceMul, Nat.reduceBEq, Bool.false_and, Bool.true_and, Bool.and_true, Bool.and_false, Nat.zero_add, Nat.add_zero, beq_self_eq_true, Bool.true_beq, Bool.false_beq, Bool.not_true, Bool.not_false, decide_true, decide_false, bindO, List.map_cons, List.map_nil, List.length_cons, List.length_nil, List.append_nil, List.nil_append, List.cons_append, List.isEmpty_nil, List.isEmpty_cons, Nat.reduceLeDiff, Int.reduceBEq, Int.reduceNeg, Nat.le_refl, hrest, hne, hv, f]
        rfl
theorem upper_run0 (s : List UInt8) : Evly fun n => TU n 24 [.str s] σ0 = some (.ret ⟨false, .bool (upperB s)⟩, σ3) := (name_run0 s).step 0 fun m _ h => by
  rw [TU_fun (af := a24) rfl rfl]
  simp only [a24, sy0, sy1, sy2, sy3, sy4, sy5, clearEnv, adel, mem, initEnv, initSlots, stepOp, wantedA, evalOp, callOf, panicOf, evalV, addr, opd, opds, aget, aset, adel1, lkill, readCells, nth, Env.put, Env.putV, Env.box, Env.bare, dropOwn, dropOwnS, binD, binBD, binBool, binInt, binStr, unD, AOpd.drop, Cell.of, AOp.kind, sameKind, assertD, eqlB, isUndef, takeC, unownAt, fits, layCells, putCells, putD, fillD, partsOf, optLo, optHi, allSize, Option.getD_some, Option.getD_none, runDefers, readRes, readRes1, readRess, Nat.reduceAdd, Nat.reduceSub, Nat.reduceMul, Nat.reduceBEq, Bool.false_and, Bool.true_and, Bool.and_true, Bool.and_false, Nat.zero_add, Nat.add_zero, beq_self_eq_true, Bool.true_beq, Bool.false_beq, Bool.not_true, Bool.not_false, decide_true, decide_false, bindO, List.map_cons, List.map_nil, List.length_cons, List.length_nil, List.append_nil, List.nil_append, List.cons_append, List.isEmpty_nil, List.isEmpty_cons, Nat.reduceLeDiff, Int.reduceBEq, Int.reduceNeg, Nat.le_refl, h]
theorem upper_ok (s : List UInt8) (σ : Store) : CallOK Tryd.prog κ 24 [.str s] σ (.ret ⟨false, .bool (upperB s)⟩) σ := by
  obtain ⟨n, hn⟩ := upper_run0 s
  exact frame_rule (TU_sound n 24 [.str s] σ0 _ _ (hn n (Nat.le_refl _))) rfl rfl σ
end Go.Proofs.YtdoppkjoemlhjaaDoor.Sh

