/-
  The document's reader, at every text of at most 400 bytes.
-/
import Derived.Test.YtdoppkjoemlhjaaDoorShGsP
import Derived.Test.YtdoppkjoemlhjaaDoorShCut
import Derived.Test.YtdoppkjoemlhjaaDoorShRun
set_option linter.unusedSimpArgs false
set_option linter.unusedVariables false
namespace Go.Proofs.YtdoppkjoemlhjaaDoor.Sh
open Go Go.Mx
set_option maxRecDepth 10000
abbrev kStr : RowK := ⟨9, 1⟩
def dStr (l : List (List UInt8)) : D := dlist kStr (l.map D.str)
theorem eqb_ (c k : UInt8) : (((c.toNat : Nat) : Int) == ((k.toNat : Nat) : Int)) = (c == k) := by
  cases h : c == k with
  | true =>
    have : c = k := by simpa using h
    rw [this]
    simp
  | false =>
    have hne : c ≠ k := by simpa using h
    have : ¬ (((c.toNat : Nat) : Int) = ((k.toNat : Nat) : Int)) := fun e => hne (UInt8.toNat_inj.1 (by omega))
    simpa using this
theorem eqb32 (c : UInt8) : (((c.toNat : Nat) : Int) == 32) = decide (c = 32) := by
  have := eqb_ c 32
  rw [show (c == 32) = decide (c = 32) from rfl] at this
  exact this
theorem eqb40 (c : UInt8) : (((c.toNat : Nat) : Int) == 40) = decide (c = 40) := eqb_ c 40
theorem eqb41 (c : UInt8) : (((c.toNat : Nat) : Int) == 41) = decide (c = 41) := eqb_ c 41
theorem eqb45 (c : UInt8) : (((c.toNat : Nat) : Int) == 45) = decide (c = 45) := eqb_ c 45
theorem str_append (out : List (List UInt8)) (t : List UInt8) (h : out.length < 1000000) : appendD kStr 16 ⟨ow out.length, dlist kStr (out.map D.str)⟩ (.list kStr [.str t]) = some ⟨ow (out ++ [t]).length, dlist kStr ((out ++ [t]).map D.str)⟩ := by
  have ho : out.map D.str ≠ [] → ow out.length = true := fun hne => by
    cases out with
    | nil => exact absurd rfl hne
    | cons => rfl
  have e : ow (out ++ [t]).length = true := by simp [ow]
  rw [append_one ho rfl rfl (by simp only [List.length_map]; unfold bound; omega) (by simp only [List.length_map]; unfold bound; omega), e]
  simp
section
variable {C : CallF} {n : Nat} {s : List UInt8} {out : List (List UInt8)} {o frm i : Nat} {σ : Store} {b : Bool}
def E49 (s : List UInt8) (out : List (List UInt8)) (o frm i : Nat) (b : Bool) : Env := { slots := ifB b [(0, ⟨false, .str s⟩), (4, ⟨ow out.length, dlist kStr (out.map D.str)⟩), (5, ⟨false, .int .i64 o⟩), (6, ⟨false, .int .i64 frm⟩), (7, ⟨false, .int .i64 i⟩)] [(0, ⟨false, .str s⟩), (4, ⟨ow out.length, dlist kStr (out.map D.str)⟩), (5, ⟨false, .int .i64 o⟩), (7, ⟨false, .int .i64 i⟩), (6, ⟨false, .int .i64 frm⟩)], locs := [], boxes := [], defers := [] }
theorem slice_mid {s : List UInt8} {lo hi : Nat} (h1 : lo ≤ hi) (h2 : hi ≤ s.length) : sliceStr s lo (some hi) = some (.str ((s.drop lo).take (hi - lo))) := by
  simp only [sliceStr, Option.getD_some, decide_eq_true h1, decide_eq_true h2, Bool.and_self, ifB_true]
theorem l49_piece (hi : i ≤ s.length) (hf : frm ≤ i) (hl : s.length < 1000000) (ho : out.length < 1000000) (h : i = s.length ∨ ∃ (h : i < s.length), s[i] = 32 ∧ o = 0) :
    exec C n a49_l0 (E49 s out o frm i b) σ = some (.normal, E49 s (out ++ [(s.drop frm).take (i - frm)]) o (i + 1) (i + 1) false, σ) := by
  have hle : ((i : Int) ≤ (s.length : Int)) := by omega
  have hs := slice_mid hf hi
  have ha := str_append out ((s.drop frm).take (i - frm)) ho
  have hw := wrap64_succ (i := i) (by omega)
  by_cases hx : i = s.length
  · have he : (((i : Nat) : Int) == ((s.length : Nat) : Int)) = true := by simp [hx]
    cases b <;> simp only [a49_l0, E49, sy0, sy1, sy2, sy3, sy4, sy5, clearEnv, adel, mem, initEnv, initSlots, stepOp, wantedA, evalOp, callOf, panicOf, evalV, addr, opd, opds, aget, aset, adel1, lkill, readCells, nth, Env.put, Env.putV, Env.box, Env.bare, dropOwn, dropOwnS, binD, binBD, binBool, binInt, binStr, unD, AOpd.drop, Cell.of, AOp.kind, sameKind, assertD, eqlB, isUndef, takeC, unownAt, fits, layCells, putCells, putD, fillD, partsOf, optLo, optHi, allSize, Option.getD_some, Option.getD_none, runDefers, readRes, readRes1, readRess, Nat.reduceAdd, Nat.reduceSub, Nat.reduceMul, Nat.reduceBEq, Bool.false_and, Bool.true_and, Bool.and_true, Bool.and_false, Nat.zero_add, Nat.add_zero, beq_self_eq_true, Bool.true_beq, Bool.false_beq, Bool.not_true, Bool.not_false, decide_true, decide_false, bindO, List.map_cons, List.map_nil, List.length_cons, List.length_nil, List.append_nil, List.nil_append, List.cons_append, List.isEmpty_nil, List.isEmpty_cons, Nat.reduceLeDiff, Int.reduceBEq, Int.reduceNeg, Nat.le_refl, hle, he, hs, ha, hw]
  · obtain ⟨hlt, hc, ho0⟩ := h.resolve_left hx
    have he : (((i : Nat) : Int) == ((s.length : Nat) : Int)) = false := by simp; omega
    have hn := nth_get s i hlt
    have h32 := eqb32 s[i]
    rw [decide_eq_true hc] at h32
    subst ho0
    cases b <;> simp only [a49_l0, E49, sy0, sy1, sy2, sy3, sy4, sy5, clearEnv, adel, mem, initEnv, initSlots, stepOp, wantedA, evalOp, callOf, panicOf, evalV, addr, opd, opds, aget, aset, adel1, lkill, readCells, nth, Env.put, Env.putV, Env.box, Env.bare, dropOwn, dropOwnS, binD, binBD, binBool, binInt, binStr, unD, AOpd.drop, Cell.of, AOp.kind, sameKind, assertD, eqlB, isUndef, takeC, unownAt, fits, layCells, putCells, putD, fillD, partsOf, optLo, optHi, allSize, Option.getD_some, Option.getD_none, runDefers, readRes, readRes1, readRess, Nat.reduceAdd, Nat.reduceSub, Nat.reduceMul, Nat.reduceBEq, Bool.false_and, Bool.true_and, Bool.and_true, Bool.and_false, Nat.zero_add, Nat.add_zero, beq_self_eq_true, Bool.true_beq, Bool.false_beq, Bool.not_true, Bool.not_false, decide_true, decide_false, bindO, List.map_cons, List.map_nil, List.length_cons, List.length_nil, List.append_nil, List.nil_append, List.cons_append, List.isEmpty_nil, List.isEmpty_cons, Nat.reduceLeDiff, Int.reduceBEq, Int.reduceNeg, Nat.le_refl, hle, he, hn, h32, hs, ha, hw, zeroI]
theorem l49_open (hlt : i < s.length) (hl : s.length < 1000000) (ho : o ≤ s.length) (hc : s[i] = 40) :
    exec C n a49_l0 (E49 s out o frm i b) σ = some (.normal, E49 s out (o + 1) frm (i + 1) b, σ) := by
  have hle : ((i : Int) ≤ (s.length : Int)) := by omega
  have hw := wrap64_succ (i := i) (by omega)
  have hw2 := wrap64_succ (i := o) (by omega)
  have he : (((i : Nat) : Int) == ((s.length : Nat) : Int)) = false := by simp; omega
  have hn := nth_get s i hlt
  have h32 := eqb32 s[i]
  have h40 := eqb40 s[i]
  have h41 := eqb41 s[i]
  have h0 : ¬ (((o + 1 : Nat) : Int) < 0) := by omega
  rw [hc] at h32 h40 h41
  rw [hc] at hn
  have e1 : decide ((40 : UInt8) = 32) = false := rfl
  have e2 : decide ((40 : UInt8) = 40) = true := rfl
  have e3 : decide ((40 : UInt8) = 41) = false := rfl
  rw [e1] at h32
  rw [e2] at h40
  rw [e3] at h41
  cases b <;> simp only [a49_l0, E49, sy0, sy1, sy2, sy3, sy4, sy5, clearEnv, adel, mem, initEnv, initSlots, stepOp, wantedA, evalOp, callOf, panicOf, evalV, addr, opd, opds, aget, aset, adel1, lkill, readCells, nth, Env.put, Env.putV, Env.box, Env.bare, dropOwn, dropOwnS, binD, binBD, binBool, binInt, binStr, unD, AOpd.drop, Cell.of, AOp.kind, sameKind, assertD, eqlB, isUndef, takeC, unownAt, fits, layCells, putCells, putD, fillD, partsOf, optLo, optHi, allSize, Option.getD_some, Option.getD_none, runDefers, readRes, readRes1, readRess, Nat.reduceAdd, Nat.reduceSub, Nat.reduceMul, Nat.reduceBEq, Bool.false_and, Bool.true_and, Bool.and_true, Bool.and_false, Nat.zero_add, Nat.add_zero, beq_self_eq_true, Bool.true_beq, Bool.false_beq, Bool.not_true, Bool.not_false, decide_true, decide_false, bindO, List.map_cons, List.map_nil, List.length_cons, List.length_nil, List.append_nil, List.nil_append, List.cons_append, List.isEmpty_nil, List.isEmpty_cons, Nat.reduceLeDiff, Int.reduceBEq, Int.reduceNeg, Nat.le_refl, hle, he, hn, h32, h40, h41, hw, hw2, h0]
theorem l49_shut (hlt : i < s.length) (hl : s.length < 1000000) (ho : o ≤ s.length) (hc : s[i] = 41) :
    exec C n a49_l0 (E49 s out (o + 1) frm i b) σ = some (.normal, E49 s out o frm (i + 1) b, σ) := by
  have hle : ((i : Int) ≤ (s.length : Int)) := by omega
  have hw := wrap64_succ (i := i) (by omega)
  have hw2 : IntKind.i64.wrap (((o + 1 : Nat) : Int) - 1) = ((o : Nat) : Int) := by rw [wrap64 (by omega) (by omega)]; omega
  have he : (((i : Nat) : Int) == ((s.length : Nat) : Int)) = false := by simp; omega
  have hn := nth_get s i hlt
  have h32 := eqb32 s[i]
  have h40 := eqb40 s[i]
  have h41 := eqb41 s[i]
  have h0 : ¬ (((o : Nat) : Int) < 0) := by omega
  rw [hc] at h32 h40 h41
  rw [hc] at hn
  have e1 : decide ((41 : UInt8) = 32) = false := rfl
  have e2 : decide ((41 : UInt8) = 40) = false := rfl
  have e3 : decide ((41 : UInt8) = 41) = true := rfl
  rw [e1] at h32
  rw [e2] at h40
  rw [e3] at h41
  cases b <;> simp only [a49_l0, E49, sy0, sy1, sy2, sy3, sy4, sy5, clearEnv, adel, mem, initEnv, initSlots, stepOp, wantedA, evalOp, callOf, panicOf, evalV, addr, opd, opds, aget, aset, adel1, lkill, readCells, nth, Env.put, Env.putV, Env.box, Env.bare, dropOwn, dropOwnS, binD, binBD, binBool, binInt, binStr, unD, AOpd.drop, Cell.of, AOp.kind, sameKind, assertD, eqlB, isUndef, takeC, unownAt, fits, layCells, putCells, putD, fillD, partsOf, optLo, optHi, allSize, Option.getD_some, Option.getD_none, runDefers, readRes, readRes1, readRess, Nat.reduceAdd, Nat.reduceSub, Nat.reduceMul, Nat.reduceBEq, Bool.false_and, Bool.true_and, Bool.and_true, Bool.and_false, Nat.zero_add, Nat.add_zero, beq_self_eq_true, Bool.true_beq, Bool.false_beq, Bool.not_true, Bool.not_false, decide_true, decide_false, bindO, List.map_cons, List.map_nil, List.length_cons, List.length_nil, List.append_nil, List.nil_append, List.cons_append, List.isEmpty_nil, List.isEmpty_cons, Nat.reduceLeDiff, Int.reduceBEq, Int.reduceNeg, Nat.le_refl, hle, he, hn, h32, h40, h41, hw, hw2, h0]
theorem l49_bad (hlt : i < s.length) (hl : s.length < 1000000) (hc : s[i] = 41) :
    exec C n a49_l0 (E49 s out 0 frm i b) σ = some (.ret, { slots := [(2, ⟨false, .nils⟩), (3, ⟨false, .bool false⟩)], locs := [], boxes := [], defers := [] }, σ) := by
  have hle : ((i : Int) ≤ (s.length : Int)) := by omega
  have hw2 : IntKind.i64.wrap (((0 : Nat) : Int) - 1) = -1 := by decide
  have he : (((i : Nat) : Int) == ((s.length : Nat) : Int)) = false := by simp; omega
  have hn := nth_get s i hlt
  have h32 := eqb32 s[i]
  have h40 := eqb40 s[i]
  have h41 := eqb41 s[i]
  have h0 : ((-1 : Int) < 0) := by omega
  rw [hc] at h32 h40 h41
  rw [hc] at hn
  have e1 : decide ((41 : UInt8) = 32) = false := rfl
  have e2 : decide ((41 : UInt8) = 40) = false := rfl
  have e3 : decide ((41 : UInt8) = 41) = true := rfl
  rw [e1] at h32
  rw [e2] at h40
  rw [e3] at h41
  cases b <;> simp only [a49_l0, E49, sy0, sy1, sy2, sy3, sy4, sy5, clearEnv, adel, mem, initEnv, initSlots, stepOp, wantedA, evalOp, callOf, panicOf, evalV, addr, opd, opds, aget, aset, adel1, lkill, readCells, nth, Env.put, Env.putV, Env.box, Env.bare, dropOwn, dropOwnS, binD, binBD, binBool, binInt, binStr, unD, AOpd.drop, Cell.of, AOp.kind, sameKind, assertD, eqlB, isUndef, takeC, unownAt, fits, layCells, putCells, putD, fillD, partsOf, optLo, optHi, allSize, Option.getD_some, Option.getD_none, runDefers, readRes, readRes1, readRess, Nat.reduceAdd, Nat.reduceSub, Nat.reduceMul, Nat.reduceBEq, Bool.false_and, Bool.true_and, Bool.and_true, Bool.and_false, Nat.zero_add, Nat.add_zero, beq_self_eq_true, Bool.true_beq, Bool.false_beq, Bool.not_true, Bool.not_false, decide_true, decide_false, bindO, List.map_cons, List.map_nil, List.length_cons, List.length_nil, List.append_nil, List.nil_append, List.cons_append, List.isEmpty_nil, List.isEmpty_cons, Nat.reduceLeDiff, Int.reduceBEq, Int.reduceNeg, Nat.le_refl, hle, he, hn, h32, h40, h41, hw2, h0]
theorem l49_go (hlt : i < s.length) (hl : s.length < 1000000) (hc32 : ¬ (s[i] = 32 ∧ o = 0)) (hc40 : s[i] ≠ 40) (hc41 : s[i] ≠ 41) :
    exec C n a49_l0 (E49 s out o frm i b) σ = some (.normal, E49 s out o frm (i + 1) b, σ) := by
  have hle : ((i : Int) ≤ (s.length : Int)) := by omega
  have hw := wrap64_succ (i := i) (by omega)
  have he : (((i : Nat) : Int) == ((s.length : Nat) : Int)) = false := by simp; omega
  have hn := nth_get s i hlt
  have h32 := eqb32 s[i]
  have h40 := eqb40 s[i]
  have h41 := eqb41 s[i]
  have h0 : ¬ (((o : Nat) : Int) < 0) := by omega
  rw [decide_eq_false hc40] at h40
  rw [decide_eq_false hc41] at h41
  by_cases hx : s[i] = 32
  · rw [decide_eq_true hx] at h32
    have ho : (((o : Nat) : Int) == 0) = false := by
      have : o ≠ 0 := fun e => hc32 ⟨hx, e⟩
      simp; omega
    cases b <;> simp only [a49_l0, E49, sy0, sy1, sy2, sy3, sy4, sy5, clearEnv, adel, mem, initEnv, initSlots, stepOp, wantedA, evalOp, callOf, panicOf, evalV, addr, opd, opds, aget, aset, adel1, lkill, readCells, nth, Env.put, Env.putV, Env.box, Env.bare, dropOwn, dropOwnS, binD, binBD, binBool, binInt, binStr, unD, AOpd.drop, Cell.of, AOp.kind, sameKind, assertD, eqlB, isUndef, takeC, unownAt, fits, layCells, putCells, putD, fillD, partsOf, optLo, optHi, allSize, Option.getD_some, Option.getD_none, runDefers, readRes, readRes1, readRess, Nat.reduceAdd, Nat.reduceSub, Nat.reduceMul, Nat.reduceBEq, Bool.false_and, Bool.true_and, Bool.and_true, Bool.and_false, Nat.zero_add, Nat.add_zero, beq_self_eq_true, Bool.true_beq, Bool.false_beq, Bool.not_true, Bool.not_false, decide_true, decide_false, bindO, List.map_cons, List.map_nil, List.length_cons, List.length_nil, List.append_nil, List.nil_append, List.cons_append, List.isEmpty_nil, List.isEmpty_cons, Nat.reduceLeDiff, Int.reduceBEq, Int.reduceNeg, Nat.le_refl, hle, he, hn, h32, h40, h41, hw, h0, ho]
  · rw [decide_eq_false hx] at h32
    cases b <;> simp only [a49_l0, E49, sy0, sy1, sy2, sy3, sy4, sy5, clearEnv, adel, mem, initEnv, initSlots, stepOp, wantedA, evalOp, callOf, panicOf, evalV, addr, opd, opds, aget, aset, adel1, lkill, readCells, nth, Env.put, Env.putV, Env.box, Env.bare, dropOwn, dropOwnS, binD, binBD, binBool, binInt, binStr, unD, AOpd.drop, Cell.of, AOp.kind, sameKind, assertD, eqlB, isUndef, takeC, unownAt, fits, layCells, putCells, putD, fillD, partsOf, optLo, optHi, allSize, Option.getD_some, Option.getD_none, runDefers, readRes, readRes1, readRess, Nat.reduceAdd, Nat.reduceSub, Nat.reduceMul, Nat.reduceBEq, Bool.false_and, Bool.true_and, Bool.and_true, Bool.and_false, Nat.zero_add, Nat.add_zero, beq_self_eq_true, Bool.true_beq, Bool.false_beq, Bool.not_true, Bool.not_false, decide_true, decide_false, bindO, List.map_cons, List.map_nil, List.length_cons, List.length_nil, List.append_nil, List.nil_append, List.cons_append, List.isEmpty_nil, List.isEmpty_cons, Nat.reduceLeDiff, Int.reduceBEq, Int.reduceNeg, Nat.le_refl, hle, he, hn, h32, h40, h41, hw, h0]
theorem l49_end (hlt : i = s.length + 1) :
    exec C n a49_l0 (E49 s out o frm i b) σ = some (.exit 0, { (E49 s out o frm i b) with slots := (E49 s out o frm i b).slots ++ [(11, ⟨false, .bool false⟩)] }, σ) := by
  have hle : ¬ ((i : Int) ≤ (s.length : Int)) := by omega
  cases b <;> simp only [a49_l0, E49, sy0, sy1, sy2, sy3, sy4, sy5, clearEnv, adel, mem, initEnv, initSlots, stepOp, wantedA, evalOp, callOf, panicOf, evalV, addr, opd, opds, aget, aset, adel1, lkill, readCells, nth, Env.put, Env.putV, Env.box, Env.bare, dropOwn, dropOwnS, binD, binBD, binBool, binInt, binStr, unD, AOpd.drop, Cell.of, AOp.kind, sameKind, assertD, eqlB, isUndef, takeC, unownAt, fits, layCells, putCells, putD, fillD, partsOf, optLo, optHi, allSize, Option.getD_some, Option.getD_none, runDefers, readRes, readRes1, readRess, Nat.reduceAdd, Nat.reduceSub, Nat.reduceMul, Nat.reduceBEq, Bool.false_and, Bool.true_and, Bool.and_true, Bool.and_false, Nat.zero_add, Nat.add_zero, beq_self_eq_true, Bool.true_beq, Bool.false_beq, Bool.not_true, Bool.not_false, decide_true, decide_false, bindO, List.map_cons, List.map_nil, List.length_cons, List.length_nil, List.append_nil, List.nil_append, List.cons_append, List.isEmpty_nil, List.isEmpty_cons, Nat.reduceLeDiff, Int.reduceBEq, Int.reduceNeg, Nat.le_refl, hle]
end
theorem drop_cons {s : List UInt8} {i : Nat} (h : i < s.length) : s.drop i = s[i] :: s.drop (i + 1) := List.drop_eq_getElem_cons h
theorem take_more {s : List UInt8} {frm i : Nat} (h : i < s.length) (hf : frm ≤ i) : (s.drop frm).take (i + 1 - frm) = (s.drop frm).take (i - frm) ++ [s[i]] := by
  have e : i + 1 - frm = (i - frm) + 1 := by omega
  rw [e, List.take_add_one]
  congr 1
  rw [List.getElem?_drop]
  have : frm + (i - frm) = i := by omega
  rw [this, List.getElem?_eq_getElem h]
  rfl
def E49x (s : List UInt8) (out : List (List UInt8)) (o frm i : Nat) (b : Bool) : Env := { (E49 s out o frm i b) with slots := (E49 s out o frm i b).slots ++ [(11, ⟨false, .bool false⟩)] }
def Q49 (s : List UInt8) (σ : Store) (R : Option (List (List UInt8) × Bool)) (r : AExit × Env × Store) : Prop := match R with
  | none => r = (.ret, { slots := [(2, ⟨false, .nils⟩), (3, ⟨false, .bool false⟩)], locs := [], boxes := [], defers := [] }, σ)
  | some p => ∃ o frm i b, p.2 = (o == 0) ∧ r = (.exit 0, E49x s p.1 o frm i b, σ)
theorem split_run : Evly fun n => ∀ s : List UInt8, s.length ≤ 400 → ∀ σ, T n 49 [.str s] σ = some (.ret ⟨false, .tup [dStr (splR s).1, .bool (splR s).2]⟩, σ) := (Evly.all (p := fun _ => True) fun _ => trivial).step 500 fun m hm _ s hs σ => by
  obtain ⟨R, hR⟩ : ∃ R, spl s [] 0 [] = R := ⟨_, rfl⟩
  have hloop := loopN_ex (body := exec (T m) m a49_l0)
    (fun k e σ' => σ' = σ ∧ ∃ out o frm i b, k = s.length + 1 - i ∧ e = E49 s out o frm i b ∧ o ≤ i ∧ out.length ≤ i ∧ frm ≤ i ∧ ((i ≤ s.length ∧ spl (s.drop i) ((s.drop frm).take (i - frm)) o out = R) ∨ (i = s.length + 1 ∧ R = some (out, o == 0))))
    (Q49 s σ R)
    (fun k e σ' ⟨hσ, out, o, frm, i, b, hk, he, ho, hout, hf, hor⟩ => by
      subst he hσ
      rcases hor with ⟨hi, hsp⟩ | ⟨hi, hr⟩
      · by_cases hx : i = s.length
        · refine .inr ⟨_, _, _, by omega, l49_piece hi hf (by omega) (by omega) (.inl hx), rfl, _, o, i + 1, i + 1, false, rfl, rfl, by omega, by simp; omega, by omega, .inr ⟨by omega, ?_⟩⟩
          rw [← hsp, hx, List.drop_length, spl]
        · have hlt : i < s.length := by omega
          have hd := drop_cons hlt
          rw [hd, spl_cons] at hsp
          have htm := take_more hlt hf
          by_cases h32 : s[i] = 32 ∧ o = 0
          · rw [if_pos h32] at hsp
            refine .inr ⟨_, _, _, by omega, l49_piece hi hf (by omega) (by omega) (.inr ⟨hlt, h32⟩), rfl, _, o, i + 1, i + 1, false, rfl, rfl, by omega, by simp; omega, by omega, .inl ⟨by omega, ?_⟩⟩
            rw [← hsp, h32.2]
            simp
          · rw [if_neg h32] at hsp
            by_cases h40 : s[i] = 40
            · rw [if_pos h40] at hsp
              refine .inr ⟨_, _, _, by omega, l49_open hlt (by omega) (by omega) h40, rfl, out, o + 1, frm, i + 1, b, rfl, rfl, by omega, by omega, by omega, .inl ⟨by omega, ?_⟩⟩
              rw [htm]
              exact hsp
            · rw [if_neg h40] at hsp
              by_cases h41 : s[i] = 41
              · rw [if_pos h41] at hsp
                cases o with
                | zero =>
                  rw [if_pos rfl] at hsp
                  refine .inl ⟨_, l49_bad hlt (by omega) h41, (fun _ _ h => by cases h), ?_⟩
                  rw [← hsp]
                  exact rfl
                | succ o =>
                  rw [if_neg (by omega), Nat.add_sub_cancel] at hsp
                  refine .inr ⟨_, _, _, by omega, l49_shut hlt (by omega) (by omega) h41, rfl, out, o, frm, i + 1, b, rfl, rfl, by omega, by omega, by omega, .inl ⟨by omega, ?_⟩⟩
                  rw [htm]
                  exact hsp
              · rw [if_neg h41] at hsp
                refine .inr ⟨_, _, _, by omega, l49_go hlt (by omega) h32 h40 h41, rfl, out, o, frm, i + 1, b, rfl, rfl, by omega, by omega, by omega, .inl ⟨by omega, ?_⟩⟩
                rw [htm]
                exact hsp
      · refine .inl ⟨_, l49_end hi, (fun _ _ h => by cases h), ?_⟩
        rw [hr]
        exact ⟨o, frm, i, b, rfl, rfl⟩) m (s.length + 1) (E49 s [] 0 0 0 true) σ (by omega) ⟨rfl, [], 0, 0, 0, true, rfl, rfl, by omega, by simp, by omega, .inl ⟨by omega, by simpa using hR⟩⟩
  obtain ⟨r, hr, hq⟩ := hloop
  rw [T_fun (af := a49) rfl rfl]
  unfold splR
  rw [hR]
  simp only [E49, zeroI, ifB_true, List.map_nil, List.length_nil, ow, dlist_nil] at hr
  cases R with
  | none =>
    obtain rfl : r = _ := hq
    simp only [a49, sy0, sy1, sy2, sy3, sy4, sy5, clearEnv, adel, mem, initEnv, initSlots, stepOp, wantedA, evalOp, callOf, panicOf, evalV, addr, opd, opds, aget, aset, adel1, lkill, readCells, nth, Env.put, Env.putV, Env.box, Env.bare, dropOwn, dropOwnS, binD, binBD, binBool, binInt, binStr, unD, AOpd.drop, Cell.of, AOp.kind, sameKind, assertD, eqlB, isUndef, takeC, unownAt, fits, layCells, putCells, putD, fillD, partsOf, optLo, optHi, allSize, Option.getD_some, Option.getD_none, runDefers, readRes, readRes1, readRess, Nat.reduceAdd, Nat.reduceSub, Nat.reduceMul, Nat.reduceBEq, Bool.false_and, Bool.true_and, Bool.and_true, Bool.and_false, Nat.zero_add, Nat.add_zero, beq_self_eq_true, Bool.true_beq, Bool.false_beq, Bool.not_true, Bool.not_false, decide_true, decide_false, bindO, List.map_cons, List.map_nil, List.length_cons, List.length_nil, List.append_nil, List.nil_append, List.cons_append, List.isEmpty_nil, List.isEmpty_cons, Nat.reduceLeDiff, Int.reduceBEq, Int.reduceNeg, Nat.le_refl, hr, dStr]
  | some p =>
    obtain ⟨out, c⟩ := p
    obtain ⟨o, frm, i, b, hc, rfl⟩ := hq
    obtain rfl : c = (o == 0) := hc
    have e0 : (((o : Nat) : Int) == 0) = (o == 0) := by cases o <;> simp; omega
    simp only [E49x, E49] at hr
    cases b <;> simp only [ifB_true, ifB_false, List.cons_append, List.nil_append] at hr <;> simp only [a49, sy0, sy1, sy2, sy3, sy4, sy5, clearEnv, adel, mem, initEnv, initSlots, stepOp, wantedA, evalOp, callOf, panicOf, evalV, addr, opd, opds, aget, aset, adel1, lkill, readCells, nth, Env.put, Env.putV, Env.box, Env.bare, dropOwn, dropOwnS, binD, binBD, binBool, binInt, binStr, unD, AOpd.drop, Cell.of, AOp.kind, sameKind, assertD, eqlB, isUndef, takeC, unownAt, fits, layCells, putCells, putD, fillD, partsOf, optLo, optHi, allSize, Option.getD_some, Option.getD_none, runDefers, readRes, readRes1, readRess, Nat.reduceAdd, Nat.reduceSub, Nat.reduceMul, Nat.reduceBEq, Bool.false_and, Bool.true_and, Bool.and_true, Bool.and_false, Nat.zero_add, Nat.add_zero, beq_self_eq_true, Bool.true_beq, Bool.false_beq, Bool.not_true, Bool.not_false, decide_true, decide_false, bindO, List.map_cons, List.map_nil, List.length_cons, List.length_nil, List.append_nil, List.nil_append, List.cons_append, List.isEmpty_nil, List.isEmpty_cons, Nat.reduceLeDiff, Int.reduceBEq, Int.reduceNeg, Nat.le_refl, hr, dStr, e0]
end Go.Proofs.YtdoppkjoemlhjaaDoor.Sh

/-
  The document's reader: digits, guess, Read.
-/
namespace Go.Proofs.YtdoppkjoemlhjaaDoor.Sh
open Go Go.Mx
set_option maxRecDepth 10000
section
variable {C : CallF} {n : Nat} {s : List UInt8} {a : Int} {i k : Nat} {σ : Store}
def E50 (s : List UInt8) (a : Int) (i k : Nat) : Env := { slots := [(0, ⟨false, .str s⟩), (4, ⟨false, .int .i64 a⟩), (5, ⟨false, .int .i64 i⟩), (6, ⟨false, .int .i64 k⟩)], locs := [], boxes := [], defers := [] }
def E50x (s : List UInt8) (a : Int) (i k : Nat) : Env := { slots := [(0, ⟨false, .str s⟩), (4, ⟨false, .int .i64 a⟩), (5, ⟨false, .int .i64 i⟩), (6, ⟨false, .int .i64 k⟩), (24, ⟨false, .bool false⟩)], locs := [], boxes := [], defers := [] }
theorem byte_small (c : UInt8) : IntKind.i64.wrap ((c.toNat : Nat) : Int) = ((c.toNat : Nat) : Int) := wrap64 (by omega) (by have := c.toNat_lt; omega)
theorem l50_step (hk : k < s.length) (h20 : k < 20) (hc : 48 ≤ s[k].toNat ∧ s[k].toNat ≤ 57) :
    exec C n a50_l0 (E50 s a i k) σ = some (.normal, E50 s (IntKind.i64.wrap (IntKind.i64.wrap (10 * a) - ((s[k].toNat : Int) - 48))) i (k + 1), σ) := by
  have h1 : ((k : Int) < (s.length : Int)) := by omega
  have h2 : ((k : Int) < 20) := by omega
  have hn := nth_get s k hk
  have hb := byte_small s[k]
  have hw : IntKind.i64.wrap (((s[k].toNat : Nat) : Int) - 48) = ((s[k].toNat : Nat) : Int) - 48 := wrap64 (by omega) (by omega)
  have h3 : ¬ (((s[k].toNat : Nat) : Int) - 48 < 0) := by omega
  have h4 : ¬ (((s[k].toNat : Nat) : Int) - 48 > 9) := by omega
  have hw2 := wrap64_succ (i := k) (by omega)
  simp only [a50_l0, E50, sy0, sy1, sy2, sy3, sy4, sy5, clearEnv, adel, mem, initEnv, initSlots, stepOp, wantedA, evalOp, callOf, panicOf, evalV, addr, opd, opds, aget, aset, adel1, lkill, readCells, nth, Env.put, Env.putV, Env.box, Env.bare, dropOwn, dropOwnS, binD, binBD, binBool, binInt, binStr, unD, AOpd.drop, Cell.of, AOp.kind, sameKind, assertD, eqlB, isUndef, takeC, unownAt, fits, layCells, putCells, putD, fillD, partsOf, optLo, optHi, allSize, Option.getD_some, Option.getD_none, runDefers, readRes, readRes1, readRess, Nat.reduceAdd, Nat.reduceSub, Nat.reduceMul, Nat.reduceBEq, Bool.false_and, Bool.true_and, Bool.and_true, Bool.and_false, Nat.zero_add, Nat.add_zero, beq_self_eq_true, Bool.true_beq, Bool.false_beq, Bool.not_true, Bool.not_false, decide_true, decide_false, bindO, List.map_cons, List.map_nil, List.length_cons, List.length_nil, List.append_nil, List.nil_append, List.cons_append, List.isEmpty_nil, List.isEmpty_cons, Nat.reduceLeDiff, Int.reduceBEq, Int.reduceNeg, Nat.le_refl, h1, h2, hn, hb, hw, h3, h4, hw2]
theorem l50_bad (hk : k < s.length) (h20 : k < 20) (hc : ¬ (48 ≤ s[k].toNat ∧ s[k].toNat ≤ 57)) :
    exec C n a50_l0 (E50 s a i k) σ = some (.ret, { slots := [(2, ⟨false, .int .i64 0⟩), (3, ⟨false, .bool false⟩)], locs := [], boxes := [], defers := [] }, σ) := by
  have h1 : ((k : Int) < (s.length : Int)) := by omega
  have h2 : ((k : Int) < 20) := by omega
  have hn := nth_get s k hk
  have hb := byte_small s[k]
  have hlt := s[k].toNat_lt
  have hw : IntKind.i64.wrap (((s[k].toNat : Nat) : Int) - 48) = ((s[k].toNat : Nat) : Int) - 48 := wrap64 (by omega) (by omega)
  by_cases h3 : (((s[k].toNat : Nat) : Int) - 48 < 0)
  · simp only [a50_l0, E50, sy0, sy1, sy2, sy3, sy4, sy5, clearEnv, adel, mem, initEnv, initSlots, stepOp, wantedA, evalOp, callOf, panicOf, evalV, addr, opd, opds, aget, aset, adel1, lkill, readCells, nth, Env.put, Env.putV, Env.box, Env.bare, dropOwn, dropOwnS, binD, binBD, binBool, binInt, binStr, unD, AOpd.drop, Cell.of, AOp.kind, sameKind, assertD, eqlB, isUndef, takeC, unownAt, fits, layCells, putCells, putD, fillD, partsOf, optLo, optHi, allSize, Option.getD_some, Option.getD_none, runDefers, readRes, readRes1, readRess, Nat.reduceAdd, Nat.reduceSub, Nat.reduceMul, Nat.reduceBEq, Bool.false_and, Bool.true_and, Bool.and_true, Bool.and_false, Nat.zero_add, Nat.add_zero, beq_self_eq_true, Bool.true_beq, Bool.false_beq, Bool.not_true, Bool.not_false, decide_true, decide_false, bindO, List.map_cons, List.map_nil, List.length_cons, List.length_nil, List.append_nil, List.nil_append, List.cons_append, List.isEmpty_nil, List.isEmpty_cons, Nat.reduceLeDiff, Int.reduceBEq, Int.reduceNeg, Nat.le_refl, h1, h2, hn, hb, hw, h3]
  · have h4 : (((s[k].toNat : Nat) : Int) - 48 > 9) := by omega
    simp only [a50_l0, E50, sy0, sy1, sy2, sy3, sy4, sy5, clearEnv, adel, mem, initEnv, initSlots, stepOp, wantedA, evalOp, callOf, panicOf, evalV, addr, opd, opds, aget, aset, adel1, lkill, readCells, nth, Env.put, Env.putV, Env.box, Env.bare, dropOwn, dropOwnS, binD, binBD, binBool, binInt, binStr, unD, AOpd.drop, Cell.of, AOp.kind, sameKind, assertD, eqlB, isUndef, takeC, unownAt, fits, layCells, putCells, putD, fillD, partsOf, optLo, optHi, allSize, Option.getD_some, Option.getD_none, runDefers, readRes, readRes1, readRess, Nat.reduceAdd, Nat.reduceSub, Nat.reduceMul, Nat.reduceBEq, Bool.false_and, Bool.true_and, Bool.and_true, Bool.and_false, Nat.zero_add, Nat.add_zero, beq_self_eq_true, Bool.true_beq, Bool.false_beq, Bool.not_true, Bool.not_false, decide_true, decide_false, bindO, List.map_cons, List.map_nil, List.length_cons, List.length_nil, List.append_nil, List.nil_append, List.cons_append, List.isEmpty_nil, List.isEmpty_cons, Nat.reduceLeDiff, Int.reduceBEq, Int.reduceNeg, Nat.le_refl, h1, h2, hn, hb, hw, h3, h4]
theorem l50_end (h : ¬ (k < s.length ∧ k < 20)) : exec C n a50_l0 (E50 s a i k) σ = some (.exit 0, E50x s a i k, σ) := by
  by_cases hk : k < s.length
  · have h1 : ((k : Int) < (s.length : Int)) := by omega
    have h2 : ¬ ((k : Int) < 20) := by omega
    simp only [a50_l0, E50, E50x, sy0, sy1, sy2, sy3, sy4, sy5, clearEnv, adel, mem, initEnv, initSlots, stepOp, wantedA, evalOp, callOf, panicOf, evalV, addr, opd, opds, aget, aset, adel1, lkill, readCells, nth, Env.put, Env.putV, Env.box, Env.bare, dropOwn, dropOwnS, binD, binBD, binBool, binInt, binStr, unD, AOpd.drop, Cell.of, AOp.kind, sameKind, assertD, eqlB, isUndef, takeC, unownAt, fits, layCells, putCells, putD, fillD, partsOf, optLo, optHi, allSize, Option.getD_some, Option.getD_none, runDefers, readRes, readRes1, readRess, Nat.reduceAdd, Nat.reduceSub, Nat.reduceMul, Nat.reduceBEq, Bool.false_and, Bool.true_and, Bool.and_true, Bool.and_false, Nat.zero_add, Nat.add_zero, beq_self_eq_true, Bool.true_beq, Bool.false_beq, Bool.not_true, Bool.not_false, decide_true, decide_false, bindO, List.map_cons, List.map_nil, List.length_cons, List.length_nil, List.append_nil, List.nil_append, List.cons_append, List.isEmpty_nil, List.isEmpty_cons, Nat.reduceLeDiff, Int.reduceBEq, Int.reduceNeg, Nat.le_refl, h1, h2]
  · have h1 : ¬ ((k : Int) < (s.length : Int)) := by omega
    simp only [a50_l0, E50, E50x, sy0, sy1, sy2, sy3, sy4, sy5, clearEnv, adel, mem, initEnv, initSlots, stepOp, wantedA, evalOp, callOf, panicOf, evalV, addr, opd, opds, aget, aset, adel1, lkill, readCells, nth, Env.put, Env.putV, Env.box, Env.bare, dropOwn, dropOwnS, binD, binBD, binBool, binInt, binStr, unD, AOpd.drop, Cell.of, AOp.kind, sameKind, assertD, eqlB, isUndef, takeC, unownAt, fits, layCells, putCells, putD, fillD, partsOf, optLo, optHi, allSize, Option.getD_some, Option.getD_none, runDefers, readRes, readRes1, readRess, Nat.reduceAdd, Nat.reduceSub, Nat.reduceMul, Nat.reduceBEq, Bool.false_and, Bool.true_and, Bool.and_true, Bool.and_false, Nat.zero_add, Nat.add_zero, beq_self_eq_true, Bool.true_beq, Bool.false_beq, Bool.not_true, Bool.not_false, decide_true, decide_false, bindO, List.map_cons, List.map_nil, List.length_cons, List.length_nil, List.append_nil, List.nil_append, List.cons_append, List.isEmpty_nil, List.isEmpty_cons, Nat.reduceLeDiff, Int.reduceBEq, Int.reduceNeg, Nat.le_refl, h1]
end
theorem minus_le (s : List UInt8) : minus s ≤ 1 := by
  unfold minus
  split
  · omega
  · split <;> omega
def Q50 (s : List UInt8) (i : Nat) (σ : Store) (R : Option Int) (r : AExit × Env × Store) : Prop := match R with
  | none => r = (.ret, { slots := [(2, ⟨false, .int .i64 0⟩), (3, ⟨false, .bool false⟩)], locs := [], boxes := [], defers := [] }, σ)
  | some a => ∃ k, r = (.exit 0, E50x s a i k, σ)
theorem digits_run : Evly fun n => ∀ (s : List UInt8) σ, T n 50 [.str s] σ = some (.ret ⟨false, .tup [.int .i64 (digR s).1, .bool (digR s).2]⟩, σ) := by
  have hnum : Evly fun n => ∀ x : Int, Small' x → ∀ σ, T n 45 [.int .i64 x] σ = some (.ret ⟨false, .str (itoaN x)⟩, σ) := number_all
  refine hnum.step 100 fun m hm hnum s σ => ?_
  obtain ⟨R, hR⟩ : ∃ R, dg ((s.drop (minus s)).take (20 - minus s)) 0 = R := ⟨_, rfl⟩
  have hloop := loopN_ex (body := exec (T m) m a50_l0)
    (fun j e σ' => σ' = σ ∧ ∃ a k, j = 20 - k ∧ k ≤ 20 ∧ e = E50 s a (minus s) k ∧ dg ((s.drop k).take (20 - k)) a = R)
    (Q50 s (minus s) σ R) (fun j e σ' ⟨hσ, a, k, hj, hk, he, hd⟩ => by
      subst he hσ
      by_cases hx : k < s.length ∧ k < 20
      · have e1 : 20 - k = (20 - (k + 1)) + 1 := by omega
        rw [drop_cons hx.1, e1, List.take_succ_cons, dg] at hd
        by_cases hc : 48 ≤ s[k].toNat ∧ s[k].toNat ≤ 57
        · rw [if_pos hc] at hd
          exact .inr ⟨_, _, _, by omega, l50_step hx.1 hx.2 hc, rfl, _, _, rfl, by omega, rfl, hd⟩
        · rw [if_neg hc] at hd
          refine .inl ⟨_, l50_bad hx.1 hx.2 hc, (fun _ _ h => by cases h), ?_⟩
          rw [← hd]
          exact rfl
      · refine .inl ⟨_, l50_end hx, (fun _ _ h => by cases h), ?_⟩
        have e0 : (s.drop k).take (20 - k) = [] := by
          by_cases h1 : k < s.length
          · have : 20 - k = 0 := by omega
            rw [this]
            rfl
          · rw [List.drop_eq_nil_of_le (by omega), List.take_nil]
        rw [e0, dg] at hd
        rw [← hd]
        exact ⟨k, rfl⟩) m (20 - minus s) (E50 s 0 (minus s) (minus s)) σ (by omega) ⟨rfl, 0, minus s, rfl, by have := minus_le s; omega, rfl, hR⟩
  obtain ⟨r, hr, hq⟩ := hloop
  have hsm := digR_small s
  unfold digR
  unfold digR at hsm
  rw [hR] at hsm ⊢
  rw [T_fun (af := a50) rfl rfl]
  cases s with
  | nil =>
    have hm0 : minus [] = 0 := rfl
    rw [hm0] at hr hq hR hsm ⊢
    have hR0 : R = some 0 := hR.symm
    subst hR0
    obtain ⟨k, rfl⟩ := hq
    have hneg : IntKind.i64.wrap (0 - 0) = 0 := by decide
    simp only [E50, E50x, zeroI] at hr
    have hl0 : ¬ ((0 : Int) > 0) := by omega
    simp only [a50, sy0, sy1, sy2, sy3, sy4, sy5, clearEnv, adel, mem, initEnv, initSlots, stepOp, wantedA, evalOp, callOf, panicOf, evalV, addr, opd, opds, aget, aset, adel1, lkill, readCells, nth, Env.put, Env.putV, Env.box, Env.bare, dropOwn, dropOwnS, binD, binBD, binBool, binInt, binStr, unD, AOpd.drop, Cell.of, AOp.kind, sameKind, assertD, eqlB, isUndef, takeC, unownAt, fits, layCells, putCells, putD, fillD, partsOf, optLo, optHi, allSize, Option.getD_some, Option.getD_none, runDefers, readRes, readRes1, readRess, Nat.reduceAdd, Nat.reduceSub, Nat.reduceMul, Nat.reduceBEq, Bool.false_and, Bool.true_and, Bool.and_true, Bool.and_false, Nat.zero_add, Nat.add_zero, beq_self_eq_true, Bool.true_beq, Bool.false_beq, Bool.not_true, Bool.not_false, decide_true, decide_false, bindO, List.map_cons, List.map_nil, List.length_cons, List.length_nil, List.append_nil, List.nil_append, List.cons_append, List.isEmpty_nil, List.isEmpty_cons, Nat.reduceLeDiff, Int.reduceBEq, Int.reduceNeg, Nat.le_refl, zeroI, hl0, hr, hneg, if_true, List.length_nil, Nat.lt_irrefl, decide_false, Bool.false_and]
  | cons c t =>
    have hlen : ((((c :: t).length : Nat) : Int) > 0) := by simp only [List.length_cons]; omega
    have h45 := eqb45 c
    have hnth : nth (c :: t) 0 = some c := rfl
    have hmin : minus (c :: t) = if c = 45 then 1 else 0 := rfl
    by_cases hc : c = 45
    · rw [decide_eq_true hc] at h45
      rw [hmin, if_pos hc] at hr hq hR hsm ⊢
      generalize c :: t = s at *
      have hz : (((1 : Nat) : Int)) = 1 := rfl
      cases R with
      | none =>
        obtain rfl : r = _ := hq
        simp only [E50, hz] at hr
        simp only [a50, sy0, sy1, sy2, sy3, sy4, sy5, clearEnv, adel, mem, initEnv, initSlots, stepOp, wantedA, evalOp, callOf, panicOf, evalV, addr, opd, opds, aget, aset, adel1, lkill, readCells, nth, Env.put, Env.putV, Env.box, Env.bare, dropOwn, dropOwnS, binD, binBD, binBool, binInt, binStr, unD, AOpd.drop, Cell.of, AOp.kind, sameKind, assertD, eqlB, isUndef, takeC, unownAt, fits, layCells, putCells, putD, fillD, partsOf, optLo, optHi, allSize, Option.getD_some, Option.getD_none, runDefers, readRes, readRes1, readRess, Nat.reduceAdd, Nat.reduceSub, Nat.reduceMul, Nat.reduceBEq, Bool.false_and, Bool.true_and, Bool.and_true, Bool.and_false, Nat.zero_add, Nat.add_zero, beq_self_eq_true, Bool.true_beq, Bool.false_beq, Bool.not_true, Bool.not_false, decide_true, decide_false, bindO, List.map_cons, List.map_nil, List.length_cons, List.length_nil, List.append_nil, List.nil_append, List.cons_append, List.isEmpty_nil, List.isEmpty_cons, Nat.reduceLeDiff, Int.reduceBEq, Int.reduceNeg, Nat.le_refl, hlen, hnth, h45, hr]
      | some x =>
        obtain ⟨k, rfl⟩ := hq
        simp only [Nat.one_ne_zero, if_false] at hsm ⊢
        have hnum := hnum x hsm σ
        simp only [E50, E50x, hz] at hr
        by_cases hl1 : 1 < s.length
        · have hl2 : (((s.length : Nat) : Int) > 1) := by omega
          simp only [a50, sy0, sy1, sy2, sy3, sy4, sy5, clearEnv, adel, mem, initEnv, initSlots, stepOp, wantedA, evalOp, callOf, panicOf, evalV, addr, opd, opds, aget, aset, adel1, lkill, readCells, nth, Env.put, Env.putV, Env.box, Env.bare, dropOwn, dropOwnS, binD, binBD, binBool, binInt, binStr, unD, AOpd.drop, Cell.of, AOp.kind, sameKind, assertD, eqlB, isUndef, takeC, unownAt, fits, layCells, putCells, putD, fillD, partsOf, optLo, optHi, allSize, Option.getD_some, Option.getD_none, runDefers, readRes, readRes1, readRess, Nat.reduceAdd, Nat.reduceSub, Nat.reduceMul, Nat.reduceBEq, Bool.false_and, Bool.true_and, Bool.and_true, Bool.and_false, Nat.zero_add, Nat.add_zero, beq_self_eq_true, Bool.true_beq, Bool.false_beq, Bool.not_true, Bool.not_false, decide_true, decide_false, bindO, List.map_cons, List.map_nil, List.length_cons, List.length_nil, List.append_nil, List.nil_append, List.cons_append, List.isEmpty_nil, List.isEmpty_cons, Nat.reduceLeDiff, Int.reduceBEq, Int.reduceNeg, Nat.le_refl, hlen, hnth, h45, hr, hl2, hl1, hnum]
        · have hl2 : ¬ (((s.length : Nat) : Int) > 1) := by omega
          simp only [a50, sy0, sy1, sy2, sy3, sy4, sy5, clearEnv, adel, mem, initEnv, initSlots, stepOp, wantedA, evalOp, callOf, panicOf, evalV, addr, opd, opds, aget, aset, adel1, lkill, readCells, nth, Env.put, Env.putV, Env.box, Env.bare, dropOwn, dropOwnS, binD, binBD, binBool, binInt, binStr, unD, AOpd.drop, Cell.of, AOp.kind, sameKind, assertD, eqlB, isUndef, takeC, unownAt, fits, layCells, putCells, putD, fillD, partsOf, optLo, optHi, allSize, Option.getD_some, Option.getD_none, runDefers, readRes, readRes1, readRess, Nat.reduceAdd, Nat.reduceSub, Nat.reduceMul, Nat.reduceBEq, Bool.false_and, Bool.true_and, Bool.and_true, Bool.and_false, Nat.zero_add, Nat.add_zero, beq_self_eq_true, Bool.true_beq, Bool.false_beq, Bool.not_true, Bool.not_false, decide_true, decide_false, bindO, List.map_cons, List.map_nil, List.length_cons, List.length_nil, List.append_nil, List.nil_append, List.cons_append, List.isEmpty_nil, List.isEmpty_cons, Nat.reduceLeDiff, Int.reduceBEq, Int.reduceNeg, Nat.le_refl, hlen, hnth, h45, hr, hl2, hl1]
    · rw [decide_eq_false hc] at h45
      rw [hmin, if_neg hc] at hr hq hR hsm ⊢
      generalize c :: t = s at *
      cases R with
      | none =>
        obtain rfl : r = _ := hq
        simp only [E50, zeroI] at hr
        simp only [a50, sy0, sy1, sy2, sy3, sy4, sy5, clearEnv, adel, mem, initEnv, initSlots, stepOp, wantedA, evalOp, callOf, panicOf, evalV, addr, opd, opds, aget, aset, adel1, lkill, readCells, nth, Env.put, Env.putV, Env.box, Env.bare, dropOwn, dropOwnS, binD, binBD, binBool, binInt, binStr, unD, AOpd.drop, Cell.of, AOp.kind, sameKind, assertD, eqlB, isUndef, takeC, unownAt, fits, layCells, putCells, putD, fillD, partsOf, optLo, optHi, allSize, Option.getD_some, Option.getD_none, runDefers, readRes, readRes1, readRess, Nat.reduceAdd, Nat.reduceSub, Nat.reduceMul, Nat.reduceBEq, Bool.false_and, Bool.true_and, Bool.and_true, Bool.and_false, Nat.zero_add, Nat.add_zero, beq_self_eq_true, Bool.true_beq, Bool.false_beq, Bool.not_true, Bool.not_false, decide_true, decide_false, bindO, List.map_cons, List.map_nil, List.length_cons, List.length_nil, List.append_nil, List.nil_append, List.cons_append, List.isEmpty_nil, List.isEmpty_cons, Nat.reduceLeDiff, Int.reduceBEq, Int.reduceNeg, Nat.le_refl, hlen, hnth, h45, hr]
      | some x =>
        obtain ⟨k, rfl⟩ := hq
        simp only [if_true] at hsm ⊢
        have hnum := hnum _ hsm σ
        simp only [E50, E50x, zeroI] at hr
        have hl1 : 0 < s.length := by omega
        simp only [a50, sy0, sy1, sy2, sy3, sy4, sy5, clearEnv, adel, mem, initEnv, initSlots, stepOp, wantedA, evalOp, callOf, panicOf, evalV, addr, opd, opds, aget, aset, adel1, lkill, readCells, nth, Env.put, Env.putV, Env.box, Env.bare, dropOwn, dropOwnS, binD, binBD, binBool, binInt, binStr, unD, AOpd.drop, Cell.of, AOp.kind, sameKind, assertD, eqlB, isUndef, takeC, unownAt, fits, layCells, putCells, putD, fillD, partsOf, optLo, optHi, allSize, Option.getD_some, Option.getD_none, runDefers, readRes, readRes1, readRess, Nat.reduceAdd, Nat.reduceSub, Nat.reduceMul, Nat.reduceBEq, Bool.false_and, Bool.true_and, Bool.and_true, Bool.and_false, Nat.zero_add, Nat.add_zero, beq_self_eq_true, Bool.true_beq, Bool.false_beq, Bool.not_true, Bool.not_false, decide_true, decide_false, bindO, List.map_cons, List.map_nil, List.length_cons, List.length_nil, List.append_nil, List.nil_append, List.cons_append, List.isEmpty_nil, List.isEmpty_cons, Nat.reduceLeDiff, Int.reduceBEq, Int.reduceNeg, Nat.le_refl, hlen, hnth, h45, hr, hl1, hnum]
end Go.Proofs.YtdoppkjoemlhjaaDoor.Sh

