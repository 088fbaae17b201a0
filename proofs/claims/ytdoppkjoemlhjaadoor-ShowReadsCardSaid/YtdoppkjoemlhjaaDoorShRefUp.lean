/-
  What the rows of this seat share: the laid table, a world that fits, the shell of a law's proof.
-/
import Derived.Test.YtdoppkjoemlhjaaDoorCards
import Derived.Test.YtdoppkjoemlhjaaDoorTie
import Derived.WalkKit
import Derived.ProofKit
import Derived.Test.YtdoppkjoemlhjaaDoorMxRow
import Derived.Test.YtdoppkjoemlhjaaDoorShLaws
import Derived.Test.YtdoppkjoemlhjaaDoorShRun
set_option linter.unusedSimpArgs false
set_option linter.unusedVariables false
namespace Go.Proofs.YtdoppkjoemlhjaaDoor.Sh
open Go Go.Mx Go.ChangeShapes Go.WideShapes Go.ChangeAt Go.RowKit
theorem own : ownKnob Tryd.prog.godebug = none := by kernel_rfl
theorem laidOut : laidOutB Tryd.prog = true := by kernel_rfl
theorem gTabType : (Tryd.prog.globals[0]?).map (·.type) = some 94 := by kernel_rfl
theorem cells94 : Tryd.prog.cellsOf 94 = 20 := by kernel_rfl
theorem cells83 : Tryd.prog.cellsOf 83 = 1 := by kernel_rfl
theorem cells3 : Tryd.prog.cellsOf 3 = 1 := by kernel_rfl
def laidList : List (String × DataW Unit) := [("math/bits.deBruijn32tab", Rows.laid_math_bits_deBruijn32tab), ("math/bits.deBruijn64tab", Rows.laid_math_bits_deBruijn64tab), ("internal/strconv.uint64pow10", Rows.laid_internal_strconv_uint64pow10), ("strconv.ErrRange", Rows.laid_strconv_ErrRange), ("strconv.ErrSyntax", Rows.laid_strconv_ErrSyntax)]
theorem table {W : World} (h : laidMetH Tryd.prog laidList W) : Lib.TabIs Tryd.prog W "internal/strconv.uint64pow10" .u64 Lib.pow10Tab := by
  have h0 : laidMet Tryd.prog laidList W := h
  unfold laidList at h0
  have h2 := h0.tail.tail
  exact Lib.tabIs_of_head gTab gTabType Tryd.underlying94 Tryd.underlying83 cells83 cells94 h2
theorem star : "*" ++ "errors.errorString" = "*errors.errorString" := by decide
theorem row124 (u : TypeId) (h : Tryd.prog.typeName? 3 u = some "*errors.errorString") : u = 124 :=
  typeName_ptr_named (nm := "errors.errorString") (by rw [star]; kernel_rfl) (by kernel_rfl) (by decide) u (by rw [star]; exact h)
theorem gRange : Tryd.prog.globalNamed "strconv.ErrRange" = some 2 := by kernel_rfl
theorem gSyn : Tryd.prog.globalNamed "strconv.ErrSyntax" = some 1 := by kernel_rfl
theorem gRangeT : (Tryd.prog.globals[2]?).map (·.type) = some 52 := by kernel_rfl
theorem gSynT : (Tryd.prog.globals[1]?).map (·.type) = some 52 := by kernel_rfl
theorem cells126 : Tryd.prog.cellsOf 126 = 1 := by kernel_rfl
theorem cells9 : Tryd.prog.cellsOf 9 = 1 := by kernel_rfl
theorem κ_K {W : World} (h : laidMetH Tryd.prog laidList W) : κ.K W := by
  have h0 : laidMet Tryd.prog laidList W := h
  unfold laidList at h0
  have h3 := h0.tail.tail.tail
  obtain ⟨a, _, hv, _⟩ := laid_sentinel (f := _) h3 gRange gRangeT Tryd.underlying52 row124 Tryd.underlying124 Tryd.underlying126 rfl rfl Tryd.underlying9 cells126 cells9
  obtain ⟨b, _, hv2, _⟩ := laid_sentinel (f := _) h3.tail gSyn gSynT Tryd.underlying52 row124 Tryd.underlying124 Tryd.underlying126 rfl rfl Tryd.underlying9 cells126 cells9
  exact ⟨table h, ⟨_, _, by simpa using World.var?_cell gSyn hv2 0⟩, ⟨_, _, by simpa using World.var?_cell gRange hv 0⟩⟩
theorem κ_n {W : World} (h : laidMetH Tryd.prog laidList W) : κ.n ≤ W.heap.size := by
  obtain ⟨_, _, ⟨t, p, hc⟩⟩ := κ_K h
  exact World.block_lt_of_cell? _ _ hc
theorem listD_of {d : D} {xs : List Int} (h : IntRow kI d xs) : ListD d xs := h
theorem readable {fn : Func} (h : (fn.params.toList.all fun t => Tryd.prog.readableRec t && decide (t < Tryd.prog.types.size)) = true) : ∀ t ∈ fn.params.toList, Tryd.prog.readableRec t = true ∧ t < Tryd.prog.types.size := fun t ht => by
  have := List.all_eq_true.1 h t ht
  simpa using this
abbrev textR : ByteArray := { data := #[118, 97, 108, 117, 101, 32, 111, 117, 116, 32, 111, 102, 32, 114, 97, 110, 103, 101] }
abbrev textS : ByteArray := { data := #[105, 110, 118, 97, 108, 105, 100, 32, 115, 121, 110, 116, 97, 120] }
def tab8 (zs : List Int) : Array Value := (zs.map fun z => Value.int .u8 z).toArray
def zs32 : List Int := [0, 1, 28, 2, 29, 14, 24, 3, 30, 22, 20, 15, 25, 17, 4, 8, 31, 27, 13, 23, 21, 19, 16, 7, 26, 12, 18, 6, 11, 5, 10, 9]
def zs64 : List Int := [0, 1, 56, 2, 57, 49, 28, 3, 61, 58, 42, 50, 38, 29, 17, 4, 62, 47, 59, 36, 45, 43, 51, 22, 53, 39, 33, 30, 24, 18, 12, 5, 63, 55, 48, 27, 60, 41, 37, 16, 46, 35, 44, 21, 52, 32, 23, 11, 54, 26, 40, 15, 34, 20, 31, 10, 25, 14, 19, 9, 13, 8, 7, 6]
def put (h : Array Obj) (g : Nat) (cs : Array Value) : Array Obj := h.modify g fun
  | .cells _ t frozen => .cells cs t frozen
  | o => o
noncomputable def low : Nat := (World.holding Tryd.prog default ⟨#[], #[], []⟩).heap.size
noncomputable def laidWorld (os : Os) : World :=
  let w0 := World.holding Tryd.prog os ⟨#[.cells #[.string textR] 126, .cells #[.string textS] 126], #[], []⟩
  let h1 := put w0.heap 0 (Lib.pow10Tab.map fun z => Value.int .u64 z).toArray
  let h2 := put h1 3 (tab8 zs32)
  let h3 := put h2 4 (tab8 zs64)
  let h4 := put h3 2 #[.iface 124 (.pointer (some ⟨low, 0, none⟩))]
  let h5 := put h4 1 #[.iface 124 (.pointer (some ⟨low + 1, 0, none⟩))]
  { w0 with heap := h5 }
set_option maxRecDepth 100000
theorem laid_met (os : Os) (args : Array Value) : laidMet Tryd.prog laidList ((laidWorld os).forCall (fun _ _ => 0) ⟨#[], args, []⟩).memory :=
  laidMet_of_run3 8 (by kernel_rfl) (by kernel_rfl) (by kernel_rfl)
end Go.Proofs.YtdoppkjoemlhjaaDoor.Sh

/-
  The document's upper names.
-/
namespace Go.Proofs.YtdoppkjoemlhjaaDoor.Sh
open Go Go.Mx
set_option maxRecDepth 10000
theorem within_run : Evly fun n => ∀ (c lo hi : Int) σ, T n 69 [.int .u8 c, .int .u8 lo, .int .u8 hi] σ = some (.ret ⟨false, .bool (decide (c ≥ lo) && decide (c ≤ hi))⟩, σ) := (Evly.all (p := fun _ => True) fun _ => trivial).step 0 fun m _ _ c lo hi σ => by
  rw [T_fun (af := a69) rfl rfl]
  cases h : decide (c ≥ lo) with
  | false => simp only [a69, sy0, sy1, sy2, sy3, sy4, sy5, clearEnv, adel, mem, initEnv, initSlots, stepOp, wantedA, evalOp, callOf, panicOf, evalV, addr, opd, opds, aget, aset, adel1, lkill, readCells, nth, Env.put, Env.putV, Env.box, Env.bare, dropOwn, dropOwnS, binD, binBD, binBool, binInt, binStr, unD, AOpd.drop, Cell.of, AOp.kind, sameKind, assertD, eqlB, isUndef, takeC, unownAt, fits, layCells, putCells, putD, fillD, partsOf, optLo, optHi, allSize, Option.getD_some, Option.getD_none, runDefers, readRes, readRes1, readRess, Nat.reduceAdd, Nat.reduceSub, Nat.reduceMul, Nat.reduceBEq, Bool.false_and, Bool.true_and, Bool.and_true, Bool.and_false, Nat.zero_add, Nat.add_zero, beq_self_eq_true, Bool.true_beq, Bool.false_beq, Bool.not_true, Bool.not_false, decide_true, decide_false, bindO, List.map_cons, List.map_nil, List.length_cons, List.length_nil, List.append_nil, List.nil_append, List.cons_append, List.isEmpty_nil, List.isEmpty_cons, Nat.reduceLeDiff, Int.reduceBEq, Int.reduceNeg, Nat.le_refl, h]
  | true => simp only [a69, sy0, sy1, sy2, sy3, sy4, sy5, clearEnv, adel, mem, initEnv, initSlots, stepOp, wantedA, evalOp, callOf, panicOf, evalV, addr, opd, opds, aget, aset, adel1, lkill, readCells, nth, Env.put, Env.putV, Env.box, Env.bare, dropOwn, dropOwnS, binD, binBD, binBool, binInt, binStr, unD, AOpd.drop, Cell.of, AOp.kind, sameKind, assertD, eqlB, isUndef, takeC, unownAt, fits, layCells, putCells, putD, fillD, partsOf, optLo, optHi, allSize, Option.getD_some, Option.getD_none, runDefers, readRes, readRes1, readRess, Nat.reduceAdd, Nat.reduceSub, Nat.reduceMul, Nat.reduceBEq, Bool.false_and, Bool.true_and, Bool.and_true, Bool.and_false, Nat.zero_add, Nat.add_zero, beq_self_eq_true, Bool.true_beq, Bool.false_beq, Bool.not_true, Bool.not_false, decide_true, decide_false, bindO, List.map_cons, List.map_nil, List.length_cons, List.length_nil, List.append_nil, List.nil_append, List.cons_append, List.isEmpty_nil, List.isEmpty_cons, Nat.reduceLeDiff, Int.reduceBEq, Int.reduceNeg, Nat.le_refl, h]
theorem rplain_run : Evly fun n => ∀ (b : Nat) σ, T n 68 [.int .u8 ((b : Nat) : Int)] σ = some (.ret ⟨false, .bool (plainB b)⟩, σ) := within_run.step 0 fun m _ hw b σ => by
  rw [T_fun (af := a68) rfl rfl]
  have w1 := hw b 97 122 σ
  have w2 := hw b 65 90 σ
  have w3 := hw b 48 57 σ
  have e1 : (decide ((b : Int) ≥ 97) && decide ((b : Int) ≤ 122)) = decide (97 ≤ b ∧ b ≤ 122) := by rw [← Bool.decide_and]; apply decide_eq_decide.2; omega
  have e2 : (decide ((b : Int) ≥ 65) && decide ((b : Int) ≤ 90)) = decide (65 ≤ b ∧ b ≤ 90) := by rw [← Bool.decide_and]; apply decide_eq_decide.2; omega
  have e3 : (decide ((b : Int) ≥ 48) && decide ((b : Int) ≤ 57)) = decide (48 ≤ b ∧ b ≤ 57) := by rw [← Bool.decide_and]; apply decide_eq_decide.2; omega
  rw [e1] at w1
  rw [e2] at w2
  rw [e3] at w3
  unfold plainB
  cases h1 : decide (97 ≤ b ∧ b ≤ 122) with
  | true =>
    rw [h1] at w1
    simp only [a68, sy0, sy1, sy2, sy3, sy4, sy5, clearEnv, adel, mem, initEnv, initSlots, stepOp, wantedA, evalOp, callOf, panicOf, evalV, addr, opd, opds, aget, aset, adel1, lkill, readCells, nth, Env.put, Env.putV, Env.box, Env.bare, dropOwn, dropOwnS, binD, binBD, binBool, binInt, binStr, unD, AOpd.drop, Cell.of, AOp.kind, sameKind, assertD, eqlB, isUndef, takeC, unownAt, fits, layCells, putCells, putD, fillD, partsOf, optLo, optHi, allSize, Option.getD_some, Option.getD_none, runDefers, readRes, readRes1, readRess, Nat.reduceAdd, Nat.reduceSub, Nat.reduceMul, Nat.reduceBEq, Bool.false_and, Bool.true_and, Bool.and_true, Bool.and_false, Nat.zero_add, Nat.add_zero, beq_self_eq_true, Bool.true_beq, Bool.false_beq, Bool.not_true, Bool.not_false, decide_true, decide_false, bindO, List.map_cons, List.map_nil, List.length_cons, List.length_nil, List.append_nil, List.nil_append, List.cons_append, List.isEmpty_nil, List.isEmpty_cons, Nat.reduceLeDiff, Int.reduceBEq, Int.reduceNeg, Nat.le_refl, w1, Bool.true_or]
  | false =>
    rw [h1] at w1
    cases h2 : decide (65 ≤ b ∧ b ≤ 90) with
    | true =>
      rw [h2] at w2
      simp only [a68, sy0, sy1, sy2, sy3, sy4, sy5, clearEnv, adel, mem, initEnv, initSlots, stepOp, wantedA, evalOp, callOf, panicOf, evalV, addr, opd, opds, aget, aset, adel1, lkill, readCells, nth, Env.put, Env.putV, Env.box, Env.bare, dropOwn, dropOwnS, binD, binBD, binBool, binInt, binStr, unD, AOpd.drop, Cell.of, AOp.kind, sameKind, assertD, eqlB, isUndef, takeC, unownAt, fits, layCells, putCells, putD, fillD, partsOf, optLo, optHi, allSize, Option.getD_some, Option.getD_none, runDefers, readRes, readRes1, readRess, Nat.reduceAdd, Nat.reduceSub, Nat.reduceMul, Nat.reduceBEq, Bool.false_and, Bool.true_and, Bool.and_true, Bool.and_false, Nat.zero_add, Nat.add_zero, beq_self_eq_true, Bool.true_beq, Bool.false_beq, Bool.not_true, Bool.not_false, decide_true, decide_false, bindO, List.map_cons, List.map_nil, List.length_cons, List.length_nil, List.append_nil, List.nil_append, List.cons_append, List.isEmpty_nil, List.isEmpty_cons, Nat.reduceLeDiff, Int.reduceBEq, Int.reduceNeg, Nat.le_refl, w1, w2, Bool.true_or, Bool.or_true]
    | false =>
      rw [h2] at w2
      simp only [a68, sy0, sy1, sy2, sy3, sy4, sy5, clearEnv, adel, mem, initEnv, initSlots, stepOp, wantedA, evalOp, callOf, panicOf, evalV, addr, opd, opds, aget, aset, adel1, lkill, readCells, nth, Env.put, Env.putV, Env.box, Env.bare, dropOwn, dropOwnS, binD, binBD, binBool, binInt, binStr, unD, AOpd.drop, Cell.of, AOp.kind, sameKind, assertD, eqlB, isUndef, takeC, unownAt, fits, layCells, putCells, putD, fillD, partsOf, optLo, optHi, allSize, Option.getD_some, Option.getD_none, runDefers, readRes, readRes1, readRess, Nat.reduceAdd, Nat.reduceSub, Nat.reduceMul, Nat.reduceBEq, Bool.false_and, Bool.true_and, Bool.and_true, Bool.and_false, Nat.zero_add, Nat.add_zero, beq_self_eq_true, Bool.true_beq, Bool.false_beq, Bool.not_true, Bool.not_false, decide_true, decide_false, bindO, List.map_cons, List.map_nil, List.length_cons, List.length_nil, List.append_nil, List.nil_append, List.cons_append, List.isEmpty_nil, List.isEmpty_cons, Nat.reduceLeDiff, Int.reduceBEq, Int.reduceNeg, Nat.le_refl, w1, w2, w3, Bool.false_or]
def okAt (s : List UInt8) (i : Nat) : Bool := match s[i]? with
  | some b => okB b.toNat
  | none => true
theorem okAt_get {s : List UInt8} {i : Nat} (h : i < s.length) : okAt s i = okB s[i].toNat := by simp [okAt, h]
theorem byteB_get {s : List UInt8} {i : Nat} (h : i < s.length) : byteB s i = (okB s[i].toNat && (i != 0 || firstB s[i].toNat)) := by simp [byteB, h]
section
variable {C : CallF} {n : Nat} {s : List UInt8} {i : Nat} {σ : Store}
def E59 (s : List UInt8) (i : Nat) : Env := { slots := [(0, ⟨false, .str s⟩), (1, ⟨false, .int .u8 65⟩), (2, ⟨false, .int .u8 90⟩), (7, ⟨false, .int .i64 i⟩)], locs := [], boxes := [], defers := [] }
theorem l59_step (h : i < s.length) (hl : s.length < 1048576) (hb : okB s[i].toNat = true) (hc : C 68 [.int .u8 ((s[i].toNat : Nat) : Int)] σ = some (.ret ⟨false, .bool (plainB s[i].toNat)⟩, σ)) : exec C n a59_l0 (E59 s i) σ = some (.normal, E59 s (i + 1), σ) := by
  have hi : ((i : Int) < (s.length : Int)) := by omega
  have hn := nth_get s i h
  generalize hbb : s[i] = b at *
  cases hp : plainB b.toNat with
  | true =>
    rw [hp] at hc
    simp only [a59_l0, E59, sy0, sy1, sy2, sy3, sy4, sy5, clearEnv, adel, mem, initEnv, initSlots, stepOp, wantedA, evalOp, callOf, panicOf, evalV, addr, opd, opds, aget, aset, adel1, lkill, readCells, nth, Env.put, Env.putV, Env.box, Env.bare, dropOwn, dropOwnS, binD, binBD, binBool, binInt, binStr, unD, AOpd.drop, Cell.of, AOp.kind, sameKind, assertD, eqlB, isUndef, takeC, unownAt, fits, layCells, putCells, putD, fillD, partsOf, optLo, optHi, allSize, Option.getD_some, Option.getD_none, runDefers, readRes, readRes1, readRess, Nat.reduceAdd, Nat.reduceSub, Nat.reduceMul, Nat.reduceBEq, Bool.false_and, Bool.true_and, Bool.and_true, Bool.and_false, Nat.zero_add, Nat.add_zero, beq_self_eq_true, Bool.true_beq, Bool.false_beq, Bool.not_true, Bool.not_false, decide_true, decide_false, bindO, List.map_cons, List.map_nil, List.length_cons, List.length_nil, List.append_nil, List.nil_append, List.cons_append, List.isEmpty_nil, List.isEmpty_cons, Nat.reduceLeDiff, Int.reduceBEq, Int.reduceNeg, Nat.le_refl, hi, hn, hc, wrap64_succ (i := i) (by omega)]
  | false =>
    rw [hp] at hc
    unfold okB at hb
    rw [hp] at hb
    simp only [Bool.false_or] at hb
    cases h39 : b.toNat == 39 with
    | true =>
      have e39 : ((b.toNat : Int) != 39) = false := by simp at h39 ⊢; omega
      simp only [a59_l0, E59, sy0, sy1, sy2, sy3, sy4, sy5, clearEnv, adel, mem, initEnv, initSlots, stepOp, wantedA, evalOp, callOf, panicOf, evalV, addr, opd, opds, aget, aset, adel1, lkill, readCells, nth, Env.put, Env.putV, Env.box, Env.bare, dropOwn, dropOwnS, binD, binBD, binBool, binInt, binStr, unD, AOpd.drop, Cell.of, AOp.kind, sameKind, assertD, eqlB, isUndef, takeC, unownAt, fits, layCells, putCells, putD, fillD, partsOf, optLo, optHi, allSize, Option.getD_some, Option.getD_none, runDefers, readRes, readRes1, readRess, Nat.reduceAdd, Nat.reduceSub, Nat.reduceMul, Nat.reduceBEq, Bool.false_and, Bool.true_and, Bool.and_true, Bool.and_false, Nat.zero_add, Nat.add_zero, beq_self_eq_true, Bool.true_beq, Bool.false_beq, Bool.not_true, Bool.not_false, decide_true, decide_false, bindO, List.map_cons, List.map_nil, List.length_cons, List.length_nil, List.append_nil, List.nil_append, List.cons_append, List.isEmpty_nil, List.isEmpty_cons, Nat.reduceLeDiff, Int.reduceBEq, Int.reduceNeg, Nat.le_refl, hi, hn, hc, e39, wrap64_succ (i := i) (by omega)]
    | false =>
      rw [h39] at hb
      have e39 : ((b.toNat : Int) != 39) = true := by simp at h39 ⊢; omega
      have e95 : ((b.toNat : Int) != 95) = false := by simp at hb ⊢; omega
      simp only [a59_l0, E59, sy0, sy1, sy2, sy3, sy4, sy5, clearEnv, adel, mem, initEnv, initSlots, stepOp, wantedA, evalOp, callOf, panicOf, evalV, addr, opd, opds, aget, aset, adel1, lkill, readCells, nth, Env.put, Env.putV, Env.box, Env.bare, dropOwn, dropOwnS, binD, binBD, binBool, binInt, binStr, unD, AOpd.drop, Cell.of, AOp.kind, sameKind, assertD, eqlB, isUndef, takeC, unownAt, fits, layCells, putCells, putD, fillD, partsOf, optLo, optHi, allSize, Option.getD_some, Option.getD_none, runDefers, readRes, readRes1, readRess, Nat.reduceAdd, Nat.reduceSub, Nat.reduceMul, Nat.reduceBEq, Bool.false_and, Bool.true_and, Bool.and_true, Bool.and_false, Nat.zero_add, Nat.add_zero, beq_self_eq_true, Bool.true_beq, Bool.false_beq, Bool.not_true, Bool.not_false, decide_true, decide_false, bindO, List.map_cons, List.map_nil, List.length_cons, List.length_nil, List.append_nil, List.nil_append, List.cons_append, List.isEmpty_nil, List.isEmpty_cons, Nat.reduceLeDiff, Int.reduceBEq, Int.reduceNeg, Nat.le_refl, hi, hn, hc, e39, e95, wrap64_succ (i := i) (by omega)]
theorem l59_stop (h : i < s.length) (hl : s.length < 1048576) (hb : okB s[i].toNat = false) (hc : C 68 [.int .u8 ((s[i].toNat : Nat) : Int)] σ = some (.ret ⟨false, .bool (plainB s[i].toNat)⟩, σ)) : exec C n a59_l0 (E59 s i) σ = some (.ret, { slots := [(6, ⟨false, .bool false⟩)], locs := [], boxes := [], defers := [] }, σ) := by
  have hi : ((i : Int) < (s.length : Int)) := by omega
  have hn := nth_get s i h
  generalize hbb : s[i] = b at *
  unfold okB at hb
  simp only [Bool.or_eq_false_iff] at hb
  obtain ⟨⟨hp, h39⟩, h95⟩ := hb
  rw [hp] at hc
  have e39 : ((b.toNat : Int) != 39) = true := by simp at h39 ⊢; omega
  have e95 : ((b.toNat : Int) != 95) = true := by simp at h95 ⊢; omega
  simp only [a59_l0, E59, sy0, sy1, sy2, sy3, sy4, sy5, clearEnv, adel, mem, initEnv, initSlots, stepOp, wantedA, evalOp, callOf, panicOf, evalV, addr, opd, opds, aget, aset, adel1, lkill, readCells, nth, Env.put, Env.putV, Env.box, Env.bare, dropOwn, dropOwnS, binD, binBD, binBool, binInt, binStr, unD, AOpd.drop, Cell.of, AOp.kind, sameKind, assertD, eqlB, isUndef, takeC, unownAt, fits, layCells, putCells, putD, fillD, partsOf, optLo, optHi, allSize, Option.getD_some, Option.getD_none, runDefers, readRes, readRes1, readRess, Nat.reduceAdd, Nat.reduceSub, Nat.reduceMul, Nat.reduceBEq, Bool.false_and, Bool.true_and, Bool.and_true, Bool.and_false, Nat.zero_add, Nat.add_zero, beq_self_eq_true, Bool.true_beq, Bool.false_beq, Bool.not_true, Bool.not_false, decide_true, decide_false, bindO, List.map_cons, List.map_nil, List.length_cons, List.length_nil, List.append_nil, List.nil_append, List.cons_append, List.isEmpty_nil, List.isEmpty_cons, Nat.reduceLeDiff, Int.reduceBEq, Int.reduceNeg, Nat.le_refl, hi, hn, hc, e39, e95]
theorem l59_end : exec C n a59_l0 (E59 s s.length) σ = some (.exit 0, { slots := [(0, ⟨false, .str s⟩), (1, ⟨false, .int .u8 65⟩), (2, ⟨false, .int .u8 90⟩), (7, ⟨false, .int .i64 s.length⟩), (20, ⟨false, .bool false⟩)], locs := [], boxes := [], defers := [] }, σ) := by
  have hi : ¬ ((s.length : Int) < (s.length : Int)) := by omega
  simp only [a59_l0, E59, sy0, sy1, sy2, sy3, sy4, sy5, clearEnv, adel, mem, initEnv, initSlots, stepOp, wantedA, evalOp, callOf, panicOf, evalV, addr, opd, opds, aget, aset, adel1, lkill, readCells, nth, Env.put, Env.putV, Env.box, Env.bare, dropOwn, dropOwnS, binD, binBD, binBool, binInt, binStr, unD, AOpd.drop, Cell.of, AOp.kind, sameKind, assertD, eqlB, isUndef, takeC, unownAt, fits, layCells, putCells, putD, fillD, partsOf, optLo, optHi, allSize, Option.getD_some, Option.getD_none, runDefers, readRes, readRes1, readRess, Nat.reduceAdd, Nat.reduceSub, Nat.reduceMul, Nat.reduceBEq, Bool.false_and, Bool.true_and, Bool.and_true, Bool.and_false, Nat.zero_add, Nat.add_zero, beq_self_eq_true, Bool.true_beq, Bool.false_beq, Bool.not_true, Bool.not_false, decide_true, decide_false, bindO, List.map_cons, List.map_nil, List.length_cons, List.length_nil, List.append_nil, List.nil_append, List.cons_append, List.isEmpty_nil, List.isEmpty_cons, Nat.reduceLeDiff, Int.reduceBEq, Int.reduceNeg, Nat.le_refl, hi]
end
theorem upperB_eq (b : UInt8) (r : List UInt8) (hl : (b :: r).length ≤ 32) (h : ∀ i, 0 ≤ i → i < (b :: r).length → okAt (b :: r) i = true) : upperB (b :: r) = firstB b.toNat := by
  unfold upperB
  rw [decide_eq_true hl]
  cases hf : firstB b.toNat with
  | true =>
    have : (List.range (b :: r).length).all (byteB (b :: r)) = true := by
      rw [List.all_eq_true]
      intro i hi
      have hi := List.mem_range.1 hi
      have h2 := h i (Nat.zero_le _) hi
      rw [okAt_get hi] at h2
      rw [byteB_get hi, h2]
      cases i with
      | zero => simp [hf]
      | succ i => simp
    rw [this]
    rfl
  | false =>
    have : (List.range (b :: r).length).all (byteB (b :: r)) = false := upper_not (i := 0) (by simp) (by rw [byteB_get (by simp)]; simp [hf])
    rw [this]
    simp
theorem upperB_bad {s : List UInt8} {i : Nat} (hi : i < s.length) (h : okAt s i = false) : upperB s = false := by
  unfold upperB
  rw [okAt_get hi] at h
  rw [upper_not hi (by rw [byteB_get hi, h]; rfl)]
  simp
theorem rname_run (s : List UInt8) (hs : s.length < 1048576) : Evly fun n => ∀ σ, T n 59 [.str s, .int .u8 65, .int .u8 90] σ = some (.ret ⟨false, .bool (upperB s)⟩, σ) := by
  refine (rplain_run.and within_run).step (s.length + 1) fun m hm ⟨hplain, hw⟩ σ => ?_
  rw [T_fun (af := a59) rfl rfl]
  cases s with
  | nil =>
    simp only [a59, sy0, sy1, sy2, sy3, sy4, sy5, clearEnv, adel, mem, initEnv, initSlots, stepOp, wantedA, evalOp, callOf, panicOf, evalV, addr, opd, opds, aget, aset, adel1, lkill, readCells, nth, Env.put, Env.putV, Env.box, Env.bare, dropOwn, dropOwnS, binD, binBD, binBool, binInt, binStr, unD, AOpd.drop, Cell.of, AOp.kind, sameKind, assertD, eqlB, isUndef, takeC, unownAt, fits, layCells, putCells, putD, fillD, partsOf, optLo, optHi, allSize, Option.getD_some, Option.getD_none, runDefers, readRes, readRes1, readRess, Nat.reduceAdd, Nat.reduceSub, Nat.reduceMul, Nat.reduceBEq, Bool.false_and, Bool.true_and, Bool.and_true, Bool.and_false, Nat.zero_add, Nat.add_zero, beq_self_eq_true, Bool.true_beq, Bool.false_beq, Bool.not_true, Bool.not_false, decide_true, decide_false, bindO, List.map_cons, List.map_nil, List.length_cons, List.length_nil, List.append_nil, List.nil_append, List.cons_append, List.isEmpty_nil, List.isEmpty_cons, Nat.reduceLeDiff, Int.reduceBEq, Int.reduceNeg, Nat.le_refl, zeroI, upperB]
  | cons b r =>
    have h0 : ((((b :: r).length : Nat) : Int) == 0) = false := by simp; omega
    by_cases hl : (b :: r).length ≤ 32
    · have f : ¬ ((((b :: r).length : Nat) : Int) > 32) := by omega
      have hloop := loopN_until (body := exec (T m) m a59_l0) (E59 (b :: r)) (fun _ => σ) (b :: r).length (okAt (b :: r)) (stop := fun i => (.ret, { slots := [(6, ⟨false, .bool false⟩)], locs := [], boxes := [], defers := [] }, σ)) (fun _ _ h => by cases h) (fun _ _ _ h => by cases h)
        (fun i hi hp => l59_step hi hs (by rw [← okAt_get hi]; exact hp) (hplain _ _))
        (fun i hi hp => l59_stop hi hs (by rw [← okAt_get hi]; exact hp) (hplain _ _))
        l59_end m 0 (by omega) (by omega)
      rcases hloop with ⟨i, _, hi, hp, _, hrest⟩ | ⟨hp, hrest⟩
      · rw [upperB_bad hi hp]
        simp only [E59, zeroI] at hrest
        generalize (b :: r) = s at *
        simp only [a59, sy0, sy1, sy2, sy3, sy4, sy5, clearEnv, adel, mem, initEnv, initSlots, stepOp, wantedA, evalOp, callOf, panicOf, evalV, addr, opd, opds, aget, aset, adel1, lkill, readCells, nth, Env.put, Env.putV, Env.box, Env.bare, dropOwn, dropOwnS, binD, binBD, binBool, binInt, binStr, unD, AOpd.drop, Cell.of, AOp.kind, sameKind, assertD, eqlB, isUndef, takeC, unownAt, fits, layCells, putCells, putD, fillD, partsOf, optLo, optHi, allSize, Option.getD_some, Option.getD_none, runDefers, readRes, readRes1, readRess, Nat.reduceAdd, Nat.reduceSub, Nat.reduceMul, Nat.reduceBEq, Bool.false_and, Bool.true_and, Bool.and_true, Bool.and_false, Nat.zero_add, Nat.add_zero, beq_self_eq_true, Bool.true_beq, Bool.false_beq, Bool.not_true, Bool.not_false, decide_true, decide_false, bindO, List.map_cons, List.map_nil, List.length_cons, List.length_nil, List.append_nil, List.nil_append, List.cons_append, List.isEmpty_nil, List.isEmpty_cons, Nat.reduceLeDiff, Int.reduceBEq, Int.reduceNeg, Nat.le_refl, h0, f, hrest]
      · rw [upperB_eq b r hl hp]
        have hw := hw b.toNat 65 90 σ
        have e2 : (decide ((b.toNat : Int) ≥ 65) && decide ((b.toNat : Int) ≤ 90)) = firstB b.toNat := by unfold firstB; rw [← Bool.decide_and]; apply decide_eq_decide.2; omega
        rw [e2] at hw
        have hn : nth (b :: r) 0 = some b := rfl
        simp only [E59, zeroI] at hrest
        generalize (b :: r) = s at *
        simp only [a59, sy0, sy1, sy2, sy3, sy4, sy5, clearEnv, adel, mem, initEnv, initSlots, stepOp, wantedA, evalOp, callOf, panicOf, evalV, addr, opd, opds, aget, aset, adel1, lkill, readCells, nth, Env.put, Env.putV, Env.box, Env.bare, dropOwn, dropOwnS, binD, binBD, binBool, binInt, binStr, unD, AOpd.drop, Cell.of, AOp.kind, sameKind, assertD, eqlB, isUndef, takeC, unownAt, fits, layCells, putCells, putD, fillD, partsOf, optLo, optHi, allSize, Option.getD_some, Option.getD_none, runDefers, readRes, readRes1, readRess, Nat.reduceAdd, Nat.reduceSub, Nat.reduceMul, Nat.reduceBEq, Bool.false_and, Bool.true_and, Bool.and_true, Bool.and_false, Nat.zero_add, Nat.add_zero, beq_self_eq_true, Bool.true_beq, Bool.false_beq, Bool.not_true, Bool.not_false, decide_true, decide_false, bindO, List.map_cons, List.map_nil, List.length_cons, List.length_nil, List.append_nil, List.nil_append, List.cons_append, List.isEmpty_nil, List.isEmpty_cons, Nat.reduceLeDiff, Int.reduceBEq, Int.reduceNeg, Nat.le_refl, h0, f, hrest, hn, hw]
    · have f : ((((b :: r).length : Nat) : Int) > 32) := by omega
      have hv : upperB (b :: r) = false := by unfold upperB; rw [decide_eq_false hl]; simp
      rw [hv]
      generalize (b :: r) = s at *
      simp only [a59, sy0, sy1, sy2, sy3, sy4, sy5, clearEnv, adel, mem, initEnv, initSlots, stepOp, wantedA, evalOp, callOf, panicOf, evalV, addr, opd, opds, aget, aset, adel1, lkill, readCells, nth, Env.put, Env.putV, Env.box, Env.bare, dropOwn, dropOwnS, binD, binBD, binBool, binInt, binStr, unD, AOpd.drop, Cell.of, AOp.kind, sameKind, assertD, eqlB, isUndef, takeC, unownAt, fits, layCells, putCells, putD, fillD, partsOf, optLo, optHi, allSize, Option.getD_some, Option.getD_none, runDefers, readRes, readRes1, readRess, Nat.reduceAdd, Nat.reduceSub, Nat.reduceMul, Nat.reduceBEq, Bool.false_and, Bool.true_and, Bool.and_true, Bool.and_false, Nat.zero_add, Nat.add_zero, beq_self_eq_true, Bool.true_beq, Bool.false_beq, Bool.not_true, Bool.not_false, decide_true, decide_false, bindO, List.map_cons, List.map_nil, List.length_cons, List.length_nil, List.append_nil, List.nil_append, List.cons_append, List.isEmpty_nil, List.isEmpty_cons, Nat.reduceLeDiff, Int.reduceBEq, Int.reduceNeg, Nat.le_refl, h0, f]
theorem rupper_run (s : List UInt8) (hs : s.length < 1048576) : Evly fun n => ∀ σ, T n 51 [.str s] σ = some (.ret ⟨false, .bool (upperB s)⟩, σ) := (rname_run s hs).step 0 fun m _ h σ => by
  have h := h σ
  rw [T_fun (af := a51) rfl rfl]
  simp only [a51, sy0, sy1, sy2, sy3, sy4, sy5, clearEnv, adel, mem, initEnv, initSlots, stepOp, wantedA, evalOp, callOf, panicOf, evalV, addr, opd, opds, aget, aset, adel1, lkill, readCells, nth, Env.put, Env.putV, Env.box, Env.bare, dropOwn, dropOwnS, binD, binBD, binBool, binInt, binStr, unD, AOpd.drop, Cell.of, AOp.kind, sameKind, assertD, eqlB, isUndef, takeC, unownAt, fits, layCells, putCells, putD, fillD, partsOf, optLo, optHi, allSize, Option.getD_some, Option.getD_none, runDefers, readRes, readRes1, readRess, Nat.reduceAdd, Nat.reduceSub, Nat.reduceMul, Nat.reduceBEq, Bool.false_and, Bool.true_and, Bool.and_true, Bool.and_false, Nat.zero_add, Nat.add_zero, beq_self_eq_true, Bool.true_beq, Bool.false_beq, Bool.not_true, Bool.not_false, decide_true, decide_false, bindO, List.map_cons, List.map_nil, List.length_cons, List.length_nil, List.append_nil, List.nil_append, List.cons_append, List.isEmpty_nil, List.isEmpty_cons, Nat.reduceLeDiff, Int.reduceBEq, Int.reduceNeg, Nat.le_refl, h]
end Go.Proofs.YtdoppkjoemlhjaaDoor.Sh

