/-
  Whether one tells less: the document's function, the program's.
-/
import Derived.Test.YtdoppkjoemlhjaaDoorShCut
import Derived.Test.YtdoppkjoemlhjaaDoorShMade
set_option linter.unusedSimpArgs false
set_option linter.unusedVariables false
namespace Go.Proofs.YtdoppkjoemlhjaaDoor.Sh
open Go Go.Mx
set_option maxRecDepth 10000
section
variable {C : CallF} {n : Nat} {a b : V} {i : Nat} {σ : Store}
def E21 (a b : V) (i : Nat) : Env := { slots := [(5, ⟨false, .int .i64 i⟩)], locs := [(2, (2, 0)), (3, (3, 0))], boxes := [(2, bx a), (3, bx b)], defers := [] }
theorem l21_step (ha : i < a.kids.length) (hb : i < b.kids.length) (hl : a.kids.length < 1048576) (hc : C 21 [dV a.kids[i], dV b.kids[i]] σ = some (.ret ⟨false, .bool true⟩, σ)) : exec C n a21_l0 (E21 a b i) σ = some (.normal, E21 a b (i + 1), σ) := by
  have hi : ((i : Int) < (a.kids.length : Int)) := by omega
  simp only [a21_l0, E21, bx, sy0, sy1, sy2, sy3, sy4, sy5, clearEnv, adel, mem, initEnv, initSlots, stepOp, wantedA, evalOp, callOf, panicOf, evalV, addr, opd, opds, aget, aset, adel1, lkill, readCells, nth, Env.put, Env.putV, Env.box, Env.bare, dropOwn, dropOwnS, binD, binBD, binBool, binInt, binStr, unD, AOpd.drop, Cell.of, AOp.kind, sameKind, assertD, eqlB, isUndef, takeC, unownAt, fits, layCells, putCells, putD, fillD, partsOf, optLo, optHi, allSize, Option.getD_some, Option.getD_none, runDefers, readRes, readRes1, readRess, Nat.reduceAdd, Nat.reduceSub, Nat.reduceMul, Nat.reduceBEq, Bool.false_and, Bool.true_and, Bool.and_true, Bool.and_false, Nat.zero_add, Nat.add_zero, beq_self_eq_true, Bool.true_beq, Bool.false_beq, Bool.not_true, Bool.not_false, decide_true, decide_false, bindO, List.map_cons, List.map_nil, List.length_cons, List.length_nil, List.append_nil, List.nil_append, List.cons_append, List.isEmpty_nil, List.isEmpty_cons, Nat.reduceLeDiff, Int.reduceBEq, Int.reduceNeg, Nat.le_refl, List.length_map, kid_nth _ _ ha, kid_nth _ _ hb, kid_row _ _ ha, kid_row _ _ hb, agg?_dV, cells_dV, hi, wrap64_succ (i := i) (by omega), hc]
theorem l21_stop (ha : i < a.kids.length) (hb : i < b.kids.length) (hl : a.kids.length < 1048576) (hc : C 21 [dV a.kids[i], dV b.kids[i]] σ = some (.ret ⟨false, .bool false⟩, σ)) : exec C n a21_l0 (E21 a b i) σ = some (.ret, { slots := [(4, ⟨false, .bool false⟩)], locs := [], boxes := [], defers := [] }, σ) := by
  have hi : ((i : Int) < (a.kids.length : Int)) := by omega
  simp only [a21_l0, E21, bx, sy0, sy1, sy2, sy3, sy4, sy5, clearEnv, adel, mem, initEnv, initSlots, stepOp, wantedA, evalOp, callOf, panicOf, evalV, addr, opd, opds, aget, aset, adel1, lkill, readCells, nth, Env.put, Env.putV, Env.box, Env.bare, dropOwn, dropOwnS, binD, binBD, binBool, binInt, binStr, unD, AOpd.drop, Cell.of, AOp.kind, sameKind, assertD, eqlB, isUndef, takeC, unownAt, fits, layCells, putCells, putD, fillD, partsOf, optLo, optHi, allSize, Option.getD_some, Option.getD_none, runDefers, readRes, readRes1, readRess, Nat.reduceAdd, Nat.reduceSub, Nat.reduceMul, Nat.reduceBEq, Bool.false_and, Bool.true_and, Bool.and_true, Bool.and_false, Nat.zero_add, Nat.add_zero, beq_self_eq_true, Bool.true_beq, Bool.false_beq, Bool.not_true, Bool.not_false, decide_true, decide_false, bindO, List.map_cons, List.map_nil, List.length_cons, List.length_nil, List.append_nil, List.nil_append, List.cons_append, List.isEmpty_nil, List.isEmpty_cons, Nat.reduceLeDiff, Int.reduceBEq, Int.reduceNeg, Nat.le_refl, List.length_map, kid_nth _ _ ha, kid_nth _ _ hb, kid_row _ _ ha, kid_row _ _ hb, agg?_dV, cells_dV, hi, wrap64_succ (i := i) (by omega), hc]
theorem l21_end : exec C n a21_l0 (E21 a b a.kids.length) σ = some (.exit 0, { E21 a b a.kids.length with slots := [(5, ⟨false, .int .i64 a.kids.length⟩), (42, ⟨false, .bool false⟩)] }, σ) := by
  have hi : ¬ ((a.kids.length : Int) < (a.kids.length : Int)) := by omega
  simp only [a21_l0, E21, bx, sy0, sy1, sy2, sy3, sy4, sy5, clearEnv, adel, mem, initEnv, initSlots, stepOp, wantedA, evalOp, callOf, panicOf, evalV, addr, opd, opds, aget, aset, adel1, lkill, readCells, nth, Env.put, Env.putV, Env.box, Env.bare, dropOwn, dropOwnS, binD, binBD, binBool, binInt, binStr, unD, AOpd.drop, Cell.of, AOp.kind, sameKind, assertD, eqlB, isUndef, takeC, unownAt, fits, layCells, putCells, putD, fillD, partsOf, optLo, optHi, allSize, Option.getD_some, Option.getD_none, runDefers, readRes, readRes1, readRess, Nat.reduceAdd, Nat.reduceSub, Nat.reduceMul, Nat.reduceBEq, Bool.false_and, Bool.true_and, Bool.and_true, Bool.and_false, Nat.zero_add, Nat.add_zero, beq_self_eq_true, Bool.true_beq, Bool.false_beq, Bool.not_true, Bool.not_false, decide_true, decide_false, bindO, List.map_cons, List.map_nil, List.length_cons, List.length_nil, List.append_nil, List.nil_append, List.cons_append, List.isEmpty_nil, List.isEmpty_cons, Nat.reduceLeDiff, Int.reduceBEq, Int.reduceNeg, Nat.le_refl, List.length_map, hi]
end
theorem less_run (a : V) (hf : Fit a) : ∀ b, Evly fun n => ∀ σ, T n 21 [dV a, dV b] σ = some (.ret ⟨false, .bool (pairB more4 a b)⟩, σ) := by
  induction hf with
  | mk f n s ks hks hk ih =>
    intro b
    have hkids : Evly fun m => ∀ i, i < ks.length → ∀ (h : i < ks.length) (h' : i < b.kids.length) σ, T m 21 [dV ks[i], dV b.kids[i]] σ = some (.ret ⟨false, .bool (pairB more4 ks[i] b.kids[i])⟩, σ) :=
      Evly.below _ fun i hi => by
        by_cases h' : i < b.kids.length
        · exact (ih ks[i] (List.getElem_mem hi) b.kids[i]).mono fun n hn _ _ σ => hn σ
        · exact .all fun n _ k => absurd k h'
    refine hkids.step (ks.length + 1) fun m hm hrun σ => ?_
    rw [T_fun (af := a21) rfl rfl]
    have hva : ∀ f n s ks, dV (.mk f n s ks) = .agg [.int .i64 f, .int .i64 n, .str s, dlist kV (ks.map dV)] := fun f n s ks => dV_eq _
    rw [hva, dV_eq b]
    cases h0 : f == 4 with
    | true => simp only [pairB, more4, form_mk, h0, Bool.true_or, a21, sy0, sy1, sy2, sy3, sy4, sy5, clearEnv, adel, mem, initEnv, initSlots, stepOp, wantedA, evalOp, callOf, panicOf, evalV, addr, opd, opds, aget, aset, adel1, lkill, readCells, nth, Env.put, Env.putV, Env.box, Env.bare, dropOwn, dropOwnS, binD, binBD, binBool, binInt, binStr, unD, AOpd.drop, Cell.of, AOp.kind, sameKind, assertD, eqlB, isUndef, takeC, unownAt, fits, layCells, putCells, putD, fillD, partsOf, optLo, optHi, allSize, Option.getD_some, Option.getD_none, runDefers, readRes, readRes1, readRess, Nat.reduceAdd, Nat.reduceSub, Nat.reduceMul, Nat.reduceBEq, Bool.false_and, Bool.true_and, Bool.and_true, Bool.and_false, Nat.zero_add, Nat.add_zero, beq_self_eq_true, Bool.true_beq, Bool.false_beq, Bool.not_true, Bool.not_false, decide_true, decide_false, bindO, List.map_cons, List.map_nil, List.length_cons, List.length_nil, List.append_nil, List.nil_append, List.cons_append, List.isEmpty_nil, List.isEmpty_cons, Nat.reduceLeDiff, Int.reduceBEq, Int.reduceNeg, Nat.le_refl]
    | false =>
    cases h1 : f == b.form with
    | false =>
      have g1 : (f != b.form) = true := by simp [bne, h1]
      simp only [pairB, more4, form_mk, h0, h1, Bool.false_and, Bool.false_or, a21, sy0, sy1, sy2, sy3, sy4, sy5, clearEnv, adel, mem, initEnv, initSlots, stepOp, wantedA, evalOp, callOf, panicOf, evalV, addr, opd, opds, aget, aset, adel1, lkill, readCells, nth, Env.put, Env.putV, Env.box, Env.bare, dropOwn, dropOwnS, binD, binBD, binBool, binInt, binStr, unD, AOpd.drop, Cell.of, AOp.kind, sameKind, assertD, eqlB, isUndef, takeC, unownAt, fits, layCells, putCells, putD, fillD, partsOf, optLo, optHi, allSize, Option.getD_some, Option.getD_none, runDefers, readRes, readRes1, readRess, Nat.reduceAdd, Nat.reduceSub, Nat.reduceMul, Nat.reduceBEq, Bool.false_and, Bool.true_and, Bool.and_true, Bool.and_false, Nat.zero_add, Nat.add_zero, beq_self_eq_true, Bool.true_beq, Bool.false_beq, Bool.not_true, Bool.not_false, decide_true, decide_false, bindO, List.map_cons, List.map_nil, List.length_cons, List.length_nil, List.append_nil, List.nil_append, List.cons_append, List.isEmpty_nil, List.isEmpty_cons, Nat.reduceLeDiff, Int.reduceBEq, Int.reduceNeg, Nat.le_refl, g1]
    | true =>
      have g1 : (f != b.form) = false := by simp [bne, h1]
      cases h2 : n == b.n with
      | false =>
        have g2 : (n != b.n) = true := by simp [bne, h2]
        simp only [pairB, more4, form_mk, h0, h1, h2, Bool.and_false, Bool.false_or, a21, sy0, sy1, sy2, sy3, sy4, sy5, clearEnv, adel, mem, initEnv, initSlots, stepOp, wantedA, evalOp, callOf, panicOf, evalV, addr, opd, opds, aget, aset, adel1, lkill, readCells, nth, Env.put, Env.putV, Env.box, Env.bare, dropOwn, dropOwnS, binD, binBD, binBool, binInt, binStr, unD, AOpd.drop, Cell.of, AOp.kind, sameKind, assertD, eqlB, isUndef, takeC, unownAt, fits, layCells, putCells, putD, fillD, partsOf, optLo, optHi, allSize, Option.getD_some, Option.getD_none, runDefers, readRes, readRes1, readRess, Nat.reduceAdd, Nat.reduceSub, Nat.reduceMul, Nat.reduceBEq, Bool.false_and, Bool.true_and, Bool.and_true, Bool.and_false, Nat.zero_add, Nat.add_zero, beq_self_eq_true, Bool.true_beq, Bool.false_beq, Bool.not_true, Bool.not_false, decide_true, decide_false, bindO, List.map_cons, List.map_nil, List.length_cons, List.length_nil, List.append_nil, List.nil_append, List.cons_append, List.isEmpty_nil, List.isEmpty_cons, Nat.reduceLeDiff, Int.reduceBEq, Int.reduceNeg, Nat.le_refl, g1, g2]
      | true =>
        have g2 : (n != b.n) = false := by simp [bne, h2]
        cases h3 : s == b.name with
        | false => simp only [pairB, more4, form_mk, h0, h1, h2, h3, Bool.and_false, Bool.false_or, a21, sy0, sy1, sy2, sy3, sy4, sy5, clearEnv, adel, mem, initEnv, initSlots, stepOp, wantedA, evalOp, callOf, panicOf, evalV, addr, opd, opds, aget, aset, adel1, lkill, readCells, nth, Env.put, Env.putV, Env.box, Env.bare, dropOwn, dropOwnS, binD, binBD, binBool, binInt, binStr, unD, AOpd.drop, Cell.of, AOp.kind, sameKind, assertD, eqlB, isUndef, takeC, unownAt, fits, layCells, putCells, putD, fillD, partsOf, optLo, optHi, allSize, Option.getD_some, Option.getD_none, runDefers, readRes, readRes1, readRess, Nat.reduceAdd, Nat.reduceSub, Nat.reduceMul, Nat.reduceBEq, Bool.false_and, Bool.true_and, Bool.and_true, Bool.and_false, Nat.zero_add, Nat.add_zero, beq_self_eq_true, Bool.true_beq, Bool.false_beq, Bool.not_true, Bool.not_false, decide_true, decide_false, bindO, List.map_cons, List.map_nil, List.length_cons, List.length_nil, List.append_nil, List.nil_append, List.cons_append, List.isEmpty_nil, List.isEmpty_cons, Nat.reduceLeDiff, Int.reduceBEq, Int.reduceNeg, Nat.le_refl, g1, g2]
        | true =>
          cases h4 : ks.length == b.kids.length with
          | false =>
            have g4 : (((ks.length : Nat) : Int) != ((b.kids.length : Nat) : Int)) = true := by
              simp at h4
              simp [bne]
              omega
            simp only [pairB, more4, form_mk, h0, h1, h2, h3, h4, Bool.and_false, Bool.false_or, a21, sy0, sy1, sy2, sy3, sy4, sy5, clearEnv, adel, mem, initEnv, initSlots, stepOp, wantedA, evalOp, callOf, panicOf, evalV, addr, opd, opds, aget, aset, adel1, lkill, readCells, nth, Env.put, Env.putV, Env.box, Env.bare, dropOwn, dropOwnS, binD, binBD, binBool, binInt, binStr, unD, AOpd.drop, Cell.of, AOp.kind, sameKind, assertD, eqlB, isUndef, takeC, unownAt, fits, layCells, putCells, putD, fillD, partsOf, optLo, optHi, allSize, Option.getD_some, Option.getD_none, runDefers, readRes, readRes1, readRess, Nat.reduceAdd, Nat.reduceSub, Nat.reduceMul, Nat.reduceBEq, Bool.false_and, Bool.true_and, Bool.and_true, Bool.and_false, Nat.zero_add, Nat.add_zero, beq_self_eq_true, Bool.true_beq, Bool.false_beq, Bool.not_true, Bool.not_false, decide_true, decide_false, bindO, List.map_cons, List.map_nil, List.length_cons, List.length_nil, List.append_nil, List.nil_append, List.cons_append, List.isEmpty_nil, List.isEmpty_cons, Nat.reduceLeDiff, Int.reduceBEq, Int.reduceNeg, Nat.le_refl, g1, g2, List.length_map, g4]
          | true =>
            have h4' : ks.length = b.kids.length := by simpa using h4
            have g4 : (((ks.length : Nat) : Int) != ((b.kids.length : Nat) : Int)) = false := by
              rw [h4']
              simp
            have hloop := loopN_until (body := exec (T m) m a21_l0) (E21 (.mk f n s ks) b) (fun _ => σ) ks.length (atB more4 ks b.kids) (stop := fun _ => (.ret, { slots := [(4, ⟨false, .bool false⟩)], locs := [], boxes := [], defers := [] }, σ)) (fun _ _ h => by cases h) (fun _ _ _ h => by cases h)
              (fun i hi hp => l21_step (a := .mk f n s ks) hi (by omega) hks (by
                rw [atB_get more4 ks b.kids i hi (by omega)] at hp
                have := hrun i hi hi (by omega) σ
                rw [hp] at this
                exact this))
              (fun i hi hp => l21_stop (a := .mk f n s ks) hi (by omega) hks (by
                rw [atB_get more4 ks b.kids i hi (by omega)] at hp
                have := hrun i hi hi (by omega) σ
                rw [hp] at this
                exact this))
              l21_end m 0 (by omega) (by omega)
            simp only [E21, bx, form_mk, n_mk, name_mk, kids_mk, zeroI] at hloop
            rcases hloop with ⟨i, _, hi, hp, _, hrest⟩ | ⟨hp, hrest⟩
            · have hv := pairBs_false hi (by omega) h4' hp
              simp only [pairB, more4, form_mk, h0, h1, h2, h3, h4, hv, Bool.and_false, Bool.false_or, a21, sy0, sy1, sy2, sy3, sy4, sy5, clearEnv, adel, mem, initEnv, initSlots, stepOp, wantedA, evalOp, callOf, panicOf, evalV, addr, opd, opds, aget, aset, adel1, lkill, readCells, nth, Env.put, Env.putV, Env.box, Env.bare, dropOwn, dropOwnS, binD, binBD, binBool, binInt, binStr, unD, AOpd.drop, Cell.of, AOp.kind, sameKind, assertD, eqlB, isUndef, takeC, unownAt, fits, layCells, putCells, putD, fillD, partsOf, optLo, optHi, allSize, Option.getD_some, Option.getD_none, runDefers, readRes, readRes1, readRess, Nat.reduceAdd, Nat.reduceSub, Nat.reduceMul, Nat.reduceBEq, Bool.false_and, Bool.true_and, Bool.and_true, Bool.and_false, Nat.zero_add, Nat.add_zero, beq_self_eq_true, Bool.true_beq, Bool.false_beq, Bool.not_true, Bool.not_false, decide_true, decide_false, bindO, List.map_cons, List.map_nil, List.length_cons, List.length_nil, List.append_nil, List.nil_append, List.cons_append, List.isEmpty_nil, List.isEmpty_cons, Nat.reduceLeDiff, Int.reduceBEq, Int.reduceNeg, Nat.le_refl, g1, g2, List.length_map, g4, hrest]
            · have hv := pairBs_true h4' hp
              simp only [pairB, more4, form_mk, h0, h1, h2, h3, h4, hv, Bool.and_self, Bool.false_or, a21, sy0, sy1, sy2, sy3, sy4, sy5, clearEnv, adel, mem, initEnv, initSlots, stepOp, wantedA, evalOp, callOf, panicOf, evalV, addr, opd, opds, aget, aset, adel1, lkill, readCells, nth, Env.put, Env.putV, Env.box, Env.bare, dropOwn, dropOwnS, binD, binBD, binBool, binInt, binStr, unD, AOpd.drop, Cell.of, AOp.kind, sameKind, assertD, eqlB, isUndef, takeC, unownAt, fits, layCells, putCells, putD, fillD, partsOf, optLo, optHi, allSize, Option.getD_some, Option.getD_none, runDefers, readRes, readRes1, readRess, Nat.reduceAdd, Nat.reduceSub, Nat.reduceMul, Nat.reduceBEq, Bool.false_and, Bool.true_and, Bool.and_true, Bool.and_false, Nat.zero_add, Nat.add_zero, beq_self_eq_true, Bool.true_beq, Bool.false_beq, Bool.not_true, Bool.not_false, decide_true, decide_false, bindO, List.map_cons, List.map_nil, List.length_cons, List.length_nil, List.append_nil, List.nil_append, List.cons_append, List.isEmpty_nil, List.isEmpty_cons, Nat.reduceLeDiff, Int.reduceBEq, Int.reduceNeg, Nat.le_refl, g1, g2, List.length_map, g4, hrest]
section
variable {C : CallF} {n : Nat} {a b : V} {i g : Nat} {σ : Store}
def E39 (g : Nat) (a b : V) (i : Nat) : Env := { slots := [(2, ⟨false, .fn (.func g) [] []⟩), (41, ⟨false, .int .i64 a.kids.length⟩), (42, ⟨false, .int .i64 i⟩)], locs := [(3, (3, 0)), (4, (4, 0))], boxes := [(3, bx a), (4, bx b)], defers := [] }
theorem l39_step (ha : i < a.kids.length) (hb : i < b.kids.length) (hl : a.kids.length < 1048576) (hc : C 39 [dV a.kids[i], dV b.kids[i], .fn (.func g) [] []] σ = some (.ret ⟨false, .bool true⟩, σ)) : exec C n a39_l0 (E39 g a b i) σ = some (.normal, E39 g a b (i + 1), σ) := by
  have hi : ((i : Int) < (a.kids.length : Int)) := by omega
  simp only [a39_l0, E39, bx, sy0, sy1, sy2, sy3, sy4, sy5, clearEnv, adel, mem, initEnv, initSlots, stepOp, wantedA, evalOp, callOf, panicOf, evalV, addr, opd, opds, aget, aset, adel1, lkill, readCells, nth, Env.put, Env.putV, Env.box, Env.bare, dropOwn, dropOwnS, binD, binBD, binBool, binInt, binStr, unD, AOpd.drop, Cell.of, AOp.kind, sameKind, assertD, eqlB, isUndef, takeC, unownAt, fits, layCells, putCells, putD, fillD, partsOf, optLo, optHi, allSize, Option.getD_some, Option.getD_none, runDefers, readRes, readRes1, readRess, Nat.reduceAdd, Nat.reduceSub, Nat.reduceMul, Nat.reduceBEq, Bool.false_and, Bool.true_and, Bool.and_true, Bool.and_false, Nat.zero_add, Nat.add_zero, beq_self_eq_true, Bool.true_beq, Bool.false_beq, Bool.not_true, Bool.not_false, decide_true, decide_false, bindO, List.map_cons, List.map_nil, List.length_cons, List.length_nil, List.append_nil, List.nil_append, List.cons_append, List.isEmpty_nil, List.isEmpty_cons, Nat.reduceLeDiff, Int.reduceBEq, Int.reduceNeg, Nat.le_refl, List.length_map, kid_nth _ _ ha, kid_nth _ _ hb, kid_row _ _ ha, kid_row _ _ hb, agg?_dV, cells_dV, hi, wrap64_succ (i := i) (by omega), hc]
theorem l39_stop (ha : i < a.kids.length) (hb : i < b.kids.length) (hl : a.kids.length < 1048576) (hc : C 39 [dV a.kids[i], dV b.kids[i], .fn (.func g) [] []] σ = some (.ret ⟨false, .bool false⟩, σ)) : exec C n a39_l0 (E39 g a b i) σ = some (.ret, { slots := [(6, ⟨false, .bool false⟩)], locs := [], boxes := [], defers := [] }, σ) := by
  have hi : ((i : Int) < (a.kids.length : Int)) := by omega
  simp only [a39_l0, E39, bx, sy0, sy1, sy2, sy3, sy4, sy5, clearEnv, adel, mem, initEnv, initSlots, stepOp, wantedA, evalOp, callOf, panicOf, evalV, addr, opd, opds, aget, aset, adel1, lkill, readCells, nth, Env.put, Env.putV, Env.box, Env.bare, dropOwn, dropOwnS, binD, binBD, binBool, binInt, binStr, unD, AOpd.drop, Cell.of, AOp.kind, sameKind, assertD, eqlB, isUndef, takeC, unownAt, fits, layCells, putCells, putD, fillD, partsOf, optLo, optHi, allSize, Option.getD_some, Option.getD_none, runDefers, readRes, readRes1, readRess, Nat.reduceAdd, Nat.reduceSub, Nat.reduceMul, Nat.reduceBEq, Bool.false_and, Bool.true_and, Bool.and_true, Bool.and_false, Nat.zero_add, Nat.add_zero, beq_self_eq_true, Bool.true_beq, Bool.false_beq, Bool.not_true, Bool.not_false, decide_true, decide_false, bindO, List.map_cons, List.map_nil, List.length_cons, List.length_nil, List.append_nil, List.nil_append, List.cons_append, List.isEmpty_nil, List.isEmpty_cons, Nat.reduceLeDiff, Int.reduceBEq, Int.reduceNeg, Nat.le_refl, List.length_map, kid_nth _ _ ha, kid_nth _ _ hb, kid_row _ _ ha, kid_row _ _ hb, agg?_dV, cells_dV, hi, wrap64_succ (i := i) (by omega), hc]
theorem l39_end : exec C n a39_l0 (E39 g a b a.kids.length) σ = some (.exit 0, { E39 g a b a.kids.length with slots := [(2, ⟨false, .fn (.func g) [] []⟩), (41, ⟨false, .int .i64 a.kids.length⟩), (42, ⟨false, .int .i64 a.kids.length⟩), (43, ⟨false, .bool false⟩)] }, σ) := by
  have hi : ¬ ((a.kids.length : Int) < (a.kids.length : Int)) := by omega
  simp only [a39_l0, E39, bx, sy0, sy1, sy2, sy3, sy4, sy5, clearEnv, adel, mem, initEnv, initSlots, stepOp, wantedA, evalOp, callOf, panicOf, evalV, addr, opd, opds, aget, aset, adel1, lkill, readCells, nth, Env.put, Env.putV, Env.box, Env.bare, dropOwn, dropOwnS, binD, binBD, binBool, binInt, binStr, unD, AOpd.drop, Cell.of, AOp.kind, sameKind, assertD, eqlB, isUndef, takeC, unownAt, fits, layCells, putCells, putD, fillD, partsOf, optLo, optHi, allSize, Option.getD_some, Option.getD_none, runDefers, readRes, readRes1, readRess, Nat.reduceAdd, Nat.reduceSub, Nat.reduceMul, Nat.reduceBEq, Bool.false_and, Bool.true_and, Bool.and_true, Bool.and_false, Nat.zero_add, Nat.add_zero, beq_self_eq_true, Bool.true_beq, Bool.false_beq, Bool.not_true, Bool.not_false, decide_true, decide_false, bindO, List.map_cons, List.map_nil, List.length_cons, List.length_nil, List.append_nil, List.nil_append, List.cons_append, List.isEmpty_nil, List.isEmpty_cons, Nat.reduceLeDiff, Int.reduceBEq, Int.reduceNeg, Nat.le_refl, List.length_map, hi]
end
theorem pair_run (out : V → Bool) (g : Nat) (hout : Evly fun n => ∀ v σ, T n g [dV v] σ = some (.ret ⟨false, .bool (out v)⟩, σ)) (a : V) (hf : Fit a) : ∀ b, Evly fun n => ∀ σ, T n 39 [dV a, dV b, .fn (.func g) [] []] σ = some (.ret ⟨false, .bool (pairB out a b)⟩, σ) := by
  induction hf with
  | mk f n s ks hks hk ih =>
    intro b
    have hkids : Evly fun m => ∀ i, i < ks.length → ∀ (h : i < ks.length) (h' : i < b.kids.length) σ, T m 39 [dV ks[i], dV b.kids[i], .fn (.func g) [] []] σ = some (.ret ⟨false, .bool (pairB out ks[i] b.kids[i])⟩, σ) :=
      Evly.below _ fun i hi => by
        by_cases h' : i < b.kids.length
        · exact (ih ks[i] (List.getElem_mem hi) b.kids[i]).mono fun n hn _ _ σ => hn σ
        · exact .all fun n _ k => absurd k h'
    refine (hkids.and hout).step (ks.length + 1) fun m hm ⟨hrun, ho⟩ σ => ?_
    have ho0 := ho (.mk f n s ks) σ
    rw [T_fun (af := a39) rfl rfl]
    have hva : ∀ f n s ks, dV (.mk f n s ks) = .agg [.int .i64 f, .int .i64 n, .str s, dlist kV (ks.map dV)] := fun f n s ks => dV_eq _
    rw [hva, dV_eq b]
    rw [hva] at ho0
    cases h0 : out (.mk f n s ks) with
    | true =>
      rw [h0] at ho0
      simp only [pairB, h0, Bool.true_or, a39, sy0, sy1, sy2, sy3, sy4, sy5, clearEnv, adel, mem, initEnv, initSlots, stepOp, wantedA, evalOp, callOf, panicOf, evalV, addr, opd, opds, aget, aset, adel1, lkill, readCells, nth, Env.put, Env.putV, Env.box, Env.bare, dropOwn, dropOwnS, binD, binBD, binBool, binInt, binStr, unD, AOpd.drop, Cell.of, AOp.kind, sameKind, assertD, eqlB, isUndef, takeC, unownAt, fits, layCells, putCells, putD, fillD, partsOf, optLo, optHi, allSize, Option.getD_some, Option.getD_none, runDefers, readRes, readRes1, readRess, Nat.reduceAdd, Nat.reduceSub, Nat.reduceMul, Nat.reduceBEq, Bool.false_and, Bool.true_and, Bool.and_true, Bool.and_false, Nat.zero_add, Nat.add_zero, beq_self_eq_true, Bool.true_beq, Bool.false_beq, Bool.not_true, Bool.not_false, decide_true, decide_false, bindO, List.map_cons, List.map_nil, List.length_cons, List.length_nil, List.append_nil, List.nil_append, List.cons_append, List.isEmpty_nil, List.isEmpty_cons, Nat.reduceLeDiff, Int.reduceBEq, Int.reduceNeg, Nat.le_refl, ho0]
    | false =>
    rw [h0] at ho0
    cases h1 : f == b.form with
    | false =>
      have g1 : (f != b.form) = true := by simp [bne, h1]
      simp only [pairB, h0, h1, Bool.false_and, Bool.false_or, a39, sy0, sy1, sy2, sy3, sy4, sy5, clearEnv, adel, mem, initEnv, initSlots, stepOp, wantedA, evalOp, callOf, panicOf, evalV, addr, opd, opds, aget, aset, adel1, lkill, readCells, nth, Env.put, Env.putV, Env.box, Env.bare, dropOwn, dropOwnS, binD, binBD, binBool, binInt, binStr, unD, AOpd.drop, Cell.of, AOp.kind, sameKind, assertD, eqlB, isUndef, takeC, unownAt, fits, layCells, putCells, putD, fillD, partsOf, optLo, optHi, allSize, Option.getD_some, Option.getD_none, runDefers, readRes, readRes1, readRess, Nat.reduceAdd, Nat.reduceSub, Nat.reduceMul, Nat.reduceBEq, Bool.false_and, Bool.true_and, Bool.and_true, Bool.and_false, Nat.zero_add, Nat.add_zero, beq_self_eq_true, Bool.true_beq, Bool.false_beq, Bool.not_true, Bool.not_false, decide_true, decide_false, bindO, List.map_cons, List.map_nil, List.length_cons, List.length_nil, List.append_nil, List.nil_append, List.cons_append, List.isEmpty_nil, List.isEmpty_cons, Nat.reduceLeDiff, Int.reduceBEq, Int.reduceNeg, Nat.le_refl, ho0, g1]
    | true =>
      have g1 : (f != b.form) = false := by simp [bne, h1]
      cases h2 : n == b.n with
      | false =>
        have g2 : (n != b.n) = true := by simp [bne, h2]
        simp only [pairB, h0, h1, h2, Bool.and_false, Bool.false_or, a39, sy0, sy1, sy2, sy3, sy4, sy5, clearEnv, adel, mem, initEnv, initSlots, stepOp, wantedA, evalOp, callOf, panicOf, evalV, addr, opd, opds, aget, aset, adel1, lkill, readCells, nth, Env.put, Env.putV, Env.box, Env.bare, dropOwn, dropOwnS, binD, binBD, binBool, binInt, binStr, unD, AOpd.drop, Cell.of, AOp.kind, sameKind, assertD, eqlB, isUndef, takeC, unownAt, fits, layCells, putCells, putD, fillD, partsOf, optLo, optHi, allSize, Option.getD_some, Option.getD_none, runDefers, readRes, readRes1, readRess, Nat.reduceAdd, Nat.reduceSub, Nat.reduceMul, Nat.reduceBEq, Bool.false_and, Bool.true_and, Bool.and_true, Bool.and_false, Nat.zero_add, Nat.add_zero, beq_self_eq_true, Bool.true_beq, Bool.false_beq, Bool.not_true, Bool.not_false, decide_true, decide_false, bindO, List.map_cons, List.map_nil, List.length_cons, List.length_nil, List.append_nil, List.nil_append, List.cons_append, List.isEmpty_nil, List.isEmpty_cons, Nat.reduceLeDiff, Int.reduceBEq, Int.reduceNeg, Nat.le_refl, ho0, g1, g2]
      | true =>
        have g2 : (n != b.n) = false := by simp [bne, h2]
        cases h3 : s == b.name with
        | false => simp only [pairB, h0, h1, h2, h3, Bool.and_false, Bool.false_or, a39, sy0, sy1, sy2, sy3, sy4, sy5, clearEnv, adel, mem, initEnv, initSlots, stepOp, wantedA, evalOp, callOf, panicOf, evalV, addr, opd, opds, aget, aset, adel1, lkill, readCells, nth, Env.put, Env.putV, Env.box, Env.bare, dropOwn, dropOwnS, binD, binBD, binBool, binInt, binStr, unD, AOpd.drop, Cell.of, AOp.kind, sameKind, assertD, eqlB, isUndef, takeC, unownAt, fits, layCells, putCells, putD, fillD, partsOf, optLo, optHi, allSize, Option.getD_some, Option.getD_none, runDefers, readRes, readRes1, readRess, Nat.reduceAdd, Nat.reduceSub, Nat.reduceMul, Nat.reduceBEq, Bool.false_and, Bool.true_and, Bool.and_true, Bool.and_false, Nat.zero_add, Nat.add_zero, beq_self_eq_true, Bool.true_beq, Bool.false_beq, Bool.not_true, Bool.not_false, decide_true, decide_false, bindO, List.map_cons, List.map_nil, List.length_cons, List.length_nil, List.append_nil, List.nil_append, List.cons_append, List.isEmpty_nil, List.isEmpty_cons, Nat.reduceLeDiff, Int.reduceBEq, Int.reduceNeg, Nat.le_refl, ho0, g1, g2]
        | true =>
          cases h4 : ks.length == b.kids.length with
          | false =>
            have g4 : (((ks.length : Nat) : Int) != ((b.kids.length : Nat) : Int)) = true := by
              simp at h4
              simp [bne]
              omega
            simp only [pairB, h0, h1, h2, h3, h4, Bool.and_false, Bool.false_or, a39, sy0, sy1, sy2, sy3, sy4, sy5, clearEnv, adel, mem, initEnv, initSlots, stepOp, wantedA, evalOp, callOf, panicOf, evalV, addr, opd, opds, aget, aset, adel1, lkill, readCells, nth, Env.put, Env.putV, Env.box, Env.bare, dropOwn, dropOwnS, binD, binBD, binBool, binInt, binStr, unD, AOpd.drop, Cell.of, AOp.kind, sameKind, assertD, eqlB, isUndef, takeC, unownAt, fits, layCells, putCells, putD, fillD, partsOf, optLo, optHi, allSize, Option.getD_some, Option.getD_none, runDefers, readRes, readRes1, readRess, Nat.reduceAdd, Nat.reduceSub, Nat.reduceMul, Nat.reduceBEq, Bool.false_and, Bool.true_and, Bool.and_true, Bool.and_false, Nat.zero_add, Nat.add_zero, beq_self_eq_true, Bool.true_beq, Bool.false_beq, Bool.not_true, Bool.not_false, decide_true, decide_false, bindO, List.map_cons, List.map_nil, List.length_cons, List.length_nil, List.append_nil, List.nil_append, List.cons_append, List.isEmpty_nil, List.isEmpty_cons, Nat.reduceLeDiff, Int.reduceBEq, Int.reduceNeg, Nat.le_refl, ho0, g1, g2, List.length_map, g4]
          | true =>
            have h4' : ks.length = b.kids.length := by simpa using h4
            have g4 : (((ks.length : Nat) : Int) != ((b.kids.length : Nat) : Int)) = false := by
              rw [h4']
              simp
            have hloop := loopN_until (body := exec (T m) m a39_l0) (E39 g (.mk f n s ks) b) (fun _ => σ) ks.length (atB out ks b.kids) (stop := fun _ => (.ret, { slots := [(6, ⟨false, .bool false⟩)], locs := [], boxes := [], defers := [] }, σ)) (fun _ _ h => by cases h) (fun _ _ _ h => by cases h)
              (fun i hi hp => l39_step (a := .mk f n s ks) hi (by omega) hks (by
                rw [atB_get out ks b.kids i hi (by omega)] at hp
                have := hrun i hi hi (by omega) σ
                rw [hp] at this
                exact this))
              (fun i hi hp => l39_stop (a := .mk f n s ks) hi (by omega) hks (by
                rw [atB_get out ks b.kids i hi (by omega)] at hp
                have := hrun i hi hi (by omega) σ
                rw [hp] at this
                exact this))
              l39_end m 0 (by omega) (by omega)
            simp only [E39, bx, form_mk, n_mk, name_mk, kids_mk, zeroI] at hloop
            rcases hloop with ⟨i, _, hi, hp, _, hrest⟩ | ⟨hp, hrest⟩
            · have hv := pairBs_false hi (by omega) h4' hp
              simp only [pairB, h0, h1, h2, h3, h4, hv, Bool.and_false, Bool.false_or, a39, sy0, sy1, sy2, sy3, sy4, sy5, clearEnv, adel, mem, initEnv, initSlots, stepOp, wantedA, evalOp, callOf, panicOf, evalV, addr, opd, opds, aget, aset, adel1, lkill, readCells, nth, Env.put, Env.putV, Env.box, Env.bare, dropOwn, dropOwnS, binD, binBD, binBool, binInt, binStr, unD, AOpd.drop, Cell.of, AOp.kind, sameKind, assertD, eqlB, isUndef, takeC, unownAt, fits, layCells, putCells, putD, fillD, partsOf, optLo, optHi, allSize, Option.getD_some, Option.getD_none, runDefers, readRes, readRes1, readRess, Nat.reduceAdd, Nat.reduceSub, Nat.reduceMul, Nat.reduceBEq, Bool.false_and, Bool.true_and, Bool.and_true, Bool.and_false, Nat.zero_add, Nat.add_zero, beq_self_eq_true, Bool.true_beq, Bool.false_beq, Bool.not_true, Bool.not_false, decide_true, decide_false, bindO, List.map_cons, List.map_nil, List.length_cons, List.length_nil, List.append_nil, List.nil_append, List.cons_append, List.isEmpty_nil, List.isEmpty_cons, Nat.reduceLeDiff, Int.reduceBEq, Int.reduceNeg, Nat.le_refl, ho0, g1, g2, List.length_map, g4, hrest]
            · have hv := pairBs_true h4' hp
              simp only [pairB, h0, h1, h2, h3, h4, hv, Bool.and_self, Bool.false_or, a39, sy0, sy1, sy2, sy3, sy4, sy5, clearEnv, adel, mem, initEnv, initSlots, stepOp, wantedA, evalOp, callOf, panicOf, evalV, addr, opd, opds, aget, aset, adel1, lkill, readCells, nth, Env.put, Env.putV, Env.box, Env.bare, dropOwn, dropOwnS, binD, binBD, binBool, binInt, binStr, unD, AOpd.drop, Cell.of, AOp.kind, sameKind, assertD, eqlB, isUndef, takeC, unownAt, fits, layCells, putCells, putD, fillD, partsOf, optLo, optHi, allSize, Option.getD_some, Option.getD_none, runDefers, readRes, readRes1, readRess, Nat.reduceAdd, Nat.reduceSub, Nat.reduceMul, Nat.reduceBEq, Bool.false_and, Bool.true_and, Bool.and_true, Bool.and_false, Nat.zero_add, Nat.add_zero, beq_self_eq_true, Bool.true_beq, Bool.false_beq, Bool.not_true, Bool.not_false, decide_true, decide_false, bindO, List.map_cons, List.map_nil, List.length_cons, List.length_nil, List.append_nil, List.nil_append, List.cons_append, List.isEmpty_nil, List.isEmpty_cons, Nat.reduceLeDiff, Int.reduceBEq, Int.reduceNeg, Nat.le_refl, ho0, g1, g2, List.length_map, g4, hrest]

theorem none_run : Evly fun n => ∀ v σ, T n 40 [dV v] σ = some (.ret ⟨false, .bool (none4 v)⟩, σ) := (Evly.all (p := fun _ => True) fun _ => trivial).step 0 fun m _ _ v σ => by
  rw [T_fun (af := a40) rfl rfl, dV_eq]
  simp only [none4, a40, sy0, sy1, sy2, sy3, sy4, sy5, clearEnv, adel, mem, initEnv, initSlots, stepOp, wantedA, evalOp, callOf, panicOf, evalV, addr, opd, opds, aget, aset, adel1, lkill, readCells, nth, Env.put, Env.putV, Env.box, Env.bare, dropOwn, dropOwnS, binD, binBD, binBool, binInt, binStr, unD, AOpd.drop, Cell.of, AOp.kind, sameKind, assertD, eqlB, isUndef, takeC, unownAt, fits, layCells, putCells, putD, fillD, partsOf, optLo, optHi, allSize, Option.getD_some, Option.getD_none, runDefers, readRes, readRes1, readRess, Nat.reduceAdd, Nat.reduceSub, Nat.reduceMul, Nat.reduceBEq, Bool.false_and, Bool.true_and, Bool.and_true, Bool.and_false, Nat.zero_add, Nat.add_zero, beq_self_eq_true, Bool.true_beq, Bool.false_beq, Bool.not_true, Bool.not_false, decide_true, decide_false, bindO, List.map_cons, List.map_nil, List.length_cons, List.length_nil, List.append_nil, List.nil_append, List.cons_append, List.isEmpty_nil, List.isEmpty_cons, Nat.reduceLeDiff, Int.reduceBEq, Int.reduceNeg, Nat.le_refl]
theorem more_run : Evly fun n => ∀ v σ, T n 41 [dV v] σ = some (.ret ⟨false, .bool (more4 v)⟩, σ) := (Evly.all (p := fun _ => True) fun _ => trivial).step 0 fun m _ _ v σ => by
  rw [T_fun (af := a41) rfl rfl, dV_eq]
  simp only [more4, a41, sy0, sy1, sy2, sy3, sy4, sy5, clearEnv, adel, mem, initEnv, initSlots, stepOp, wantedA, evalOp, callOf, panicOf, evalV, addr, opd, opds, aget, aset, adel1, lkill, readCells, nth, Env.put, Env.putV, Env.box, Env.bare, dropOwn, dropOwnS, binD, binBD, binBool, binInt, binStr, unD, AOpd.drop, Cell.of, AOp.kind, sameKind, assertD, eqlB, isUndef, takeC, unownAt, fits, layCells, putCells, putD, fillD, partsOf, optLo, optHi, allSize, Option.getD_some, Option.getD_none, runDefers, readRes, readRes1, readRess, Nat.reduceAdd, Nat.reduceSub, Nat.reduceMul, Nat.reduceBEq, Bool.false_and, Bool.true_and, Bool.and_true, Bool.and_false, Nat.zero_add, Nat.add_zero, beq_self_eq_true, Bool.true_beq, Bool.false_beq, Bool.not_true, Bool.not_false, decide_true, decide_false, bindO, List.map_cons, List.map_nil, List.length_cons, List.length_nil, List.append_nil, List.nil_append, List.cons_append, List.isEmpty_nil, List.isEmpty_cons, Nat.reduceLeDiff, Int.reduceBEq, Int.reduceNeg, Nat.le_refl]
theorem psame_run (a : V) (hf : Fit a) (b : V) : Evly fun n => ∀ σ, T n 19 [dV a, dV b] σ = some (.ret ⟨false, .bool (pairB none4 a b)⟩, σ) := (pair_run none4 40 none_run a hf b).step 0 fun m _ h σ => by
  have h := h σ
  rw [T_fun (af := a19) rfl rfl]
  rw [dV_eq a, dV_eq b] at h ⊢
  simp only [a19, sy0, sy1, sy2, sy3, sy4, sy5, clearEnv, adel, mem, initEnv, initSlots, stepOp, wantedA, evalOp, callOf, panicOf, evalV, addr, opd, opds, aget, aset, adel1, lkill, readCells, nth, Env.put, Env.putV, Env.box, Env.bare, dropOwn, dropOwnS, binD, binBD, binBool, binInt, binStr, unD, AOpd.drop, Cell.of, AOp.kind, sameKind, assertD, eqlB, isUndef, takeC, unownAt, fits, layCells, putCells, putD, fillD, partsOf, optLo, optHi, allSize, Option.getD_some, Option.getD_none, runDefers, readRes, readRes1, readRess, Nat.reduceAdd, Nat.reduceSub, Nat.reduceMul, Nat.reduceBEq, Bool.false_and, Bool.true_and, Bool.and_true, Bool.and_false, Nat.zero_add, Nat.add_zero, beq_self_eq_true, Bool.true_beq, Bool.false_beq, Bool.not_true, Bool.not_false, decide_true, decide_false, bindO, List.map_cons, List.map_nil, List.length_cons, List.length_nil, List.append_nil, List.nil_append, List.cons_append, List.isEmpty_nil, List.isEmpty_cons, Nat.reduceLeDiff, Int.reduceBEq, Int.reduceNeg, Nat.le_refl, h]
theorem pless_run (a : V) (hf : Fit a) (b : V) : Evly fun n => ∀ σ, T n 22 [dV a, dV b] σ = some (.ret ⟨false, .bool (pairB more4 a b)⟩, σ) := (pair_run more4 41 more_run a hf b).step 0 fun m _ h σ => by
  have h := h σ
  rw [T_fun (af := a22) rfl rfl]
  rw [dV_eq a, dV_eq b] at h ⊢
  simp only [a22, sy0, sy1, sy2, sy3, sy4, sy5, clearEnv, adel, mem, initEnv, initSlots, stepOp, wantedA, evalOp, callOf, panicOf, evalV, addr, opd, opds, aget, aset, adel1, lkill, readCells, nth, Env.put, Env.putV, Env.box, Env.bare, dropOwn, dropOwnS, binD, binBD, binBool, binInt, binStr, unD, AOpd.drop, Cell.of, AOp.kind, sameKind, assertD, eqlB, isUndef, takeC, unownAt, fits, layCells, putCells, putD, fillD, partsOf, optLo, optHi, allSize, Option.getD_some, Option.getD_none, runDefers, readRes, readRes1, readRess, Nat.reduceAdd, Nat.reduceSub, Nat.reduceMul, Nat.reduceBEq, Bool.false_and, Bool.true_and, Bool.and_true, Bool.and_false, Nat.zero_add, Nat.add_zero, beq_self_eq_true, Bool.true_beq, Bool.false_beq, Bool.not_true, Bool.not_false, decide_true, decide_false, bindO, List.map_cons, List.map_nil, List.length_cons, List.length_nil, List.append_nil, List.nil_append, List.cons_append, List.isEmpty_nil, List.isEmpty_cons, Nat.reduceLeDiff, Int.reduceBEq, Int.reduceNeg, Nat.le_refl, h]
end Go.Proofs.YtdoppkjoemlhjaaDoor.Sh

/-
  The laws of what is the same, what tells less, and what is cut.
-/
namespace Go.Proofs.YtdoppkjoemlhjaaDoor.Sh
open Go Go.Mx
def vMore : V := .mk 4 0 [] []
theorem V.eta (v : V) : v = .mk v.form v.n v.name v.kids := by cases v; rfl
theorem pairB_eq (out : V → Bool) (a b : V) : pairB out a b = (out a || (a.form == b.form && a.n == b.n && a.name == b.name && a.kids.length == b.kids.length && pairBs out a.kids b.kids)) := by
  cases a
  rw [pairB]
  rfl
mutual
theorem pairB_refl (out : V → Bool) : ∀ v, pairB out v v = true
  | .mk f n s ks => by
    rw [pairB]
    have := pairBs_refl out ks
    simp [V.form, V.n, V.name, V.kids, this]
theorem pairBs_refl (out : V → Bool) : ∀ l, pairBs out l l = true
  | [] => rfl
  | v :: l => by
    rw [pairBs, pairB_refl out v, pairBs_refl out l]
    rfl
end
mutual
theorem less_cut : ∀ (v : V) (d : Int), pairB more4 (cut v d) v = true
  | .mk f n s ks, d => by
    rw [cut]
    by_cases h : d ≤ 0
    · rw [decide_eq_true h, ifB_true, pairB_eq]
      rfl
    · rw [decide_eq_false h, ifB_false, pairB]
      have h1 := less_cuts ks (d - 1)
      have h2 : (cuts ks (d - 1)).length = ks.length := by rw [cuts_eq]; simp
      simp [V.form, V.n, V.name, V.kids, h1, h2]
theorem less_cuts : ∀ (l : List V) (d : Int), pairBs more4 (cuts l d) l = true
  | [], _ => rfl
  | v :: l, d => by
    rw [cuts, pairBs, less_cut v d, less_cuts l d]
    rfl
end
def lesser (a b : Int) : Int := if b < a then b else a
theorem cut_nil (f n : Int) (s : List UInt8) (d : Int) : cut (.mk f n s []) d = ifB (decide (d ≤ 0)) vMore (.mk f n s []) := by
  rw [cut, cuts]
  rfl
mutual
theorem cut_cut : ∀ (v : V) (a b : Int), cut (cut v a) b = cut v (lesser a b)
  | .mk f n s ks, a, b => by
    rw [cut, cut]
    unfold lesser
    by_cases h : a ≤ 0
    · have h2 : (if b < a then b else a) ≤ 0 := by split <;> omega
      rw [decide_eq_true h, ifB_true, decide_eq_true h2, ifB_true, cut_nil]
      cases decide (b ≤ 0) <;> rfl
    · rw [decide_eq_false h, ifB_false, cut]
      by_cases hb : b ≤ 0
      · have h2 : (if b < a then b else a) ≤ 0 := by split <;> omega
        rw [decide_eq_true hb, ifB_true, decide_eq_true h2, ifB_true]
      · have h2 : ¬ (if b < a then b else a) ≤ 0 := by split <;> omega
        rw [decide_eq_false hb, ifB_false, decide_eq_false h2, ifB_false, cuts_cuts ks (a - 1) (b - 1)]
        unfold lesser
        congr 2
        split <;> split <;> omega
theorem cuts_cuts : ∀ (l : List V) (a b : Int), cuts (cuts l a) b = cuts l (lesser a b)
  | [], _, _ => rfl
  | v :: l, a, b => by
    rw [cuts, cuts, cuts, cut_cut v a b, cuts_cuts l a b]
end
mutual
theorem less_trans : ∀ (x y z : V), pairB more4 x y = true → pairB more4 y z = true → pairB more4 x z = true
  | .mk f n s ks, y, z, h1, h2 => by
    rw [pairB] at h1 ⊢
    cases hf : more4 (.mk f n s ks) with
    | true => rfl
    | false =>
      rw [hf] at h1
      simp only [Bool.false_or, Bool.and_eq_true, beq_iff_eq] at h1 ⊢
      obtain ⟨⟨⟨⟨e1, e2⟩, e3⟩, e4⟩, e5⟩ := h1
      rw [pairB_eq] at h2
      have hy : more4 y = false := by
        unfold more4 at hf ⊢
        rw [← e1]
        exact hf
      rw [hy] at h2
      simp only [Bool.false_or, Bool.and_eq_true, beq_iff_eq] at h2
      obtain ⟨⟨⟨⟨g1, g2⟩, g3⟩, g4⟩, g5⟩ := h2
      exact ⟨⟨⟨⟨e1.trans g1, e2.trans g2⟩, e3.trans g3⟩, e4.trans g4⟩, lesss_trans ks y.kids z.kids e4 g4 e5 g5⟩
theorem lesss_trans : ∀ (x y z : List V), x.length = y.length → y.length = z.length → pairBs more4 x y = true → pairBs more4 y z = true → pairBs more4 x z = true
  | [], _, _, _, _, _, _ => by simp [pairBs]
  | a :: x, [], _, h, _, _, _ => by simp at h
  | a :: x, b :: y, [], _, h, _, _ => by simp at h
  | a :: x, b :: y, c :: z, h1, h2, h3, h4 => by
    simp only [pairBs, Bool.and_eq_true] at h3 h4 ⊢
    exact ⟨less_trans a b c h3.1 h4.1, lesss_trans x y z (by simpa using h1) (by simpa using h2) h3.2 h4.2⟩
end
/-- What is not told is told in one way. -/
inductive Tidy : V → Prop
  | mk (f n : Int) (s : List UInt8) (ks : List V) (h : f = 4 → n = 0 ∧ s = [] ∧ ks = []) (hk : ∀ k ∈ ks, Tidy k) : Tidy (.mk f n s ks)
theorem tidy_more {v : V} (h : Tidy v) (hf : v.form = 4) : v = vMore := by
  cases h with
  | mk f n s ks h hk =>
    have hf' : f = 4 := hf
    obtain ⟨rfl, rfl, rfl⟩ := h hf'
    rw [hf']
    rfl
theorem tidy_vMore : Tidy vMore := .mk _ _ _ _ (fun _ => ⟨rfl, rfl, rfl⟩) (fun k h => by cases h)
theorem tidy_cut (v : V) (hf : Tidy v) : ∀ d, Tidy (cut v d) := by
  induction hf with
  | mk f n s ks h hk ih =>
    intro d
    rw [cut]
    by_cases h0 : d ≤ 0
    · rw [decide_eq_true h0, ifB_true]
      exact tidy_vMore
    · rw [decide_eq_false h0, ifB_false]
      refine .mk _ _ _ _ (fun e => ?_) fun k hk' => ?_
      · obtain ⟨h1, h2, h3⟩ := h e
        exact ⟨h1, h2, by rw [h3]; rfl⟩
      · rw [cuts_eq] at hk'
        obtain ⟨x, hx, rfl⟩ := List.mem_map.1 hk'
        exact ih x hx _
theorem less_anti (x : V) (hx : Tidy x) : ∀ y, Tidy y → pairB more4 x y = true → pairB more4 y x = true → pairB none4 x y = true := by
  induction hx with
  | mk f n s ks h hk ih =>
    intro y hy h1 h2
    by_cases hf : f = 4
    · obtain ⟨rfl, rfl, rfl⟩ := h hf
      subst hf
      have hy4 : y.form = 4 := by
        rw [pairB_eq] at h2
        simp only [more4, Bool.or_eq_true, Bool.and_eq_true, beq_iff_eq] at h2
        rcases h2 with h2 | h2
        · exact h2
        · exact h2.1.1.1.1
      rw [tidy_more hy hy4]
      exact pairB_refl none4 vMore
    · have hm : more4 (.mk f n s ks) = false := by simpa [more4, V.form] using hf
      rw [pairB, hm] at h1
      simp only [Bool.false_or, Bool.and_eq_true, beq_iff_eq] at h1
      obtain ⟨⟨⟨⟨e1, e2⟩, e3⟩, e4⟩, e5⟩ := h1
      have hmy : more4 y = false := by
        unfold more4 at hm ⊢
        rw [← e1]
        exact hm
      rw [pairB_eq, hmy] at h2
      simp only [Bool.false_or, Bool.and_eq_true, beq_iff_eq] at h2
      obtain ⟨⟨⟨⟨g1, g2⟩, g3⟩, g4⟩, g5⟩ := h2
      rw [pairB]
      simp only [none4, Bool.false_or, Bool.and_eq_true, beq_iff_eq]
      refine ⟨⟨⟨⟨e1, e2⟩, e3⟩, e4⟩, (pairBs_iff none4 ks y.kids e4).1 fun i hi hi' => ?_⟩
      have hty : ∀ k ∈ y.kids, Tidy k := by
        cases hy with
        | mk _ _ _ _ _ hk2 => exact hk2
      exact ih ks[i] (List.getElem_mem hi) y.kids[i] (hty _ (List.getElem_mem hi')) ((pairBs_iff more4 ks y.kids e4).2 e5 i hi hi') ((pairBs_iff more4 y.kids ks g4).2 g5 i hi' hi)
theorem tidy_step (done : List V) (x : Int) (h : ∀ v ∈ done, Tidy v) : ∀ v ∈ madeStep done x, Tidy v := by
  unfold madeStep stepBy
  intro v hv
  split at hv
  all_goals
    rw [List.mem_append] at hv
    rcases hv with hv | hv
  · exact h v hv
  · rw [List.mem_singleton.1 hv]; exact .mk _ _ _ _ (fun e => by cases e) (fun k h => by cases h)
  · exact h v hv
  · rw [List.mem_singleton.1 hv]; exact tidy_vMore
  · exact h v hv
  · rw [List.mem_singleton.1 hv]; exact .mk _ _ _ _ (fun e => by cases e) (fun k h => by cases h)
  · exact h v hv
  · rw [List.mem_singleton.1 hv]; exact .mk _ _ _ _ (fun e => by cases e) (fun k h => by cases h)
  · exact h v (List.mem_of_mem_take hv)
  · rw [List.mem_singleton.1 hv]
    exact .mk _ _ _ _ (fun e => by cases e) (fun k hk => h k (List.mem_of_mem_drop hk))
theorem tidy_madeL (xs : List Int) : ∀ i, ∀ v ∈ madeL xs i, Tidy v
  | 0 => by
    intro v hv
    simp [madeL] at hv
    rw [hv]
    exact tidy_vMore
  | i + 1 => by
    have ih := tidy_madeL xs i
    by_cases h : i < xs.length
    · rw [madeL_succ xs i h]
      exact tidy_step _ _ ih
    · have : madeL xs (i + 1) = madeL xs i := by
        unfold madeL
        rw [List.take_of_length_le (by omega), List.take_of_length_le (by omega)]
      rw [this]
      exact ih
theorem tidy_made (xs : List Int) : Tidy (made xs) := tidy_madeL xs _ _ (getLastD_mem _ _ (madeL_len _ _).1)
set_option maxRecDepth 10000
theorem law_same (d1 d2 : D) (l k : List Int) (depth : Int) (h1 : ListD d1 l) (h2 : ListD d2 k) (hl : ∀ x ∈ l, Small x) (hk : ∀ x ∈ k, Small x) (hd : Small depth) : Evly fun n => ∀ σ, T n 6 [d1, d2, .int .i64 depth] σ = some (.ret ⟨false, .bool true⟩, σ) := by
  obtain ⟨v, hv⟩ : ∃ v, v = made l := ⟨_, rfl⟩
  obtain ⟨u, hu⟩ : ∃ u, u = made k := ⟨_, rfl⟩
  obtain ⟨w, hw⟩ : ∃ w, w = cut u depth := ⟨_, rfl⟩
  have fv : Fit v := hv ▸ fit_made l
  have fu : Fit u := hu ▸ fit_made k
  have fw : Fit w := hw ▸ fit_cut u fu depth
  have r1 := made_run d1 l h1 hl
  have r2 := made_run d2 k h2 hk
  have r3 := cut_run u fu depth hd.2
  rw [← hv] at r1
  rw [← hu] at r2
  rw [← hw] at r3
  refine ((((r1.and r2).and r3).and (((same_run v fv w).and (less_run w fw v)).and (less_run v fv w))).and (((psame_run v fv w).and (pless_run w fw v)).and ((pless_run v fv w).and lives_run))).step 0 fun m _ hh σ => ?_
  obtain ⟨⟨⟨⟨r1, r2⟩, r3⟩, ⟨⟨r4, r5⟩, r6⟩⟩, ⟨⟨r7, r8⟩, ⟨r9, r10⟩⟩⟩ := hh
  have r1 := r1 σ
  have r2 := r2 σ
  have r3 := r3 σ
  have r4 := r4 σ
  have r5 := r5 σ
  have r6 := r6 σ
  have r7 := r7 σ
  have r8 := r8 σ
  have r9 := r9 σ
  have r10 := r10 σ
  generalize pairB none4 v w = b1 at *
  generalize pairB more4 w v = b2 at *
  generalize pairB more4 v w = b3 at *
  rw [dV_eq v] at r1 r4 r5 r6 r7 r8 r9
  rw [dV_eq u] at r2 r3
  rw [dV_eq w] at r3 r4 r5 r6 r7 r8 r9
  rw [T_fun (af := a6) rfl rfl]
  simp only [a6, sy0, sy1, sy2, sy3, sy4, sy5, clearEnv, adel, mem, initEnv, initSlots, stepOp, wantedA, evalOp, callOf, panicOf, evalV, addr, opd, opds, aget, aset, adel1, lkill, readCells, nth, Env.put, Env.putV, Env.box, Env.bare, dropOwn, dropOwnS, binD, binBD, binBool, binInt, binStr, unD, AOpd.drop, Cell.of, AOp.kind, sameKind, assertD, eqlB, isUndef, takeC, unownAt, fits, layCells, putCells, putD, fillD, partsOf, optLo, optHi, allSize, Option.getD_some, Option.getD_none, runDefers, readRes, readRes1, readRess, Nat.reduceAdd, Nat.reduceSub, Nat.reduceMul, Nat.reduceBEq, Bool.false_and, Bool.true_and, Bool.and_true, Bool.and_false, Nat.zero_add, Nat.add_zero, beq_self_eq_true, Bool.true_beq, Bool.false_beq, Bool.not_true, Bool.not_false, decide_true, decide_false, bindO, List.map_cons, List.map_nil, List.length_cons, List.length_nil, List.append_nil, List.nil_append, List.cons_append, List.isEmpty_nil, List.isEmpty_cons, Nat.reduceLeDiff, Int.reduceBEq, Int.reduceNeg, Nat.le_refl, r1, r2, r3, r4, r5, r6, r7, r8, r9, r10]
theorem law_cuts (d1 : D) (l : List Int) (a b : Int) (h1 : ListD d1 l) (hl : ∀ x ∈ l, Small x) (ha : Small a) (hb : Small b) : Evly fun n => ∀ σ, T n 7 [d1, .int .i64 a, .int .i64 b] σ = some (.ret ⟨false, .bool true⟩, σ) := by
  obtain ⟨v, hv⟩ : ∃ v, v = made l := ⟨_, rfl⟩
  obtain ⟨w, hw⟩ : ∃ w, w = cut v a := ⟨_, rfl⟩
  obtain ⟨x, hx⟩ : ∃ x, x = cut w b := ⟨_, rfl⟩
  have fv : Fit v := hv ▸ fit_made l
  have fw : Fit w := hw ▸ fit_cut v fv a
  have fx : Fit x := hx ▸ fit_cut w fw b
  have hl2 : lesser a b ≤ 9223372036854775807 := by unfold lesser; split; exact hb.2; exact ha.2
  have hxx : cut v (lesser a b) = x := by rw [hx, hw, cut_cut]
  have r1 := made_run d1 l h1 hl
  have r2 := pcut_run v fv a ha.2
  have r3 := cut_run v fv a ha.2
  have r4 := pcut_run w fw b hb.2
  have r5 := pcut_run v fv (lesser a b) hl2
  have r6 := same_run w fw w
  have r7 := pless_run w fw v
  have r8 := psame_run x fx x
  rw [pairB_refl] at r6 r8
  rw [show pairB more4 w v = true from hw ▸ less_cut v a] at r7
  rw [hxx] at r5
  rw [← hw] at r2 r3
  rw [← hx] at r4
  rw [← hv] at r1
  refine (((r1.and r2).and (r3.and r4)).and (((r5.and r6).and (r7.and r8)).and lives_run)).step 0 fun m _ hh σ => ?_
  obtain ⟨⟨⟨r1, r2⟩, ⟨r3, r4⟩⟩, ⟨⟨⟨r5, r6⟩, ⟨r7, r8⟩⟩, r9⟩⟩ := hh
  have r1 := r1 σ
  have r2 := r2 σ
  have r3 := r3 σ
  have r4 := r4 σ
  have r5 := r5 σ
  have r6 := r6 σ
  have r7 := r7 σ
  have r8 := r8 σ
  have r9 := r9 σ
  rw [dV_eq v] at r1 r2 r3 r5 r7
  rw [dV_eq w] at r2 r3 r4 r6 r7
  rw [dV_eq x] at r4 r5 r8
  unfold lesser at r5
  rw [T_fun (af := a7) rfl rfl]
  by_cases hba : b < a
  · rw [if_pos hba] at r5
    simp only [a7, sy0, sy1, sy2, sy3, sy4, sy5, clearEnv, adel, mem, initEnv, initSlots, stepOp, wantedA, evalOp, callOf, panicOf, evalV, addr, opd, opds, aget, aset, adel1, lkill, readCells, nth, Env.put, Env.putV, Env.box, Env.bare, dropOwn, dropOwnS, binD, binBD, binBool, binInt, binStr, unD, AOpd.drop, Cell.of, AOp.kind, sameKind, assertD, eqlB, isUndef, takeC, unownAt, fits, layCells, putCells, putD, fillD, partsOf, optLo, optHi, allSize, Option.getD_some, Option.getD_none, runDefers, readRes, readRes1, readRess, Nat.reduceAdd, Nat.reduceSub, Nat.reduceMul, Nat.reduceBEq, Bool.false_and, Bool.true_and, Bool.and_true, Bool.and_false, Nat.zero_add, Nat.add_zero, beq_self_eq_true, Bool.true_beq, Bool.false_beq, Bool.not_true, Bool.not_false, decide_true, decide_false, bindO, List.map_cons, List.map_nil, List.length_cons, List.length_nil, List.append_nil, List.nil_append, List.cons_append, List.isEmpty_nil, List.isEmpty_cons, Nat.reduceLeDiff, Int.reduceBEq, Int.reduceNeg, Nat.le_refl, hba, r1, r2, r3, r4, r5, r6, r7, r8, r9]
  · have hxw : x = w := by
      rw [← hxx, hw]
      unfold lesser
      rw [if_neg hba]
    rw [hxw] at r4 r8
    simp only [a7, sy0, sy1, sy2, sy3, sy4, sy5, clearEnv, adel, mem, initEnv, initSlots, stepOp, wantedA, evalOp, callOf, panicOf, evalV, addr, opd, opds, aget, aset, adel1, lkill, readCells, nth, Env.put, Env.putV, Env.box, Env.bare, dropOwn, dropOwnS, binD, binBD, binBool, binInt, binStr, unD, AOpd.drop, Cell.of, AOp.kind, sameKind, assertD, eqlB, isUndef, takeC, unownAt, fits, layCells, putCells, putD, fillD, partsOf, optLo, optHi, allSize, Option.getD_some, Option.getD_none, runDefers, readRes, readRes1, readRess, Nat.reduceAdd, Nat.reduceSub, Nat.reduceMul, Nat.reduceBEq, Bool.false_and, Bool.true_and, Bool.and_true, Bool.and_false, Nat.zero_add, Nat.add_zero, beq_self_eq_true, Bool.true_beq, Bool.false_beq, Bool.not_true, Bool.not_false, decide_true, decide_false, bindO, List.map_cons, List.map_nil, List.length_cons, List.length_nil, List.append_nil, List.nil_append, List.cons_append, List.isEmpty_nil, List.isEmpty_cons, Nat.reduceLeDiff, Int.reduceBEq, Int.reduceNeg, Nat.le_refl, hba, r1, r2, r3, r4, r6, r7, r8, r9]
theorem law_order (d1 d2 : D) (l k : List Int) (a b : Int) (h1 : ListD d1 l) (h2 : ListD d2 k) (hl : ∀ x ∈ l, Small x) (hk : ∀ x ∈ k, Small x) (ha : Small a) (hb : Small b) : Evly fun n => ∀ σ, T n 8 [d1, .int .i64 a, .int .i64 b, d2] σ = some (.ret ⟨false, .bool true⟩, σ) := by
  obtain ⟨v, hv⟩ : ∃ v, v = made l := ⟨_, rfl⟩
  obtain ⟨z, hz⟩ : ∃ z, z = made k := ⟨_, rfl⟩
  obtain ⟨x, hx⟩ : ∃ x, x = cut v a := ⟨_, rfl⟩
  obtain ⟨y, hy⟩ : ∃ y, y = cut v b := ⟨_, rfl⟩
  have fv : Fit v := hv ▸ fit_made l
  have fz : Fit z := hz ▸ fit_made k
  have fx : Fit x := hx ▸ fit_cut v fv a
  have fy : Fit y := hy ▸ fit_cut v fv b
  have tx : Tidy x := hx ▸ tidy_cut v (hv ▸ tidy_made l) a
  have ty : Tidy y := hy ▸ tidy_cut v (hv ▸ tidy_made l) b
  have fm : Fit vMore := .mk _ _ _ _ (by simp) (fun k h => by cases h)
  have r1 := made_run d1 l h1 hl
  have r2 := made_run d2 k h2 hk
  have r3 := pcut_run v fv a ha.2
  have r4 := pcut_run v fv b hb.2
  have r5 := pless_run x fx y
  have r6 := pless_run y fy x
  have r7 := pless_run y fy z
  have r8 := pless_run x fx z
  have r9 := psame_run x fx y
  have r10 := pless_run vMore fm z
  have r11 := pless_run z fz z
  have htr := less_trans x y z
  have han := less_anti x tx y ty
  rw [pairB_refl] at r11
  rw [show pairB more4 vMore z = true from by rw [pairB_eq]; rfl] at r10
  rw [← hx] at r3
  rw [← hy] at r4
  rw [← hv] at r1
  rw [← hz] at r2
  refine ((((r1.and r2).and (r3.and r4)).and ((r5.and r6).and (r7.and r8))).and ((r9.and r10).and (r11.and lives_run))).step 0 fun m _ hh σ => ?_
  obtain ⟨⟨⟨⟨r1, r2⟩, ⟨r3, r4⟩⟩, ⟨⟨r5, r6⟩, ⟨r7, r8⟩⟩⟩, ⟨⟨r9, r10⟩, ⟨r11, r12⟩⟩⟩ := hh
  have r1 := r1 σ
  have r2 := r2 σ
  have r3 := r3 σ
  have r4 := r4 σ
  have r5 := r5 σ
  have r6 := r6 σ
  have r7 := r7 σ
  have r8 := r8 σ
  have r9 := r9 σ
  have r10 := r10 σ
  have r11 := r11 σ
  have r12 := r12 σ
  rw [show dV vMore = .agg [.int .i64 4, .int .i64 0, .str [], .nils] from rfl] at r10
  rw [dV_eq v] at r1 r3 r4
  rw [dV_eq x] at r3 r5 r6 r8 r9
  rw [dV_eq y] at r4 r5 r6 r7 r9
  rw [dV_eq z] at r2 r7 r8 r10 r11
  rw [T_fun (af := a8) rfl rfl]
  cases e1 : pairB more4 x y with
  | false =>
    rw [e1] at r5
    simp only [a8, sy0, sy1, sy2, sy3, sy4, sy5, clearEnv, adel, mem, initEnv, initSlots, stepOp, wantedA, evalOp, callOf, panicOf, evalV, addr, opd, opds, aget, aset, adel1, lkill, readCells, nth, Env.put, Env.putV, Env.box, Env.bare, dropOwn, dropOwnS, binD, binBD, binBool, binInt, binStr, unD, AOpd.drop, Cell.of, AOp.kind, sameKind, assertD, eqlB, isUndef, takeC, unownAt, fits, layCells, putCells, putD, fillD, partsOf, optLo, optHi, allSize, Option.getD_some, Option.getD_none, runDefers, readRes, readRes1, readRess, Nat.reduceAdd, Nat.reduceSub, Nat.reduceMul, Nat.reduceBEq, Bool.false_and, Bool.true_and, Bool.and_true, Bool.and_false, Nat.zero_add, Nat.add_zero, beq_self_eq_true, Bool.true_beq, Bool.false_beq, Bool.not_true, Bool.not_false, decide_true, decide_false, bindO, List.map_cons, List.map_nil, List.length_cons, List.length_nil, List.append_nil, List.nil_append, List.cons_append, List.isEmpty_nil, List.isEmpty_cons, Nat.reduceLeDiff, Int.reduceBEq, Int.reduceNeg, Nat.le_refl, r1, r2, r3, r4, r5, r10, r11, r12]
  | true =>
    rw [e1] at r5 htr han
    cases e2 : pairB more4 y z with
    | false =>
      rw [e2] at r7
      cases e3 : pairB more4 y x with
      | false =>
        rw [e3] at r6
        simp only [a8, sy0, sy1, sy2, sy3, sy4, sy5, clearEnv, adel, mem, initEnv, initSlots, stepOp, wantedA, evalOp, callOf, panicOf, evalV, addr, opd, opds, aget, aset, adel1, lkill, readCells, nth, Env.put, Env.putV, Env.box, Env.bare, dropOwn, dropOwnS, binD, binBD, binBool, binInt, binStr, unD, AOpd.drop, Cell.of, AOp.kind, sameKind, assertD, eqlB, isUndef, takeC, unownAt, fits, layCells, putCells, putD, fillD, partsOf, optLo, optHi, allSize, Option.getD_some, Option.getD_none, runDefers, readRes, readRes1, readRess, Nat.reduceAdd, Nat.reduceSub, Nat.reduceMul, Nat.reduceBEq, Bool.false_and, Bool.true_and, Bool.and_true, Bool.and_false, Nat.zero_add, Nat.add_zero, beq_self_eq_true, Bool.true_beq, Bool.false_beq, Bool.not_true, Bool.not_false, decide_true, decide_false, bindO, List.map_cons, List.map_nil, List.length_cons, List.length_nil, List.append_nil, List.nil_append, List.cons_append, List.isEmpty_nil, List.isEmpty_cons, Nat.reduceLeDiff, Int.reduceBEq, Int.reduceNeg, Nat.le_refl, r1, r2, r3, r4, r5, r6, r7, r10, r11, r12]
      | true =>
        rw [e3] at r6
        rw [han rfl e3] at r9
        simp only [a8, sy0, sy1, sy2, sy3, sy4, sy5, clearEnv, adel, mem, initEnv, initSlots, stepOp, wantedA, evalOp, callOf, panicOf, evalV, addr, opd, opds, aget, aset, adel1, lkill, readCells, nth, Env.put, Env.putV, Env.box, Env.bare, dropOwn, dropOwnS, binD, binBD, binBool, binInt, binStr, unD, AOpd.drop, Cell.of, AOp.kind, sameKind, assertD, eqlB, isUndef, takeC, unownAt, fits, layCells, putCells, putD, fillD, partsOf, optLo, optHi, allSize, Option.getD_some, Option.getD_none, runDefers, readRes, readRes1, readRess, Nat.reduceAdd, Nat.reduceSub, Nat.reduceMul, Nat.reduceBEq, Bool.false_and, Bool.true_and, Bool.and_true, Bool.and_false, Nat.zero_add, Nat.add_zero, beq_self_eq_true, Bool.true_beq, Bool.false_beq, Bool.not_true, Bool.not_false, decide_true, decide_false, bindO, List.map_cons, List.map_nil, List.length_cons, List.length_nil, List.append_nil, List.nil_append, List.cons_append, List.isEmpty_nil, List.isEmpty_cons, Nat.reduceLeDiff, Int.reduceBEq, Int.reduceNeg, Nat.le_refl, r1, r2, r3, r4, r5, r6, r7, r9, r10, r11, r12]
    | true =>
      rw [e2] at r7
      rw [htr rfl e2] at r8
      cases e3 : pairB more4 y x with
      | false =>
        rw [e3] at r6
        simp only [a8, sy0, sy1, sy2, sy3, sy4, sy5, clearEnv, adel, mem, initEnv, initSlots, stepOp, wantedA, evalOp, callOf, panicOf, evalV, addr, opd, opds, aget, aset, adel1, lkill, readCells, nth, Env.put, Env.putV, Env.box, Env.bare, dropOwn, dropOwnS, binD, binBD, binBool, binInt, binStr, unD, AOpd.drop, Cell.of, AOp.kind, sameKind, assertD, eqlB, isUndef, takeC, unownAt, fits, layCells, putCells, putD, fillD, partsOf, optLo, optHi, allSize, Option.getD_some, Option.getD_none, runDefers, readRes, readRes1, readRess, Nat.reduceAdd, Nat.reduceSub, Nat.reduceMul, Nat.reduceBEq, Bool.false_and, Bool.true_and, Bool.and_true, Bool.and_false, Nat.zero_add, Nat.add_zero, beq_self_eq_true, Bool.true_beq, Bool.false_beq, Bool.not_true, Bool.not_false, decide_true, decide_false, bindO, List.map_cons, List.map_nil, List.length_cons, List.length_nil, List.append_nil, List.nil_append, List.cons_append, List.isEmpty_nil, List.isEmpty_cons, Nat.reduceLeDiff, Int.reduceBEq, Int.reduceNeg, Nat.le_refl, r1, r2, r3, r4, r5, r6, r7, r8, r10, r11, r12]
      | true =>
        rw [e3] at r6
        rw [han rfl e3] at r9
        simp only [a8, sy0, sy1, sy2, sy3, sy4, sy5, clearEnv, adel, mem, initEnv, initSlots, stepOp, wantedA, evalOp, callOf, panicOf, evalV, addr, opd, opds, aget, aset, adel1, lkill, readCells, nth, Env.put, Env.putV, Env.box, Env.bare, dropOwn, dropOwnS, binD, binBD, binBool, binInt, binStr, unD, AOpd.drop, Cell.of, AOp.kind, sameKind, assertD, eqlB, isUndef, takeC, unownAt, fits, layCells, putCells, putD, fillD, partsOf, optLo, optHi, allSize, Option.getD_some, Option.getD_none, runDefers, readRes, readRes1, readRess, Nat.reduceAdd, Nat.reduceSub, Nat.reduceMul, Nat.reduceBEq, Bool.false_and, Bool.true_and, Bool.and_true, Bool.and_false, Nat.zero_add, Nat.add_zero, beq_self_eq_true, Bool.true_beq, Bool.false_beq, Bool.not_true, Bool.not_false, decide_true, decide_false, bindO, List.map_cons, List.map_nil, List.length_cons, List.length_nil, List.append_nil, List.nil_append, List.cons_append, List.isEmpty_nil, List.isEmpty_cons, Nat.reduceLeDiff, Int.reduceBEq, Int.reduceNeg, Nat.le_refl, r1, r2, r3, r4, r5, r6, r7, r8, r9, r10, r11, r12]
end Go.Proofs.YtdoppkjoemlhjaaDoor.Sh

