/-
  Values made of numbers, spoilt; and the law of prints.
-/
import Derived.Test.YtdoppkjoemlhjaaDoorShGsP
import Derived.Test.YtdoppkjoemlhjaaDoorShMade
import Derived.Test.YtdoppkjoemlhjaaDoorShLaws
import Derived.Test.YtdoppkjoemlhjaaDoorShGd
set_option linter.unusedSimpArgs false
set_option linter.unusedVariables false
namespace Go.Proofs.YtdoppkjoemlhjaaDoor.Sh
open Go Go.Mx
def wrapS (v : V) : V := .mk 1 0 [83] [v]
def iterS (v : V) : Nat → V
  | 0 => v
  | i + 1 => wrapS (iterS v i)
def wild (v : V) (n : Int) : V :=
  ifB (n == 0) (.mk v.form v.n [110, 105, 108] v.kids) (ifB (n == 1) (.mk 0 v.n v.name v.kids) (ifB (n == 2) (.mk v.form (IntKind.i64.wrap (v.n + 1)) v.name v.kids) (ifB (n == 3) (.mk v.form v.n v.name (v.kids ++ [.mk 1 0 [75, 64] []])) (ifB (n == 4) (iterS v 38) (ifB (n == 5) (.mk 1 0 [84] [v, v, v, v, v, v, v, v, v]) v)))))
set_option maxRecDepth 10000
section
variable {C : CallF} {n : Nat} {v : V} {i : Nat} {σ : Store}
def zeroC : List Cell := [⟨false, .int .i64 0⟩, ⟨false, .int .i64 0⟩, ⟨false, .str []⟩, ⟨false, .nils⟩]
def E11 (v : V) (i : Nat) : Env := { slots := [(6, ⟨false, .int .i64 i⟩)], locs := [(4, (4, 0)), (5, (5, 0))], boxes := [(4, zeroC), (5, bx (iterS v i))], defers := [] }
theorem l11_step (h : i < 38) : exec C n a11_l0 (E11 v i) σ = some (.normal, E11 v (i + 1), σ) := by
  have hi : ((i : Int) < 38) := by omega
  have hb : bx (iterS v (i + 1)) = [⟨false, .int .i64 1⟩, ⟨false, .int .i64 0⟩, ⟨false, .str [83]⟩, ⟨false, .list kV [.agg [.int .i64 (iterS v i).form, .int .i64 (iterS v i).n, .str (iterS v i).name, dlist kV ((iterS v i).kids.map dV)]]⟩] := by
    show bx (wrapS (iterS v i)) = _
    unfold wrapS bx
    simp only [form_mk, n_mk, name_mk, kids_mk, List.map_cons, List.map_nil, dV_eq (iterS v i)]
    rfl
  simp only [a11_l0, E11, hb]
  simp only [bx, sy0, sy1, sy2, sy3, sy4, sy5, clearEnv, adel, mem, initEnv, initSlots, stepOp, wantedA, evalOp, callOf, panicOf, evalV, addr, opd, opds, aget, aset, adel1, lkill, readCells, nth, Env.put, Env.putV, Env.box, Env.bare, dropOwn, dropOwnS, binD, binBD, binBool, binInt, binStr, unD, AOpd.drop, Cell.of, AOp.kind, sameKind, assertD, eqlB, isUndef, takeC, unownAt, fits, layCells, putCells, putD, fillD, partsOf, optLo, optHi, allSize, Option.getD_some, Option.getD_none, runDefers, readRes, readRes1, readRess, Nat.reduceAdd, Nat.reduceSub, Nat.reduceMul, Nat.reduceBEq, Bool.false_and, Bool.true_and, Bool.and_true, Bool.and_false, Nat.zero_add, Nat.add_zero, beq_self_eq_true, Bool.true_beq, Bool.false_beq, Bool.not_true, Bool.not_false, decide_true, decide_false, bindO, List.map_cons, List.map_nil, List.length_cons, List.length_nil, List.append_nil, List.nil_append, List.cons_append, List.isEmpty_nil, List.isEmpty_cons, Nat.reduceLeDiff, Int.reduceBEq, Int.reduceNeg, Nat.le_refl, hi, wrap64_succ (i := i) (by omega)]
theorem l11_end : exec C n a11_l0 (E11 v 38) σ = some (.exit 1, { slots := [(6, ⟨false, .int .i64 38⟩), (34, ⟨false, .bool false⟩)], locs := [(4, (4, 0)), (5, (5, 0))], boxes := [(4, zeroC), (5, bx (iterS v 38))], defers := [] }, σ) := by
  have hi : ¬ (((38 : Nat) : Int) < 38) := by omega
  have h38 : (((38 : Nat) : Int)) = 38 := rfl
  simp only [a11_l0, E11, sy0, sy1, sy2, sy3, sy4, sy5, clearEnv, adel, mem, initEnv, initSlots, stepOp, wantedA, evalOp, callOf, panicOf, evalV, addr, opd, opds, aget, aset, adel1, lkill, readCells, nth, Env.put, Env.putV, Env.box, Env.bare, dropOwn, dropOwnS, binD, binBD, binBool, binInt, binStr, unD, AOpd.drop, Cell.of, AOp.kind, sameKind, assertD, eqlB, isUndef, takeC, unownAt, fits, layCells, putCells, putD, fillD, partsOf, optLo, optHi, allSize, Option.getD_some, Option.getD_none, runDefers, readRes, readRes1, readRess, Nat.reduceAdd, Nat.reduceSub, Nat.reduceMul, Nat.reduceBEq, Bool.false_and, Bool.true_and, Bool.and_true, Bool.and_false, Nat.zero_add, Nat.add_zero, beq_self_eq_true, Bool.true_beq, Bool.false_beq, Bool.not_true, Bool.not_false, decide_true, decide_false, bindO, List.map_cons, List.map_nil, List.length_cons, List.length_nil, List.append_nil, List.nil_append, List.cons_append, List.isEmpty_nil, List.isEmpty_cons, Nat.reduceLeDiff, Int.reduceBEq, Int.reduceNeg, Nat.le_refl, h38, hi, Int.lt_irrefl]
end
theorem wild_run (d : D) (xs : List Int) (hd : ListD d xs) (hxs : ∀ x ∈ xs, Small x) (n : Int) : Evly fun m => ∀ σ, T m 11 [d, .int .i64 n] σ = some (.ret ⟨false, dV (wild (made xs) n)⟩, σ) := by
  refine (made_run d xs hd hxs).step 40 fun m hm h1 σ => ?_
  have h1 := h1 σ
  have hfit := fit_made xs
  generalize made xs = v at *
  have hks : v.kids.length < 1048576 := by cases hfit with | mk f n s ks h hk => exact h
  rw [T_fun (af := a11) rfl rfl]
  rw [dV_eq] at h1 ⊢
  unfold wild
  cases e0 : n == 0 with
  | true => simp only [a11, sy0, sy1, sy2, sy3, sy4, sy5, clearEnv, adel, mem, initEnv, initSlots, stepOp, wantedA, evalOp, callOf, panicOf, evalV, addr, opd, opds, aget, aset, adel1, lkill, readCells, nth, Env.put, Env.putV, Env.box, Env.bare, dropOwn, dropOwnS, binD, binBD, binBool, binInt, binStr, unD, AOpd.drop, Cell.of, AOp.kind, sameKind, assertD, eqlB, isUndef, takeC, unownAt, fits, layCells, putCells, putD, fillD, partsOf, optLo, optHi, allSize, Option.getD_some, Option.getD_none, runDefers, readRes, readRes1, readRess, Nat.reduceAdd, Nat.reduceSub, Nat.reduceMul, Nat.reduceBEq, Bool.false_and, Bool.true_and, Bool.and_true, Bool.and_false, Nat.zero_add, Nat.add_zero, beq_self_eq_true, Bool.true_beq, Bool.false_beq, Bool.not_true, Bool.not_false, decide_true, decide_false, bindO, List.map_cons, List.map_nil, List.length_cons, List.length_nil, List.append_nil, List.nil_append, List.cons_append, List.isEmpty_nil, List.isEmpty_cons, Nat.reduceLeDiff, Int.reduceBEq, Int.reduceNeg, Nat.le_refl, h1, e0, form_mk, n_mk, name_mk, kids_mk]
  | false =>
  cases e1 : n == 1 with
  | true => simp only [a11, sy0, sy1, sy2, sy3, sy4, sy5, clearEnv, adel, mem, initEnv, initSlots, stepOp, wantedA, evalOp, callOf, panicOf, evalV, addr, opd, opds, aget, aset, adel1, lkill, readCells, nth, Env.put, Env.putV, Env.box, Env.bare, dropOwn, dropOwnS, binD, binBD, binBool, binInt, binStr, unD, AOpd.drop, Cell.of, AOp.kind, sameKind, assertD, eqlB, isUndef, takeC, unownAt, fits, layCells, putCells, putD, fillD, partsOf, optLo, optHi, allSize, Option.getD_some, Option.getD_none, runDefers, readRes, readRes1, readRess, Nat.reduceAdd, Nat.reduceSub, Nat.reduceMul, Nat.reduceBEq, Bool.false_and, Bool.true_and, Bool.and_true, Bool.and_false, Nat.zero_add, Nat.add_zero, beq_self_eq_true, Bool.true_beq, Bool.false_beq, Bool.not_true, Bool.not_false, decide_true, decide_false, bindO, List.map_cons, List.map_nil, List.length_cons, List.length_nil, List.append_nil, List.nil_append, List.cons_append, List.isEmpty_nil, List.isEmpty_cons, Nat.reduceLeDiff, Int.reduceBEq, Int.reduceNeg, Nat.le_refl, h1, e0, e1, form_mk, n_mk, name_mk, kids_mk]
  | false =>
  cases e2 : n == 2 with
  | true => simp only [a11, sy0, sy1, sy2, sy3, sy4, sy5, clearEnv, adel, mem, initEnv, initSlots, stepOp, wantedA, evalOp, callOf, panicOf, evalV, addr, opd, opds, aget, aset, adel1, lkill, readCells, nth, Env.put, Env.putV, Env.box, Env.bare, dropOwn, dropOwnS, binD, binBD, binBool, binInt, binStr, unD, AOpd.drop, Cell.of, AOp.kind, sameKind, assertD, eqlB, isUndef, takeC, unownAt, fits, layCells, putCells, putD, fillD, partsOf, optLo, optHi, allSize, Option.getD_some, Option.getD_none, runDefers, readRes, readRes1, readRess, Nat.reduceAdd, Nat.reduceSub, Nat.reduceMul, Nat.reduceBEq, Bool.false_and, Bool.true_and, Bool.and_true, Bool.and_false, Nat.zero_add, Nat.add_zero, beq_self_eq_true, Bool.true_beq, Bool.false_beq, Bool.not_true, Bool.not_false, decide_true, decide_false, bindO, List.map_cons, List.map_nil, List.length_cons, List.length_nil, List.append_nil, List.nil_append, List.cons_append, List.isEmpty_nil, List.isEmpty_cons, Nat.reduceLeDiff, Int.reduceBEq, Int.reduceNeg, Nat.le_refl, h1, e0, e1, e2, form_mk, n_mk, name_mk, kids_mk]
  | false =>
  cases e3 : n == 3 with
  | true =>
    have ha1 : appendD kV 56 ⟨false, .nils⟩ (dlist kV (v.kids.map dV)) = some ⟨true, dlist kV (v.kids.map dV)⟩ := append_nils (asList_dlist) (all_dV _) (by simpa using hks)
    have ha2 : appendD kV 56 ⟨true, dlist kV (v.kids.map dV)⟩ (.list kV [.agg [.int .i64 1, .int .i64 0, .str [75, 64], .nils]]) = some ⟨true, dlist kV ((v.kids ++ [V.mk 1 0 [75, 64] []]).map dV)⟩ := by
      have := append_V v.kids (.mk 1 0 [75, 64] []) hks
      rw [dV_eq] at this
      exact this
    simp only [a11, sy0, sy1, sy2, sy3, sy4, sy5, clearEnv, adel, mem, initEnv, initSlots, stepOp, wantedA, evalOp, callOf, panicOf, evalV, addr, opd, opds, aget, aset, adel1, lkill, readCells, nth, Env.put, Env.putV, Env.box, Env.bare, dropOwn, dropOwnS, binD, binBD, binBool, binInt, binStr, unD, AOpd.drop, Cell.of, AOp.kind, sameKind, assertD, eqlB, isUndef, takeC, unownAt, fits, layCells, putCells, putD, fillD, partsOf, optLo, optHi, allSize, Option.getD_some, Option.getD_none, runDefers, readRes, readRes1, readRess, Nat.reduceAdd, Nat.reduceSub, Nat.reduceMul, Nat.reduceBEq, Bool.false_and, Bool.true_and, Bool.and_true, Bool.and_false, Nat.zero_add, Nat.add_zero, beq_self_eq_true, Bool.true_beq, Bool.false_beq, Bool.not_true, Bool.not_false, decide_true, decide_false, bindO, List.map_cons, List.map_nil, List.length_cons, List.length_nil, List.append_nil, List.nil_append, List.cons_append, List.isEmpty_nil, List.isEmpty_cons, Nat.reduceLeDiff, Int.reduceBEq, Int.reduceNeg, Nat.le_refl, h1, e0, e1, e2, e3, form_mk, n_mk, name_mk, kids_mk, ha1, ha2]
  | false =>
  cases e4 : n == 4 with
  | true =>
    have hloop := loopN_run (body := exec (T m) m a11_l0) (E11 v) (fun _ => σ) 38 (r := _) (fun _ _ h => by cases h) (fun i hi => l11_step hi) l11_end 0 m (by omega) (by omega)
    have hz : iterS v 0 = v := rfl
    simp only [E11, zeroC, zeroI, hz, bx] at hloop
    simp only [a11, sy0, sy1, sy2, sy3, sy4, sy5, clearEnv, adel, mem, initEnv, initSlots, stepOp, wantedA, evalOp, callOf, panicOf, evalV, addr, opd, opds, aget, aset, adel1, lkill, readCells, nth, Env.put, Env.putV, Env.box, Env.bare, dropOwn, dropOwnS, binD, binBD, binBool, binInt, binStr, unD, AOpd.drop, Cell.of, AOp.kind, sameKind, assertD, eqlB, isUndef, takeC, unownAt, fits, layCells, putCells, putD, fillD, partsOf, optLo, optHi, allSize, Option.getD_some, Option.getD_none, runDefers, readRes, readRes1, readRess, Nat.reduceAdd, Nat.reduceSub, Nat.reduceMul, Nat.reduceBEq, Bool.false_and, Bool.true_and, Bool.and_true, Bool.and_false, Nat.zero_add, Nat.add_zero, beq_self_eq_true, Bool.true_beq, Bool.false_beq, Bool.not_true, Bool.not_false, decide_true, decide_false, bindO, List.map_cons, List.map_nil, List.length_cons, List.length_nil, List.append_nil, List.nil_append, List.cons_append, List.isEmpty_nil, List.isEmpty_cons, Nat.reduceLeDiff, Int.reduceBEq, Int.reduceNeg, Nat.le_refl, h1, e0, e1, e2, e3, e4, hloop]
  | false =>
  cases e5 : n == 5 with
  | true =>
    have hl : dlist kV ([v, v, v, v, v, v, v, v, v].map dV) = .list kV [.agg [.int .i64 v.form, .int .i64 v.n, .str v.name, dlist kV (v.kids.map dV)], .agg [.int .i64 v.form, .int .i64 v.n, .str v.name, dlist kV (v.kids.map dV)], .agg [.int .i64 v.form, .int .i64 v.n, .str v.name, dlist kV (v.kids.map dV)], .agg [.int .i64 v.form, .int .i64 v.n, .str v.name, dlist kV (v.kids.map dV)], .agg [.int .i64 v.form, .int .i64 v.n, .str v.name, dlist kV (v.kids.map dV)], .agg [.int .i64 v.form, .int .i64 v.n, .str v.name, dlist kV (v.kids.map dV)], .agg [.int .i64 v.form, .int .i64 v.n, .str v.name, dlist kV (v.kids.map dV)], .agg [.int .i64 v.form, .int .i64 v.n, .str v.name, dlist kV (v.kids.map dV)], .agg [.int .i64 v.form, .int .i64 v.n, .str v.name, dlist kV (v.kids.map dV)]] := by
      simp only [List.map_cons, List.map_nil, dV_eq v]
      rfl
    simp only [form_mk, n_mk, name_mk, kids_mk, ifB_true, ifB_false, hl]
    simp only [a11, sy0, sy1, sy2, sy3, sy4, sy5, clearEnv, adel, mem, initEnv, initSlots, stepOp, wantedA, evalOp, callOf, panicOf, evalV, addr, opd, opds, aget, aset, adel1, lkill, readCells, nth, Env.put, Env.putV, Env.box, Env.bare, dropOwn, dropOwnS, binD, binBD, binBool, binInt, binStr, unD, AOpd.drop, Cell.of, AOp.kind, sameKind, assertD, eqlB, isUndef, takeC, unownAt, fits, layCells, putCells, putD, fillD, partsOf, optLo, optHi, allSize, Option.getD_some, Option.getD_none, runDefers, readRes, readRes1, readRess, Nat.reduceAdd, Nat.reduceSub, Nat.reduceMul, Nat.reduceBEq, Bool.false_and, Bool.true_and, Bool.and_true, Bool.and_false, Nat.zero_add, Nat.add_zero, beq_self_eq_true, Bool.true_beq, Bool.false_beq, Bool.not_true, Bool.not_false, decide_true, decide_false, bindO, List.map_cons, List.map_nil, List.length_cons, List.length_nil, List.append_nil, List.nil_append, List.cons_append, List.isEmpty_nil, List.isEmpty_cons, Nat.reduceLeDiff, Int.reduceBEq, Int.reduceNeg, Nat.le_refl, h1, e0, e1, e2, e3, e4, e5]
  | false => simp only [a11, sy0, sy1, sy2, sy3, sy4, sy5, clearEnv, adel, mem, initEnv, initSlots, stepOp, wantedA, evalOp, callOf, panicOf, evalV, addr, opd, opds, aget, aset, adel1, lkill, readCells, nth, Env.put, Env.putV, Env.box, Env.bare, dropOwn, dropOwnS, binD, binBD, binBool, binInt, binStr, unD, AOpd.drop, Cell.of, AOp.kind, sameKind, assertD, eqlB, isUndef, takeC, unownAt, fits, layCells, putCells, putD, fillD, partsOf, optLo, optHi, allSize, Option.getD_some, Option.getD_none, runDefers, readRes, readRes1, readRess, Nat.reduceAdd, Nat.reduceSub, Nat.reduceMul, Nat.reduceBEq, Bool.false_and, Bool.true_and, Bool.and_true, Bool.and_false, Nat.zero_add, Nat.add_zero, beq_self_eq_true, Bool.true_beq, Bool.false_beq, Bool.not_true, Bool.not_false, decide_true, decide_false, bindO, List.map_cons, List.map_nil, List.length_cons, List.length_nil, List.append_nil, List.nil_append, List.cons_append, List.isEmpty_nil, List.isEmpty_cons, Nat.reduceLeDiff, Int.reduceBEq, Int.reduceNeg, Nat.le_refl, h1, e0, e1, e2, e3, e4, e5]
/-! weights and numbers -/
theorem nameOf_len : ∀ q, (nameOf q).length ≤ 5
  | 0 | 1 | 2 | 3 | 4 | _ + 5 => by simp [nameOf]
theorem wts_step (done : List V) (x : Int) : wts (madeStep done x) ≤ wts done + 40 := by
  unfold madeStep stepBy
  generalize (posOf x / 32 % 6).toNat = q
  have hq := nameOf_len q
  generalize done.length - min (posOf x / 8 % 4).toNat done.length = i
  have htd := wts_take_drop done i
  split <;> rw [wts_append] <;> simp only [wts, wt, List.length_nil] <;> omega
theorem wts_madeL (xs : List Int) : ∀ i, wts (madeL xs i) ≤ 30 + 40 * i
  | 0 => by simp [madeL, wts, wt]
  | i + 1 => by
    have ih := wts_madeL xs i
    by_cases h : i < xs.length
    · rw [madeL_succ xs i h]
      have := wts_step (madeL xs i) xs[i]
      omega
    · have : madeL xs (i + 1) = madeL xs i := by
        unfold madeL
        rw [List.take_of_length_le (by omega), List.take_of_length_le (by omega)]
      rw [this]
      omega
theorem wt_made (xs : List Int) : wt (made xs) ≤ 2430 := by
  have h1 := wts_madeL xs (min xs.length 60)
  have h2 := wt_mem (getLastD_mem (madeL xs (min xs.length 60)) (.mk 4 0 [] []) (madeL_len _ _).1)
  unfold made
  omega
theorem nums_leaf {f n : Int} (h : Small' n) : Nums (.mk f n [] []) := .mk _ _ _ _ h (fun k h => by cases h)
theorem nums_step (done : List V) (x : Int) (hx : Small x) (h : ∀ v ∈ done, Nums v) : ∀ v ∈ madeStep done x, Nums v := by
  have hz : Small' 0 := ⟨by omega, by omega⟩
  have hd := small_tdiv hx
  unfold madeStep stepBy
  intro v hv
  split at hv
  all_goals
    rw [List.mem_append] at hv
    rcases hv with hv | hv
  · exact h v hv
  · rw [List.mem_singleton.1 hv]; exact nums_leaf hz
  · exact h v hv
  · rw [List.mem_singleton.1 hv]; exact nums_leaf hz
  · exact h v hv
  · rw [List.mem_singleton.1 hv]; exact nums_leaf hd
  · exact h v hv
  · rw [List.mem_singleton.1 hv]; exact nums_leaf hd
  · exact h v (List.mem_of_mem_take hv)
  · rw [List.mem_singleton.1 hv]
    exact .mk _ _ _ _ hz (fun k hk => h k (List.mem_of_mem_drop hk))
theorem nums_madeL (xs : List Int) (hxs : ∀ x ∈ xs, Small x) : ∀ i, ∀ v ∈ madeL xs i, Nums v
  | 0 => by
    intro v hv
    simp [madeL] at hv
    rw [hv]
    exact nums_leaf ⟨by omega, by omega⟩
  | i + 1 => by
    have ih := nums_madeL xs hxs i
    by_cases h : i < xs.length
    · rw [madeL_succ xs i h]
      exact nums_step _ _ (hxs _ (List.getElem_mem h)) ih
    · have : madeL xs (i + 1) = madeL xs i := by
        unfold madeL
        rw [List.take_of_length_le (by omega), List.take_of_length_le (by omega)]
      rw [this]
      exact ih
theorem nums_made (xs : List Int) (hxs : ∀ x ∈ xs, Small x) : Nums (made xs) := nums_madeL xs hxs _ _ (getLastD_mem _ _ (madeL_len _ _).1)
theorem wrap_small (z : Int) : Small' (IntKind.i64.wrap z) := by
  unfold Small'
  simp [IntKind.wrap, IntKind.bits, IntKind.signed]
  omega
theorem wt_iterS (v : V) : ∀ i, wt (iterS v i) = 31 * i + wt v
  | 0 => by simp [iterS]
  | i + 1 => by
    have := wt_iterS v i
    simp only [iterS, wrapS, wt, wts, List.length_cons, List.length_nil]
    omega
theorem nums_iterS {v : V} (h : Nums v) : ∀ i, Nums (iterS v i)
  | 0 => h
  | i + 1 => .mk _ _ _ _ ⟨by omega, by omega⟩ (fun k hk => by rw [List.mem_singleton.1 hk]; exact nums_iterS h i)
theorem wild_ok (v : V) (n : Int) (hn : Nums v) (hw : wt v ≤ 2430) : Nums (wild v n) ∧ wt (wild v n) < 1000000 := by
  have hi := nums_iterS hn 38
  have hwi := wt_iterS v 38
  have hz : Small' 0 := ⟨by omega, by omega⟩
  cases v with
  | mk f m s ks =>
    cases hn with
    | mk _ _ _ _ hm hk =>
      have hv : Nums (.mk f m s ks) := .mk _ _ _ _ hm hk
      have hw' := hw
      rw [wt] at hw'
      unfold wild
      simp only [form_mk, n_mk, name_mk, kids_mk]
      cases n == 0 with
      | true => exact ⟨.mk _ _ _ _ hm hk, by simp only [ifB_true, wt, List.length_cons, List.length_nil]; omega⟩
      | false =>
      cases n == 1 with
      | true => exact ⟨.mk _ _ _ _ hm hk, by simp only [ifB_true, ifB_false, wt]; omega⟩
      | false =>
      cases n == 2 with
      | true => exact ⟨.mk _ _ _ _ (wrap_small _) hk, by simp only [ifB_true, ifB_false, wt]; omega⟩
      | false =>
      cases n == 3 with
      | true =>
        refine ⟨.mk _ _ _ _ hm fun k hk' => ?_, by simp only [ifB_true, ifB_false, wt, wts_append, wts, List.length_cons, List.length_nil]; omega⟩
        rcases List.mem_append.1 hk' with h | h
        · exact hk k h
        · rw [List.mem_singleton.1 h]; exact .mk _ _ _ _ hz (fun k h => by cases h)
      | false =>
      cases n == 4 with
      | true => exact ⟨hi, by simp only [ifB_true, ifB_false]; omega⟩
      | false =>
      cases n == 5 with
      | true =>
        refine ⟨.mk _ _ _ _ hz fun k hk' => ?_, by simp only [ifB_true, ifB_false, wt, wts, List.length_cons, List.length_nil]; omega⟩
        simp only [List.mem_cons, List.not_mem_nil, or_false, or_self] at hk'
        rw [hk']
        exact hv
      | false => exact ⟨hv, by simp only [ifB_false]; omega⟩
theorem law_prints (d : D) (l : List Int) (n : Int) (hd : ListD d l) (hl : ∀ x ∈ l, Small x) (hn : Small n) : Evly fun m => ∀ σ, T m 3 [d, .int .i64 n] σ = some (.ret ⟨false, .bool true⟩, σ) := by
  obtain ⟨v, hv⟩ : ∃ v, v = made l := ⟨_, rfl⟩
  obtain ⟨w, hw⟩ : ∃ w, w = wild v n := ⟨_, rfl⟩
  have nv : Nums v := hv ▸ nums_made l hl
  have wv : wt v ≤ 2430 := hv ▸ wt_made l
  obtain ⟨nw, ww⟩ : Nums w ∧ wt w < 1000000 := hw ▸ wild_ok v n nv wv
  have r1 := made_run d l hd hl
  have r2 := wild_run d l hd hl n
  have r4 := rprint_run v nv (by omega)
  have r5 := rprint_run w nw ww
  rw [← hv] at r1 r2
  rw [← hw] at r2
  refine (((r1.and r2).and pprint_run).and ((r4.and r5).and lives_run)).step 0 fun m _ hh σ => ?_
  obtain ⟨⟨⟨r1, r2⟩, r3⟩, ⟨⟨r4, r5⟩, r6⟩⟩ := hh
  have r1 := r1 σ
  have r2 := r2 σ
  have r3v := r3 v (printable_of nv (by omega)) σ
  have r3w := r3 w (printable_of nw ww) σ
  have r4 := r4 σ
  have r5 := r5 σ
  have r6 := r6 σ
  rw [print_same] at r3v r3w
  generalize rprint v = b1 at *
  generalize rprint w = b2 at *
  rw [dV_eq v] at r1 r3v r4
  rw [dV_eq w] at r2 r3w r5
  rw [T_fun (af := a3) rfl rfl]
  simp only [a3, sy0, sy1, sy2, sy3, sy4, sy5, clearEnv, adel, mem, initEnv, initSlots, stepOp, wantedA, evalOp, callOf, panicOf, evalV, addr, opd, opds, aget, aset, adel1, lkill, readCells, nth, Env.put, Env.putV, Env.box, Env.bare, dropOwn, dropOwnS, binD, binBD, binBool, binInt, binStr, unD, AOpd.drop, Cell.of, AOp.kind, sameKind, assertD, eqlB, isUndef, takeC, unownAt, fits, layCells, putCells, putD, fillD, partsOf, optLo, optHi, allSize, Option.getD_some, Option.getD_none, runDefers, readRes, readRes1, readRess, Nat.reduceAdd, Nat.reduceSub, Nat.reduceMul, Nat.reduceBEq, Bool.false_and, Bool.true_and, Bool.and_true, Bool.and_false, Nat.zero_add, Nat.add_zero, beq_self_eq_true, Bool.true_beq, Bool.false_beq, Bool.not_true, Bool.not_false, decide_true, decide_false, bindO, List.map_cons, List.map_nil, List.length_cons, List.length_nil, List.append_nil, List.nil_append, List.cons_append, List.isEmpty_nil, List.isEmpty_cons, Nat.reduceLeDiff, Int.reduceBEq, Int.reduceNeg, Nat.le_refl, r1, r2, r3v, r3w, r4, r5, r6]
end Go.Proofs.YtdoppkjoemlhjaaDoor.Sh

/-
  The law of what is printed and read.
-/
namespace Go.Proofs.YtdoppkjoemlhjaaDoor.Sh
open Go Go.Mx
mutual
theorem same_eq : ∀ a b : V, pairB none4 a b = true → a = b
  | .mk f n s ks, b, h => by
    rw [pairB] at h
    simp only [none4, Bool.false_or, Bool.and_eq_true, beq_iff_eq] at h
    obtain ⟨⟨⟨⟨h1, h2⟩, h3⟩, h4⟩, h5⟩ := h
    have h6 := sames_eq ks b.kids h4 h5
    rw [V.eta b, ← h1, ← h2, ← h3, ← h6]
theorem sames_eq : ∀ a b : List V, a.length = b.length → pairBs none4 a b = true → a = b
  | [], [], _, _ => rfl
  | [], _ :: _, h, _ => by simp at h
  | _ :: _, [], h, _ => by simp at h
  | a :: x, b :: y, hl, h => by
    rw [pairBs, Bool.and_eq_true] at h
    rw [same_eq a b h.1, sames_eq x y (by simpa using hl) h.2]
end
set_option maxRecDepth 10000
theorem print_told {v : V} (h : told v 40 = true) : pprint v ≠ [] := by
  unfold pprint
  rw [h, ifB_true]
  exact ptext_ne v false 40 h
theorem print_untold {v : V} (h : told v 40 = false) : pprint v = [] := by
  unfold pprint
  rw [h, ifB_false]
theorem same_print (v w : V) (hv : Readable v) (nw : Nums w) (ww : wt w < 1000000) : (pprint v == pprint w) = pairB none4 v w := by
  cases hs : pairB none4 v w with
  | true => rw [same_eq v w hs]; simp
  | false =>
    cases he : pprint v == pprint w with
    | false => rfl
    | true =>
      have he : pprint v = pprint w := by simpa using he
      exfalso
      cases htw : told w 40 with
      | false => rw [print_untold htw] at he; exact print_told hv.2.2 he
      | true =>
        have := print_inj v w hv ⟨nw, ww, htw⟩ he
        rw [this, pairB_refl] at hs
        cases hs
theorem law_round (d1 d2 : D) (l k : List Int) (h1 : ListD d1 l) (h2 : ListD d2 k) (hl : ∀ x ∈ l, Small x) (hk : ∀ x ∈ k, Small x) : Evly fun m => ∀ σ, T m 5 [d1, d2] σ = some (.ret ⟨false, .bool true⟩, σ) := by
  obtain ⟨v, hv⟩ : ∃ v, v = made l := ⟨_, rfl⟩
  obtain ⟨w, hw⟩ : ∃ w, w = made k := ⟨_, rfl⟩
  have nv : Nums v := hv ▸ nums_made l hl
  have wv : wt v ≤ 2430 := hv ▸ wt_made l
  have nw : Nums w := hw ▸ nums_made k hk
  have ww : wt w ≤ 2430 := hw ▸ wt_made k
  have fv := fit_wt v (by omega)
  have r1 := made_run d1 l h1 hl
  have r2 := made_run d2 k h2 hk
  have r3 := may_run v (by omega)
  have r4 := same_run v fv w
  have r5 := psame_run v fv v
  rw [pairB_refl] at r5
  rw [← hv] at r1
  rw [← hw] at r2
  refine (((r1.and r2).and (r3.and r4)).and ((r5.and pprint_run).and (pread_run.and lives_run))).step 0 fun m _ hh σ => ?_
  obtain ⟨⟨⟨r1, r2⟩, ⟨r3, r4⟩⟩, ⟨⟨r5, r6⟩, ⟨r7, r8⟩⟩⟩ := hh
  have r1 := r1 σ
  have r2 := r2 σ
  have r3 := r3 σ
  have r4 := r4 σ
  have r5 := r5 σ
  have r6v := r6 v (printable_of nv (by omega)) σ
  have r6w := r6 w (printable_of nw (by omega)) σ
  have r8 := r8 σ
  rw [T_fun (af := a5) rfl rfl]
  cases ht : told v 40 with
  | false =>
    have hm : may v = false := by unfold may; rw [← told_may]; exact ht
    rw [hm] at r3
    rw [print_untold ht] at r6v
    rw [dV_eq v] at r1 r3 r6v
    rw [dV_eq w] at r2
    simp only [a5, sy0, sy1, sy2, sy3, sy4, sy5, clearEnv, adel, mem, initEnv, initSlots, stepOp, wantedA, evalOp, callOf, panicOf, evalV, addr, opd, opds, aget, aset, adel1, lkill, readCells, nth, Env.put, Env.putV, Env.box, Env.bare, dropOwn, dropOwnS, binD, binBD, binBool, binInt, binStr, unD, AOpd.drop, Cell.of, AOp.kind, sameKind, assertD, eqlB, isUndef, takeC, unownAt, fits, layCells, putCells, putD, fillD, partsOf, optLo, optHi, allSize, Option.getD_some, Option.getD_none, runDefers, readRes, readRes1, readRess, Nat.reduceAdd, Nat.reduceSub, Nat.reduceMul, Nat.reduceBEq, Bool.false_and, Bool.true_and, Bool.and_true, Bool.and_false, Nat.zero_add, Nat.add_zero, beq_self_eq_true, Bool.true_beq, Bool.false_beq, Bool.not_true, Bool.not_false, decide_true, decide_false, bindO, List.map_cons, List.map_nil, List.length_cons, List.length_nil, List.append_nil, List.nil_append, List.cons_append, List.isEmpty_nil, List.isEmpty_cons, Nat.reduceLeDiff, Int.reduceBEq, Int.reduceNeg, Nat.le_refl, r1, r2, r3, r6v, r8]
  | true =>
    have hr : Readable v := ⟨nv, by omega, ht⟩
    have r7 := r7 v hr σ
    have hne : (pprint v == []) = false := by simpa using print_told ht
    rw [← same_print v w hr nw (by omega)] at r4
    generalize pprint v = s at *
    generalize pprint w = t at *
    rw [dV_eq v] at r1 r4 r5 r6v r7
    rw [dV_eq w] at r2 r4 r6w
    simp only [a5, sy0, sy1, sy2, sy3, sy4, sy5, clearEnv, adel, mem, initEnv, initSlots, stepOp, wantedA, evalOp, callOf, panicOf, evalV, addr, opd, opds, aget, aset, adel1, lkill, readCells, nth, Env.put, Env.putV, Env.box, Env.bare, dropOwn, dropOwnS, binD, binBD, binBool, binInt, binStr, unD, AOpd.drop, Cell.of, AOp.kind, sameKind, assertD, eqlB, isUndef, takeC, unownAt, fits, layCells, putCells, putD, fillD, partsOf, optLo, optHi, allSize, Option.getD_some, Option.getD_none, runDefers, readRes, readRes1, readRess, Nat.reduceAdd, Nat.reduceSub, Nat.reduceMul, Nat.reduceBEq, Bool.false_and, Bool.true_and, Bool.and_true, Bool.and_false, Nat.zero_add, Nat.add_zero, beq_self_eq_true, Bool.true_beq, Bool.false_beq, Bool.not_true, Bool.not_false, decide_true, decide_false, bindO, List.map_cons, List.map_nil, List.length_cons, List.length_nil, List.append_nil, List.nil_append, List.cons_append, List.isEmpty_nil, List.isEmpty_cons, Nat.reduceLeDiff, Int.reduceBEq, Int.reduceNeg, Nat.le_refl, hne, r1, r2, r4, r5, r6v, r6w, r7, r8]
end Go.Proofs.YtdoppkjoemlhjaaDoor.Sh

/-
  The document's reader: guess, Read; and the law of what is read.
-/
namespace Go.Proofs.YtdoppkjoemlhjaaDoor.Sh
open Go Go.Mx
set_option maxRecDepth 10000
section
variable {C : CallF} {n : Nat} {l : List (List UInt8)} {d : Int} {f x : Int} {s : List UInt8} {ks : List V} {i : Nat} {σ : Store}
def bxo (f x : Int) (s : List UInt8) (ks : List V) : List Cell := [⟨false, .int .i64 f⟩, ⟨false, .int .i64 x⟩, ⟨false, .str s⟩, ⟨ow ks.length, dlist kV (ks.map dV)⟩]
def E37 (l : List (List UInt8)) (d : Int) (f x : Int) (s : List UInt8) (ks : List V) (i : Nat) : Env := { slots := [(1, ⟨false, .int .i64 d⟩), (6, ⟨false, dlist kStr (l.map D.str)⟩), (11, ⟨false, .int .i64 i⟩)], locs := [(4, 4, 0), (10, 10, 0)], boxes := [(4, zeroV), (10, bxo f x s ks)], defers := [] }
theorem l37_end (h : l.length ≤ i) : exec C n a37_l0 (E37 l d f x s ks i) σ = some (.exit 0, { slots := [(1, ⟨false, .int .i64 d⟩), (6, ⟨false, dlist kStr (l.map D.str)⟩), (11, ⟨false, .int .i64 i⟩), (59, ⟨false, .bool false⟩)], locs := [(4, 4, 0), (10, 10, 0)], boxes := [(4, zeroV), (10, bxo f x s ks)], defers := [] }, σ) := by
  have h1 : ¬ ((i : Int) < (l.length : Int)) := by omega
  simp only [a37_l0, E37, sy0, sy1, sy2, sy3, sy4, sy5, clearEnv, adel, mem, initEnv, initSlots, stepOp, wantedA, evalOp, callOf, panicOf, evalV, addr, opd, opds, aget, aset, adel1, lkill, readCells, nth, Env.put, Env.putV, Env.box, Env.bare, dropOwn, dropOwnS, binD, binBD, binBool, binInt, binStr, unD, AOpd.drop, Cell.of, AOp.kind, sameKind, assertD, eqlB, isUndef, takeC, unownAt, fits, layCells, putCells, putD, fillD, partsOf, optLo, optHi, allSize, Option.getD_some, Option.getD_none, runDefers, readRes, readRes1, readRess, Nat.reduceAdd, Nat.reduceSub, Nat.reduceMul, Nat.reduceBEq, Bool.false_and, Bool.true_and, Bool.and_true, Bool.and_false, Nat.zero_add, Nat.add_zero, beq_self_eq_true, Bool.true_beq, Bool.false_beq, Bool.not_true, Bool.not_false, decide_true, decide_false, bindO, List.map_cons, List.map_nil, List.length_cons, List.length_nil, List.append_nil, List.nil_append, List.cons_append, List.isEmpty_nil, List.isEmpty_cons, Nat.reduceLeDiff, Int.reduceBEq, Int.reduceNeg, Nat.le_refl, List.length_map, h1]
theorem strs_row (h : i < l.length) : (dlist kStr (l.map D.str)).row? = some (kStr, l.map D.str) := row?_dlist (by
  intro e
  have := congrArg List.length e
  simp at this
  rw [this] at h
  simp at h)
theorem strs_nth (h : i < l.length) : nth (l.map D.str) i = some (.str l[i]) := by
  rw [nth_map, nth_get _ _ h]
  rfl
theorem bare_code (p : List UInt8) (hp : p.length < 1000000) : (bare p = p ∧ (¬ (1 < p.length) ∨ (∃ c r, p = c :: r ∧ c ≠ 40) ∨ (∃ c r k, p = c :: r ∧ nth p (p.length - 1) = some k ∧ k ≠ 41))) ∨ (1 < p.length ∧ (∃ r, p = 40 :: r) ∧ nth p (p.length - 1) = some 41 ∧ sliceStr p 1 (some (p.length - 1)) = some (.str (bare p))) := by
  unfold bare
  by_cases h1 : 1 < p.length
  · cases p with
    | nil => simp at h1
    | cons c r =>
      have hl : (c :: r).getLast? = nth (c :: r) ((c :: r).length - 1) := by rw [List.getLast?_eq_getElem?, nth_eq]
      by_cases hc : c = 40
      · cases hk : nth (c :: r) ((c :: r).length - 1) with
        | none =>
          rw [nth_eq] at hk
          simp at hk
        | some k =>
          rw [hl, hk]
          by_cases hk2 : k = 41
          · right
            subst hc hk2
            refine ⟨h1, ⟨r, rfl⟩, rfl, ?_⟩
            rw [if_pos ⟨h1, rfl, rfl⟩, slice_mid (by omega) (by omega)]
            congr 3
          · left
            rw [if_neg (fun h => hk2 (by simpa using h.2.2))]
            exact ⟨rfl, .inr (.inr ⟨c, r, k, rfl, rfl, hk2⟩)⟩
      · left
        rw [if_neg (fun h => hc (by simpa using h.2.1))]
        exact ⟨rfl, .inr (.inl ⟨c, r, rfl, hc⟩)⟩
  · left
    rw [if_neg (fun h => h1 h.1)]
    exact ⟨rfl, .inl h1⟩
theorem l37_step (hi : i < l.length) (hl : l.length < 1000000) (hk : ks.length + 1 < 1048576) (hp : l[i].length < 1000000) (hd1 : -1000 < d) (hd2 : d < 1000) (k : V) (hc : C 37 [.str (bare l[i]), .int .i64 (d - 1)] σ = some (.ret ⟨false, .tup [dV k, .bool true]⟩, σ)) :
    exec C n a37_l0 (E37 l d f x s ks i) σ = some (.normal, E37 l d f x s (ks ++ [k]) (i + 1), σ) := by
  have h1 : ((i : Int) < (l.length : Int)) := by omega
  have hr := strs_row hi
  have hn := strs_nth hi
  have hw := wrap64_succ (i := i) (by omega)
  have hwd : IntKind.i64.wrap (d - 1) = d - 1 := wrap64 (by omega) (by omega)
  have ha := app_end ks k hk
  rw [dV_eq k] at ha hc
  generalize l[i] = p at *
  rcases bare_code p hp with ⟨hb, hor⟩ | ⟨h2, ⟨r, hr2⟩, h3, h4⟩
  · rw [hb] at hc
    by_cases h2 : 1 < p.length
    · have h2' : (((p.length : Nat) : Int) > 1) := by omega
      rcases hor with h3 | ⟨c, r, h3, h4⟩ | ⟨c, r, k', h3, h4, h5⟩
      · exact absurd h2 h3
      · have hn0 : nth p 0 = some c := by rw [h3]; rfl
        have h40 := eqb40 c
        rw [decide_eq_false h4] at h40
        simp only [a37_l0, E37, bxo, sy0, sy1, sy2, sy3, sy4, sy5, clearEnv, adel, mem, initEnv, initSlots, stepOp, wantedA, evalOp, callOf, panicOf, evalV, addr, opd, opds, aget, aset, adel1, lkill, readCells, nth, Env.put, Env.putV, Env.box, Env.bare, dropOwn, dropOwnS, binD, binBD, binBool, binInt, binStr, unD, AOpd.drop, Cell.of, AOp.kind, sameKind, assertD, eqlB, isUndef, takeC, unownAt, fits, layCells, putCells, putD, fillD, partsOf, optLo, optHi, allSize, Option.getD_some, Option.getD_none, runDefers, readRes, readRes1, readRess, Nat.reduceAdd, Nat.reduceSub, Nat.reduceMul, Nat.reduceBEq, Bool.false_and, Bool.true_and, Bool.and_true, Bool.and_false, Nat.zero_add, Nat.add_zero, beq_self_eq_true, Bool.true_beq, Bool.false_beq, Bool.not_true, Bool.not_false, decide_true, decide_false, bindO, List.map_cons, List.map_nil, List.length_cons, List.length_nil, List.append_nil, List.nil_append, List.cons_append, List.isEmpty_nil, List.isEmpty_cons, Nat.reduceLeDiff, Int.reduceBEq, Int.reduceNeg, Nat.le_refl, List.length_map, h1, hr, hn, h2', hn0, h40, hwd, hc, ha, hw]
      · have hn0 : nth p 0 = some c := by rw [h3]; rfl
        have h40 := eqb40 c
        have h41 := eqb41 k'
        rw [decide_eq_false h5] at h41
        have hwl : IntKind.i64.wrap (((p.length : Nat) : Int) - 1) = ((p.length - 1 : Nat) : Int) := by rw [wrap64 (by omega) (by omega)]; omega
        cases hc40 : decide (c = 40) with
        | true =>
          rw [hc40] at h40
          simp only [a37_l0, E37, bxo, sy0, sy1, sy2, sy3, sy4, sy5, clearEnv, adel, mem, initEnv, initSlots, stepOp, wantedA, evalOp, callOf, panicOf, evalV, addr, opd, opds, aget, aset, adel1, lkill, readCells, nth, Env.put, Env.putV, Env.box, Env.bare, dropOwn, dropOwnS, binD, binBD, binBool, binInt, binStr, unD, AOpd.drop, Cell.of, AOp.kind, sameKind, assertD, eqlB, isUndef, takeC, unownAt, fits, layCells, putCells, putD, fillD, partsOf, optLo, optHi, allSize, Option.getD_some, Option.getD_none, runDefers, readRes, readRes1, readRess, Nat.reduceAdd, Nat.reduceSub, Nat.reduceMul, Nat.reduceBEq, Bool.false_and, Bool.true_and, Bool.and_true, Bool.and_false, Nat.zero_add, Nat.add_zero, beq_self_eq_true, Bool.true_beq, Bool.false_beq, Bool.not_true, Bool.not_false, decide_true, decide_false, bindO, List.map_cons, List.map_nil, List.length_cons, List.length_nil, List.append_nil, List.nil_append, List.cons_append, List.isEmpty_nil, List.isEmpty_cons, Nat.reduceLeDiff, Int.reduceBEq, Int.reduceNeg, Nat.le_refl, List.length_map, h1, hr, hn, h2', hn0, h40, h41, hwl, h4, hwd, hc, ha, hw]
        | false =>
          rw [hc40] at h40
          simp only [a37_l0, E37, bxo, sy0, sy1, sy2, sy3, sy4, sy5, clearEnv, adel, mem, initEnv, initSlots, stepOp, wantedA, evalOp, callOf, panicOf, evalV, addr, opd, opds, aget, aset, adel1, lkill, readCells, nth, Env.put, Env.putV, Env.box, Env.bare, dropOwn, dropOwnS, binD, binBD, binBool, binInt, binStr, unD, AOpd.drop, Cell.of, AOp.kind, sameKind, assertD, eqlB, isUndef, takeC, unownAt, fits, layCells, putCells, putD, fillD, partsOf, optLo, optHi, allSize, Option.getD_some, Option.getD_none, runDefers, readRes, readRes1, readRess, Nat.reduceAdd, Nat.reduceSub, Nat.reduceMul, Nat.reduceBEq, Bool.false_and, Bool.true_and, Bool.and_true, Bool.and_false, Nat.zero_add, Nat.add_zero, beq_self_eq_true, Bool.true_beq, Bool.false_beq, Bool.not_true, Bool.not_false, decide_true, decide_false, bindO, List.map_cons, List.map_nil, List.length_cons, List.length_nil, List.append_nil, List.nil_append, List.cons_append, List.isEmpty_nil, List.isEmpty_cons, Nat.reduceLeDiff, Int.reduceBEq, Int.reduceNeg, Nat.le_refl, List.length_map, h1, hr, hn, h2', hn0, h40, h41, hwl, h4, hwd, hc, ha, hw]
    · have h2' : ¬ (((p.length : Nat) : Int) > 1) := by omega
      simp only [a37_l0, E37, bxo, sy0, sy1, sy2, sy3, sy4, sy5, clearEnv, adel, mem, initEnv, initSlots, stepOp, wantedA, evalOp, callOf, panicOf, evalV, addr, opd, opds, aget, aset, adel1, lkill, readCells, nth, Env.put, Env.putV, Env.box, Env.bare, dropOwn, dropOwnS, binD, binBD, binBool, binInt, binStr, unD, AOpd.drop, Cell.of, AOp.kind, sameKind, assertD, eqlB, isUndef, takeC, unownAt, fits, layCells, putCells, putD, fillD, partsOf, optLo, optHi, allSize, Option.getD_some, Option.getD_none, runDefers, readRes, readRes1, readRess, Nat.reduceAdd, Nat.reduceSub, Nat.reduceMul, Nat.reduceBEq, Bool.false_and, Bool.true_and, Bool.and_true, Bool.and_false, Nat.zero_add, Nat.add_zero, beq_self_eq_true, Bool.true_beq, Bool.false_beq, Bool.not_true, Bool.not_false, decide_true, decide_false, bindO, List.map_cons, List.map_nil, List.length_cons, List.length_nil, List.append_nil, List.nil_append, List.cons_append, List.isEmpty_nil, List.isEmpty_cons, Nat.reduceLeDiff, Int.reduceBEq, Int.reduceNeg, Nat.le_refl, List.length_map, h1, hr, hn, h2', hwd, hc, ha, hw]
  · have h2' : (((p.length : Nat) : Int) > 1) := by omega
    have hn0 : nth p 0 = some 40 := by rw [hr2]; rfl
    have h40 : ((((40 : UInt8).toNat : Nat) : Int) == 40) = true := rfl
    have h41 : ((((41 : UInt8).toNat : Nat) : Int) == 41) = true := rfl
    have hwl : IntKind.i64.wrap (((p.length : Nat) : Int) - 1) = ((p.length - 1 : Nat) : Int) := by rw [wrap64 (by omega) (by omega)]; omega
    have hz1 : D.nat? (.int .i64 1) = some 1 := rfl
    simp only [a37_l0, E37, bxo, sy0, sy1, sy2, sy3, sy4, sy5, clearEnv, adel, mem, initEnv, initSlots, stepOp, wantedA, evalOp, callOf, panicOf, evalV, addr, opd, opds, aget, aset, adel1, lkill, readCells, nth, Env.put, Env.putV, Env.box, Env.bare, dropOwn, dropOwnS, binD, binBD, binBool, binInt, binStr, unD, AOpd.drop, Cell.of, AOp.kind, sameKind, assertD, eqlB, isUndef, takeC, unownAt, fits, layCells, putCells, putD, fillD, partsOf, optLo, optHi, allSize, Option.getD_some, Option.getD_none, runDefers, readRes, readRes1, readRess, Nat.reduceAdd, Nat.reduceSub, Nat.reduceMul, Nat.reduceBEq, Bool.false_and, Bool.true_and, Bool.and_true, Bool.and_false, Nat.zero_add, Nat.add_zero, beq_self_eq_true, Bool.true_beq, Bool.false_beq, Bool.not_true, Bool.not_false, decide_true, decide_false, bindO, List.map_cons, List.map_nil, List.length_cons, List.length_nil, List.append_nil, List.nil_append, List.cons_append, List.isEmpty_nil, List.isEmpty_cons, Nat.reduceLeDiff, Int.reduceBEq, Int.reduceNeg, Nat.le_refl, List.length_map, h1, hr, hn, h2', hn0, h40, h41, hwl, h3, hz1, h4, hwd, hc, ha, hw]
theorem l37_bad (hi : i < l.length) (hl : l.length < 1000000) (hp : l[i].length < 1000000) (hd1 : -1000 < d) (hd2 : d < 1000) (hc : C 37 [.str (bare l[i]), .int .i64 (d - 1)] σ = some (.ret ⟨false, .tup [dV v0, .bool false]⟩, σ)) :
    exec C n a37_l0 (E37 l d f x s ks i) σ = some (.ret, { slots := [(5, ⟨false, .bool false⟩)], locs := [(4, 4, 0)], boxes := [(4, zeroV)], defers := [] }, σ) := by
  have h1 : ((i : Int) < (l.length : Int)) := by omega
  have hr := strs_row hi
  have hn := strs_nth hi
  have hwd : IntKind.i64.wrap (d - 1) = d - 1 := wrap64 (by omega) (by omega)
  rw [dV_v0] at hc
  generalize l[i] = p at *
  rcases bare_code p hp with ⟨hb, hor⟩ | ⟨h2, ⟨r, hr2⟩, h3, h4⟩
  · rw [hb] at hc
    by_cases h2 : 1 < p.length
    · have h2' : (((p.length : Nat) : Int) > 1) := by omega
      rcases hor with h3 | ⟨c, r, h3, h4⟩ | ⟨c, r, k', h3, h4, h5⟩
      · exact absurd h2 h3
      · have hn0 : nth p 0 = some c := by rw [h3]; rfl
        have h40 := eqb40 c
        rw [decide_eq_false h4] at h40
        simp only [a37_l0, E37, bxo, zeroV, sy0, sy1, sy2, sy3, sy4, sy5, clearEnv, adel, mem, initEnv, initSlots, stepOp, wantedA, evalOp, callOf, panicOf, evalV, addr, opd, opds, aget, aset, adel1, lkill, readCells, nth, Env.put, Env.putV, Env.box, Env.bare, dropOwn, dropOwnS, binD, binBD, binBool, binInt, binStr, unD, AOpd.drop, Cell.of, AOp.kind, sameKind, assertD, eqlB, isUndef, takeC, unownAt, fits, layCells, putCells, putD, fillD, partsOf, optLo, optHi, allSize, Option.getD_some, Option.getD_none, runDefers, readRes, readRes1, readRess, Nat.reduceAdd, Nat.reduceSub, Nat.reduceMul, Nat.reduceBEq, Bool.false_and, Bool.true_and, Bool.and_true, Bool.and_false, Nat.zero_add, Nat.add_zero, beq_self_eq_true, Bool.true_beq, Bool.false_beq, Bool.not_true, Bool.not_false, decide_true, decide_false, bindO, List.map_cons, List.map_nil, List.length_cons, List.length_nil, List.append_nil, List.nil_append, List.cons_append, List.isEmpty_nil, List.isEmpty_cons, Nat.reduceLeDiff, Int.reduceBEq, Int.reduceNeg, Nat.le_refl, List.length_map, h1, hr, hn, h2', hn0, h40, hwd, hc]
      · have hn0 : nth p 0 = some c := by rw [h3]; rfl
        have h40 := eqb40 c
        have h41 := eqb41 k'
        rw [decide_eq_false h5] at h41
        have hwl : IntKind.i64.wrap (((p.length : Nat) : Int) - 1) = ((p.length - 1 : Nat) : Int) := by rw [wrap64 (by omega) (by omega)]; omega
        cases hc40 : decide (c = 40) with
        | true =>
          rw [hc40] at h40
          simp only [a37_l0, E37, bxo, zeroV, sy0, sy1, sy2, sy3, sy4, sy5, clearEnv, adel, mem, initEnv, initSlots, stepOp, wantedA, evalOp, callOf, panicOf, evalV, addr, opd, opds, aget, aset, adel1, lkill, readCells, nth, Env.put, Env.putV, Env.box, Env.bare, dropOwn, dropOwnS, binD, binBD, binBool, binInt, binStr, unD, AOpd.drop, Cell.of, AOp.kind, sameKind, assertD, eqlB, isUndef, takeC, unownAt, fits, layCells, putCells, putD, fillD, partsOf, optLo, optHi, allSize, Option.getD_some, Option.getD_none, runDefers, readRes, readRes1, readRess, Nat.reduceAdd, Nat.reduceSub, Nat.reduceMul, Nat.reduceBEq, Bool.false_and, Bool.true_and, Bool.and_true, Bool.and_false, Nat.zero_add, Nat.add_zero, beq_self_eq_true, Bool.true_beq, Bool.false_beq, Bool.not_true, Bool.not_false, decide_true, decide_false, bindO, List.map_cons, List.map_nil, List.length_cons, List.length_nil, List.append_nil, List.nil_append, List.cons_append, List.isEmpty_nil, List.isEmpty_cons, Nat.reduceLeDiff, Int.reduceBEq, Int.reduceNeg, Nat.le_refl, List.length_map, h1, hr, hn, h2', hn0, h40, h41, hwl, h4, hwd, hc]
        | false =>
          rw [hc40] at h40
          simp only [a37_l0, E37, bxo, zeroV, sy0, sy1, sy2, sy3, sy4, sy5, clearEnv, adel, mem, initEnv, initSlots, stepOp, wantedA, evalOp, callOf, panicOf, evalV, addr, opd, opds, aget, aset, adel1, lkill, readCells, nth, Env.put, Env.putV, Env.box, Env.bare, dropOwn, dropOwnS, binD, binBD, binBool, binInt, binStr, unD, AOpd.drop, Cell.of, AOp.kind, sameKind, assertD, eqlB, isUndef, takeC, unownAt, fits, layCells, putCells, putD, fillD, partsOf, optLo, optHi, allSize, Option.getD_some, Option.getD_none, runDefers, readRes, readRes1, readRess, Nat.reduceAdd, Nat.reduceSub, Nat.reduceMul, Nat.reduceBEq, Bool.false_and, Bool.true_and, Bool.and_true, Bool.and_false, Nat.zero_add, Nat.add_zero, beq_self_eq_true, Bool.true_beq, Bool.false_beq, Bool.not_true, Bool.not_false, decide_true, decide_false, bindO, List.map_cons, List.map_nil, List.length_cons, List.length_nil, List.append_nil, List.nil_append, List.cons_append, List.isEmpty_nil, List.isEmpty_cons, Nat.reduceLeDiff, Int.reduceBEq, Int.reduceNeg, Nat.le_refl, List.length_map, h1, hr, hn, h2', hn0, h40, h41, hwl, h4, hwd, hc]
    · have h2' : ¬ (((p.length : Nat) : Int) > 1) := by omega
      simp only [a37_l0, E37, bxo, zeroV, sy0, sy1, sy2, sy3, sy4, sy5, clearEnv, adel, mem, initEnv, initSlots, stepOp, wantedA, evalOp, callOf, panicOf, evalV, addr, opd, opds, aget, aset, adel1, lkill, readCells, nth, Env.put, Env.putV, Env.box, Env.bare, dropOwn, dropOwnS, binD, binBD, binBool, binInt, binStr, unD, AOpd.drop, Cell.of, AOp.kind, sameKind, assertD, eqlB, isUndef, takeC, unownAt, fits, layCells, putCells, putD, fillD, partsOf, optLo, optHi, allSize, Option.getD_some, Option.getD_none, runDefers, readRes, readRes1, readRess, Nat.reduceAdd, Nat.reduceSub, Nat.reduceMul, Nat.reduceBEq, Bool.false_and, Bool.true_and, Bool.and_true, Bool.and_false, Nat.zero_add, Nat.add_zero, beq_self_eq_true, Bool.true_beq, Bool.false_beq, Bool.not_true, Bool.not_false, decide_true, decide_false, bindO, List.map_cons, List.map_nil, List.length_cons, List.length_nil, List.append_nil, List.nil_append, List.cons_append, List.isEmpty_nil, List.isEmpty_cons, Nat.reduceLeDiff, Int.reduceBEq, Int.reduceNeg, Nat.le_refl, List.length_map, h1, hr, hn, h2', hwd, hc]
  · have h2' : (((p.length : Nat) : Int) > 1) := by omega
    have hn0 : nth p 0 = some 40 := by rw [hr2]; rfl
    have h40 : ((((40 : UInt8).toNat : Nat) : Int) == 40) = true := rfl
    have h41 : ((((41 : UInt8).toNat : Nat) : Int) == 41) = true := rfl
    have hwl : IntKind.i64.wrap (((p.length : Nat) : Int) - 1) = ((p.length - 1 : Nat) : Int) := by rw [wrap64 (by omega) (by omega)]; omega
    have hz1 : D.nat? (.int .i64 1) = some 1 := rfl
    simp only [a37_l0, E37, bxo, zeroV, sy0, sy1, sy2, sy3, sy4, sy5, clearEnv, adel, mem, initEnv, initSlots, stepOp, wantedA, evalOp, callOf, panicOf, evalV, addr, opd, opds, aget, aset, adel1, lkill, readCells, nth, Env.put, Env.putV, Env.box, Env.bare, dropOwn, dropOwnS, binD, binBD, binBool, binInt, binStr, unD, AOpd.drop, Cell.of, AOp.kind, sameKind, assertD, eqlB, isUndef, takeC, unownAt, fits, layCells, putCells, putD, fillD, partsOf, optLo, optHi, allSize, Option.getD_some, Option.getD_none, runDefers, readRes, readRes1, readRess, Nat.reduceAdd, Nat.reduceSub, Nat.reduceMul, Nat.reduceBEq, Bool.false_and, Bool.true_and, Bool.and_true, Bool.and_false, Nat.zero_add, Nat.add_zero, beq_self_eq_true, Bool.true_beq, Bool.false_beq, Bool.not_true, Bool.not_false, decide_true, decide_false, bindO, List.map_cons, List.map_nil, List.length_cons, List.length_nil, List.append_nil, List.nil_append, List.cons_append, List.isEmpty_nil, List.isEmpty_cons, Nat.reduceLeDiff, Int.reduceBEq, Int.reduceNeg, Nat.le_refl, List.length_map, h1, hr, hn, h2', hn0, h40, h41, hwl, h3, hz1, h4, hwd, hc]
end
theorem headV_eq (w : List UInt8) : headV w = ifB (w == [46, 46, 46]) (4, 0, []) (ifB (w == [60, 102, 117, 110, 62]) (3, 0, []) (ifB (digR w).2 (2, (digR w).1, []) (1, 0, w))) := by
  unfold headV
  by_cases h1 : w = [46, 46, 46]
  · have : (w == [46, 46, 46]) = true := by simpa using h1
    rw [if_pos h1, this, ifB_true]
  · have : (w == [46, 46, 46]) = false := by simpa using h1
    rw [if_neg h1, this, ifB_false]
    by_cases h2 : w = [60, 102, 117, 110, 62]
    · have : (w == [60, 102, 117, 110, 62]) = true := by simpa using h2
      rw [if_pos h2, this, ifB_true]
    · have : (w == [60, 102, 117, 110, 62]) = false := by simpa using h2
      rw [if_neg h2, this, ifB_false]
      cases (digR w).2 <;> rfl
def gsD (o : Option V) : D := match o with
  | some v => .tup [dV v, .bool true]
  | none => .tup [dV v0, .bool false]
def GsR (d : Nat) (n : Nat) : Prop := ∀ s : List UInt8, s.length ≤ 400 → ∀ σ, T n 37 [.str s, .int .i64 d] σ = some (.ret ⟨false, gsD (gs d s)⟩, σ)
def Q37 (f x : Int) (s : List UInt8) (ks : List V) (l : List (List UInt8)) (d : Int) (σ : Store) (R : Option (List V)) (r : AExit × Env × Store) : Prop := match R with
  | none => r = (.ret, { slots := [(5, ⟨false, .bool false⟩)], locs := [(4, 4, 0)], boxes := [(4, zeroV)], defers := [] }, σ)
  | some rs => ∃ i, r = (.exit 0, { slots := [(1, ⟨false, .int .i64 d⟩), (6, ⟨false, dlist kStr (l.map D.str)⟩), (11, ⟨false, .int .i64 i⟩), (59, ⟨false, .bool false⟩)], locs := [(4, 4, 0), (10, 10, 0)], boxes := [(4, zeroV), (10, bxo f x s (ks ++ rs))], defers := [] }, σ)
theorem tot_mem : ∀ {l : List (List UInt8)} {s : List UInt8}, s ∈ l → s.length + 1 ≤ tot l
  | a :: l, s, h => by
    rw [tot]
    rcases List.mem_cons.1 h with e | h
    · rw [e]; omega
    · have := tot_mem h; omega
theorem tot_len : ∀ l : List (List UInt8), l.length ≤ tot l
  | [] => Nat.le_refl _
  | a :: l => by
    have := tot_len l
    simp only [List.length_cons, tot]
    omega
set_option maxHeartbeats 4000000 in
theorem guess_run : ∀ d : Nat, d < 900 → Evly (GsR d)
  | 0, _ => (split_run).step 0 fun m _ hsp s hs σ => by
    have hsp := hsp s hs σ
    rw [gs]
    rw [T_fun (af := a37) rfl rfl]
    unfold dStr at hsp
    cases h1 : (splR s).2 with
    | false =>
      rw [h1] at hsp
      simp only [a37, zeroI, sy0, sy1, sy2, sy3, sy4, sy5, clearEnv, adel, mem, initEnv, initSlots, stepOp, wantedA, evalOp, callOf, panicOf, evalV, addr, opd, opds, aget, aset, adel1, lkill, readCells, nth, Env.put, Env.putV, Env.box, Env.bare, dropOwn, dropOwnS, binD, binBD, binBool, binInt, binStr, unD, AOpd.drop, Cell.of, AOp.kind, sameKind, assertD, eqlB, isUndef, takeC, unownAt, fits, layCells, putCells, putD, fillD, partsOf, optLo, optHi, allSize, Option.getD_some, Option.getD_none, runDefers, readRes, readRes1, readRess, Nat.reduceAdd, Nat.reduceSub, Nat.reduceMul, Nat.reduceBEq, Bool.false_and, Bool.true_and, Bool.and_true, Bool.and_false, Nat.zero_add, Nat.add_zero, beq_self_eq_true, Bool.true_beq, Bool.false_beq, Bool.not_true, Bool.not_false, decide_true, decide_false, bindO, List.map_cons, List.map_nil, List.length_cons, List.length_nil, List.append_nil, List.nil_append, List.cons_append, List.isEmpty_nil, List.isEmpty_cons, Nat.reduceLeDiff, Int.reduceBEq, Int.reduceNeg, Nat.le_refl, hsp, gsD, dV_v0]
    | true =>
      rw [h1] at hsp
      cases h2 : ((((splR s).1.length : Nat) : Int) == 0) with
      | true => simp only [a37, zeroI, sy0, sy1, sy2, sy3, sy4, sy5, clearEnv, adel, mem, initEnv, initSlots, stepOp, wantedA, evalOp, callOf, panicOf, evalV, addr, opd, opds, aget, aset, adel1, lkill, readCells, nth, Env.put, Env.putV, Env.box, Env.bare, dropOwn, dropOwnS, binD, binBD, binBool, binInt, binStr, unD, AOpd.drop, Cell.of, AOp.kind, sameKind, assertD, eqlB, isUndef, takeC, unownAt, fits, layCells, putCells, putD, fillD, partsOf, optLo, optHi, allSize, Option.getD_some, Option.getD_none, runDefers, readRes, readRes1, readRess, Nat.reduceAdd, Nat.reduceSub, Nat.reduceMul, Nat.reduceBEq, Bool.false_and, Bool.true_and, Bool.and_true, Bool.and_false, Nat.zero_add, Nat.add_zero, beq_self_eq_true, Bool.true_beq, Bool.false_beq, Bool.not_true, Bool.not_false, decide_true, decide_false, bindO, List.map_cons, List.map_nil, List.length_cons, List.length_nil, List.append_nil, List.nil_append, List.cons_append, List.isEmpty_nil, List.isEmpty_cons, Nat.reduceLeDiff, Int.reduceBEq, Int.reduceNeg, Nat.le_refl, hsp, gsD, dV_v0, List.length_map, h2]
      | false => simp only [a37, zeroI, sy0, sy1, sy2, sy3, sy4, sy5, clearEnv, adel, mem, initEnv, initSlots, stepOp, wantedA, evalOp, callOf, panicOf, evalV, addr, opd, opds, aget, aset, adel1, lkill, readCells, nth, Env.put, Env.putV, Env.box, Env.bare, dropOwn, dropOwnS, binD, binBD, binBool, binInt, binStr, unD, AOpd.drop, Cell.of, AOp.kind, sameKind, assertD, eqlB, isUndef, takeC, unownAt, fits, layCells, putCells, putD, fillD, partsOf, optLo, optHi, allSize, Option.getD_some, Option.getD_none, runDefers, readRes, readRes1, readRess, Nat.reduceAdd, Nat.reduceSub, Nat.reduceMul, Nat.reduceBEq, Bool.false_and, Bool.true_and, Bool.and_true, Bool.and_false, Nat.zero_add, Nat.add_zero, beq_self_eq_true, Bool.true_beq, Bool.false_beq, Bool.not_true, Bool.not_false, decide_true, decide_false, bindO, List.map_cons, List.map_nil, List.length_cons, List.length_nil, List.append_nil, List.nil_append, List.cons_append, List.isEmpty_nil, List.isEmpty_cons, Nat.reduceLeDiff, Int.reduceBEq, Int.reduceNeg, Nat.le_refl, hsp, gsD, dV_v0, List.length_map, h2]
  | d + 1, hd => by
    refine ((guess_run d (by omega)).and (split_run.and digits_run)).step 500 fun m hm ⟨ih, hsp, hdg⟩ s hs σ => ?_
    have hsp := hsp s hs σ
    have htot := splR_tot s
    have hdz : ((((d + 1 : Nat)) : Int) == 0) = false := by simp; omega
    rw [gs]
    unfold dStr at hsp
    rw [T_fun (af := a37) rfl rfl]
    rcases hsr : splR s with ⟨l, b⟩
    rw [hsr] at hsp htot
    simp only at hsp htot
    cases b with
    | false =>
      cases l <;> simp only [a37, sy0, sy1, sy2, sy3, sy4, sy5, clearEnv, adel, mem, initEnv, initSlots, stepOp, wantedA, evalOp, callOf, panicOf, evalV, addr, opd, opds, aget, aset, adel1, lkill, readCells, nth, Env.put, Env.putV, Env.box, Env.bare, dropOwn, dropOwnS, binD, binBD, binBool, binInt, binStr, unD, AOpd.drop, Cell.of, AOp.kind, sameKind, assertD, eqlB, isUndef, takeC, unownAt, fits, layCells, putCells, putD, fillD, partsOf, optLo, optHi, allSize, Option.getD_some, Option.getD_none, runDefers, readRes, readRes1, readRess, Nat.reduceAdd, Nat.reduceSub, Nat.reduceMul, Nat.reduceBEq, Bool.false_and, Bool.true_and, Bool.and_true, Bool.and_false, Nat.zero_add, Nat.add_zero, beq_self_eq_true, Bool.true_beq, Bool.false_beq, Bool.not_true, Bool.not_false, decide_true, decide_false, bindO, List.map_cons, List.map_nil, List.length_cons, List.length_nil, List.append_nil, List.nil_append, List.cons_append, List.isEmpty_nil, List.isEmpty_cons, Nat.reduceLeDiff, Int.reduceBEq, Int.reduceNeg, Nat.le_refl, hsp, gsD, dV_v0]
    | true =>
      cases l with
      | nil =>
        have hz0 : (((0 : Nat) : Int) == 0) = true := rfl
        simp only [a37, sy0, sy1, sy2, sy3, sy4, sy5, clearEnv, adel, mem, initEnv, initSlots, stepOp, wantedA, evalOp, callOf, panicOf, evalV, addr, opd, opds, aget, aset, adel1, lkill, readCells, nth, Env.put, Env.putV, Env.box, Env.bare, dropOwn, dropOwnS, binD, binBD, binBool, binInt, binStr, unD, AOpd.drop, Cell.of, AOp.kind, sameKind, assertD, eqlB, isUndef, takeC, unownAt, fits, layCells, putCells, putD, fillD, partsOf, optLo, optHi, allSize, Option.getD_some, Option.getD_none, runDefers, readRes, readRes1, readRess, Nat.reduceAdd, Nat.reduceSub, Nat.reduceMul, Nat.reduceBEq, Bool.false_and, Bool.true_and, Bool.and_true, Bool.and_false, Nat.zero_add, Nat.add_zero, beq_self_eq_true, Bool.true_beq, Bool.false_beq, Bool.not_true, Bool.not_false, decide_true, decide_false, bindO, List.map_cons, List.map_nil, List.length_cons, List.length_nil, List.append_nil, List.nil_append, List.cons_append, List.isEmpty_nil, List.isEmpty_cons, Nat.reduceLeDiff, Int.reduceBEq, Int.reduceNeg, Nat.le_refl, hsp, hz0, gsD, dV_v0]
      | cons w parts =>
        simp only
        have hdg := hdg w σ
        have hlen := tot_len (w :: parts)
        have hloop := loopN_ex (body := exec (T m) m a37_l0)
          (fun j e σ' => σ' = σ ∧ ∃ ks i, j = (w :: parts).length - i ∧ e = E37 (w :: parts) ((d + 1 : Nat) : Int) (headV w).1 (headV w).2.1 (headV w).2.2 ks i ∧ ks.length ≤ i ∧ 1 ≤ i ∧ ((gss d ((w :: parts).drop i)).map fun r => ks ++ r) = (gss d parts))
          (Q37 (headV w).1 (headV w).2.1 (headV w).2.2 [] (w :: parts) ((d + 1 : Nat) : Int) σ (gss d parts)) (fun j e σ' ⟨hσ, ks, i, hj, he, hks, hi1, hR⟩ => by
            subst he hσ
            by_cases hi : i < (w :: parts).length
            · have hmem : (w :: parts)[i] ∈ w :: parts := List.getElem_mem hi
              have hml := tot_mem hmem
              have hbl := bare_len (w :: parts)[i]
              have ih := ih (bare (w :: parts)[i]) (by omega) σ'
              have edd : (((d + 1 : Nat) : Int)) - 1 = ((d : Nat) : Int) := by omega
              rw [List.drop_eq_getElem_cons hi, gss] at hR
              cases hg : gs d (bare (w :: parts)[i]) with
              | none =>
                rw [hg] at ih hR
                refine .inl ⟨_, l37_bad hi (by omega) (by omega) (by omega) (by omega) (by rw [edd]; exact ih), (fun _ _ h => by cases h), ?_⟩
                rw [← hR]
                exact rfl
              | some k =>
                rw [hg] at ih hR
                refine .inr ⟨_, _, _, by omega, l37_step hi (by omega) (by omega) (by omega) (by omega) (by omega) k (by rw [edd]; exact ih), rfl, ks ++ [k], i + 1, rfl, rfl, by simp; omega, by omega, ?_⟩
                rw [← hR]
                simp only
                cases gss d (List.drop (i + 1) (w :: parts)) with
                | none => rfl
                | some r => simp
            · refine .inl ⟨_, l37_end (by omega), (fun _ _ h => by cases h), ?_⟩
              have e0 : (w :: parts).drop i = [] := List.drop_eq_nil_of_le (by omega)
              rw [e0, gss] at hR
              rw [← hR]
              exact ⟨i, by simp⟩) m ((w :: parts).length - 1) (E37 (w :: parts) ((d + 1 : Nat) : Int) (headV w).1 (headV w).2.1 (headV w).2.2 [] 1) σ (by omega) ⟨rfl, [], 1, rfl, rfl, by simp, by omega, by simp⟩
        obtain ⟨r, hr, hq⟩ := hloop
        have hlz : ((((w :: parts).length : Nat) : Int) == 0) = false := by simp only [List.length_cons]; simp; omega
        have hrow := strs_row (l := w :: parts) (i := 0) (by simp)
        have hnth : nth ((w :: parts).map D.str) 0 = some (.str w) := rfl
        have ez : (((0 : Nat) : Int)) = 0 := rfl
        generalize hL : w :: parts = L at *
        clear hL
        generalize gss d parts = R at *
        have hone : (((1 : Nat) : Int)) = 1 := rfl
        simp only [E37, bxo, zeroV, List.map_nil, dlist_nil, List.length_nil, ow, hone] at hr
        rw [headV_eq w] at hr hq ⊢
        cases c1 : (digR w).2 <;> cases c2 : w == [60, 102, 117, 110, 62] <;> cases c3 : w == [46, 46, 46] <;> simp only [c1, c2, c3, ifB_true, ifB_false] at hdg hr hq ⊢ <;>
          (cases R with
          | none =>
            obtain rfl : r = _ := hq
            simp only [a37, sy0, sy1, sy2, sy3, sy4, sy5, clearEnv, adel, mem, initEnv, initSlots, stepOp, wantedA, evalOp, callOf, panicOf, evalV, addr, opd, opds, aget, aset, adel1, lkill, readCells, nth, Env.put, Env.putV, Env.box, Env.bare, dropOwn, dropOwnS, binD, binBD, binBool, binInt, binStr, unD, AOpd.drop, Cell.of, AOp.kind, sameKind, assertD, eqlB, isUndef, takeC, unownAt, fits, layCells, putCells, putD, fillD, partsOf, optLo, optHi, allSize, Option.getD_some, Option.getD_none, runDefers, readRes, readRes1, readRess, Nat.reduceAdd, Nat.reduceSub, Nat.reduceMul, Nat.reduceBEq, Bool.false_and, Bool.true_and, Bool.and_true, Bool.and_false, Nat.zero_add, Nat.add_zero, beq_self_eq_true, Bool.true_beq, Bool.false_beq, Bool.not_true, Bool.not_false, decide_true, decide_false, bindO, List.map_cons, List.map_nil, List.length_cons, List.length_nil, List.append_nil, List.nil_append, List.cons_append, List.isEmpty_nil, List.isEmpty_cons, Nat.reduceLeDiff, Int.reduceBEq, Int.reduceNeg, Nat.le_refl, List.length_map, hsp, hdz, hlz, hrow, hnth, hdg, c2, c3, hr, gsD, dV_v0, zeroV, Option.map_none]
          | some rs =>
            obtain ⟨i, rfl⟩ := hq
            simp only [bxo] at hr
            simp only [a37, sy0, sy1, sy2, sy3, sy4, sy5, clearEnv, adel, mem, initEnv, initSlots, stepOp, wantedA, evalOp, callOf, panicOf, evalV, addr, opd, opds, aget, aset, adel1, lkill, readCells, nth, Env.put, Env.putV, Env.box, Env.bare, dropOwn, dropOwnS, binD, binBD, binBool, binInt, binStr, unD, AOpd.drop, Cell.of, AOp.kind, sameKind, assertD, eqlB, isUndef, takeC, unownAt, fits, layCells, putCells, putD, fillD, partsOf, optLo, optHi, allSize, Option.getD_some, Option.getD_none, runDefers, readRes, readRes1, readRess, Nat.reduceAdd, Nat.reduceSub, Nat.reduceMul, Nat.reduceBEq, Bool.false_and, Bool.true_and, Bool.and_true, Bool.and_false, Nat.zero_add, Nat.add_zero, beq_self_eq_true, Bool.true_beq, Bool.false_beq, Bool.not_true, Bool.not_false, decide_true, decide_false, bindO, List.map_cons, List.map_nil, List.length_cons, List.length_nil, List.append_nil, List.nil_append, List.cons_append, List.isEmpty_nil, List.isEmpty_cons, Nat.reduceLeDiff, Int.reduceBEq, Int.reduceNeg, Nat.le_refl, List.length_map, hsp, hdz, hlz, hrow, hnth, hdg, c2, c3, hr, gsD, dV_eq, form_mk, n_mk, name_mk, kids_mk, zeroV, Option.map_some])
end Go.Proofs.YtdoppkjoemlhjaaDoor.Sh

