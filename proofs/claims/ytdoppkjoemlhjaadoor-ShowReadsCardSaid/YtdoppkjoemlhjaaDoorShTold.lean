/-
  May a value be told? The program's function; over the program whose upper names are served from without.
-/
import Derived.Test.YtdoppkjoemlhjaaDoorShUpper
import Derived.Test.YtdoppkjoemlhjaaDoorShV
set_option linter.unusedSimpArgs false
set_option linter.unusedVariables false
namespace Go.Proofs.YtdoppkjoemlhjaaDoor.Sh
open Go Go.Mx
/-- Upper names, served. -/
def Xu (X : CallF) : CallF := fun f ds σ => match f, ds with
  | 24, [.str s] => some (.ret ⟨false, .bool (upperB s)⟩, σ)
  | 24, _ => none
  | f, ds => X f ds σ
theorem Xu_sound {X : CallF} (h : CSound Tryd.prog κ X) : CSound Tryd.prog κ (Xu X) := by
  intro f ds σ out σ' hx
  unfold Xu at hx
  split at hx
  · cases hx
    exact upper_ok _ _
  · cases hx
  · exact h _ _ _ _ _ hx
def Γp : FuncId → Option AFun := fun f => ifB (f == 24) none (Γl f)
theorem Γp_holds : Holds Tryd.prog Γp := by
  intro f af h
  unfold Γp at h
  cases hf : f == 24 with
  | true => rw [hf] at h; cases h
  | false => rw [hf] at h; exact Γl_holds f af h
def TP (n : Nat) : CallF := runQ Γp Rl (Xu Xl) n false
def TPD (n : Nat) : CallF := runQ Γp Rl (Xu Xl) n true
theorem TP_sound (n : Nat) : CSound Tryd.prog κ (TP n) := (run_sound Γp_holds Rl_sound (Xu_sound Xl_sound) n).1
theorem TP_fun {n : Nat} {f : FuncId} {af : AFun} {ds : List D} {σ : Store} (h : Γp f = some af) (hl : ds.length = af.nargs) : TP (n + 1) f ds σ = finX Rl (TPD n) af σ.next (exec (TP n) n af.body (initEnv ds) σ) := runQ_fun h hl
theorem TP_lib {n : Nat} {f : FuncId} {ds : List D} {σ : Store} (h : Γp f = none) : TP (n + 1) f ds σ = Xu Xl f ds σ := runQ_lib h
mutual
def told : V → Nat → Bool
  | .mk f n s ks, d => ifB (f == 2) (s == [] && ks.length == 0) (ifB (f == 3) (s == [] && ks.length == 0 && n == 0) (ifB (f == 4) (s == [] && ks.length == 0 && n == 0) (ifB (f == 1) (d != 0 && n == 0 && upperB s && decide (ks.length ≤ 8) && tolds ks (d - 1)) false)))
def tolds : List V → Nat → Bool
  | [], _ => true
  | k :: r, d => told k d && tolds r d
end
theorem tolds_eq (d : Nat) : ∀ l : List V, tolds l d = l.all (fun k => told k d)
  | [] => rfl
  | k :: r => by rw [tolds, tolds_eq d r]; rfl
def atT (ks : List V) (d i : Nat) : Bool := match ks[i]? with
  | some k => told k d
  | none => true
theorem atT_get {ks : List V} {d i : Nat} (h : i < ks.length) : atT ks d i = told ks[i] d := by simp [atT, h]
theorem tolds_true {ks : List V} {d : Nat} (h : ∀ i, 0 ≤ i → i < ks.length → atT ks d i = true) : tolds ks d = true := by
  rw [tolds_eq, List.all_eq_true]
  intro k hk
  obtain ⟨i, hi, rfl⟩ := List.getElem_of_mem hk
  have := h i (Nat.zero_le _) hi
  rw [atT_get hi] at this
  exact this
theorem tolds_false {ks : List V} {d i : Nat} (hi : i < ks.length) (h : atT ks d i = false) : tolds ks d = false := by
  cases hx : tolds ks d with
  | false => rfl
  | true =>
    rw [tolds_eq, List.all_eq_true] at hx
    rw [atT_get hi] at h
    have := hx _ (List.getElem_mem hi)
    rw [this] at h
    cases h
set_option maxRecDepth 10000
section
variable {C : CallF} {n : Nat} {ks : List V} {d i : Nat} {σ : Store}
def E27 (ks : List V) (d i : Nat) : Env := { slots := [(1, ⟨false, .int .i64 ((d + 1 : Nat) : Int)⟩), (59, ⟨false, dlist kV (ks.map dV)⟩), (60, ⟨false, .int .i64 ks.length⟩), (61, ⟨false, .int .i64 i⟩)], locs := [], boxes := [], defers := [] }
theorem l27_step (h : i < ks.length) (hl : ks.length < 1048576) (hd : d < 1000000) (hc : C 27 [dV ks[i], .int .i64 ((d : Nat) : Int)] σ = some (.ret ⟨false, .bool true⟩, σ)) : exec C n a27_l0 (E27 ks d i) σ = some (.normal, E27 ks d (i + 1), σ) := by
  have hi : ((i : Int) < (ks.length : Int)) := by omega
  have hw : IntKind.i64.wrap (((d + 1 : Nat) : Int) - 1) = ((d : Nat) : Int) := by
    rw [wrap64 (by omega) (by omega)]
    omega
  rw [dV_eq ks[i]] at hc
  simp only [a27_l0, E27, sy0, sy1, sy2, sy3, sy4, sy5, clearEnv, adel, mem, initEnv, initSlots, stepOp, wantedA, evalOp, callOf, panicOf, evalV, addr, opd, opds, aget, aset, adel1, lkill, readCells, nth, Env.put, Env.putV, Env.box, Env.bare, dropOwn, dropOwnS, binD, binBD, binBool, binInt, binStr, unD, AOpd.drop, Cell.of, AOp.kind, sameKind, assertD, eqlB, isUndef, takeC, unownAt, fits, layCells, putCells, putD, fillD, partsOf, optLo, optHi, allSize, Option.getD_some, Option.getD_none, runDefers, readRes, readRes1, readRess, Nat.reduceAdd, Nat.reduceSub, Nat.reduceMul, Nat.reduceBEq, Bool.false_and, Bool.true_and, Bool.and_true, Bool.and_false, Nat.zero_add, Nat.add_zero, beq_self_eq_true, Bool.true_beq, Bool.false_beq, Bool.not_true, Bool.not_false, decide_true, decide_false, bindO, List.map_cons, List.map_nil, List.length_cons, List.length_nil, List.append_nil, List.nil_append, List.cons_append, List.isEmpty_nil, List.isEmpty_cons, Nat.reduceLeDiff, Int.reduceBEq, Int.reduceNeg, Nat.le_refl, kid_nthx _ _ h, kid_row _ _ h, hi, wrap64_succ (i := i) (by omega), hw, hc]
theorem l27_stop (h : i < ks.length) (hd : d < 1000000) (hc : C 27 [dV ks[i], .int .i64 ((d : Nat) : Int)] σ = some (.ret ⟨false, .bool false⟩, σ)) : exec C n a27_l0 (E27 ks d i) σ = some (.ret, { slots := [(4, ⟨false, .bool false⟩)], locs := [], boxes := [], defers := [] }, σ) := by
  have hi : ((i : Int) < (ks.length : Int)) := by omega
  have hw : IntKind.i64.wrap (((d + 1 : Nat) : Int) - 1) = ((d : Nat) : Int) := by
    rw [wrap64 (by omega) (by omega)]
    omega
  rw [dV_eq ks[i]] at hc
  simp only [a27_l0, E27, sy0, sy1, sy2, sy3, sy4, sy5, clearEnv, adel, mem, initEnv, initSlots, stepOp, wantedA, evalOp, callOf, panicOf, evalV, addr, opd, opds, aget, aset, adel1, lkill, readCells, nth, Env.put, Env.putV, Env.box, Env.bare, dropOwn, dropOwnS, binD, binBD, binBool, binInt, binStr, unD, AOpd.drop, Cell.of, AOp.kind, sameKind, assertD, eqlB, isUndef, takeC, unownAt, fits, layCells, putCells, putD, fillD, partsOf, optLo, optHi, allSize, Option.getD_some, Option.getD_none, runDefers, readRes, readRes1, readRess, Nat.reduceAdd, Nat.reduceSub, Nat.reduceMul, Nat.reduceBEq, Bool.false_and, Bool.true_and, Bool.and_true, Bool.and_false, Nat.zero_add, Nat.add_zero, beq_self_eq_true, Bool.true_beq, Bool.false_beq, Bool.not_true, Bool.not_false, decide_true, decide_false, bindO, List.map_cons, List.map_nil, List.length_cons, List.length_nil, List.append_nil, List.nil_append, List.cons_append, List.isEmpty_nil, List.isEmpty_cons, Nat.reduceLeDiff, Int.reduceBEq, Int.reduceNeg, Nat.le_refl, kid_nthx _ _ h, kid_row _ _ h, hi, hw, hc]
theorem l27_end : exec C n a27_l0 (E27 ks d ks.length) σ = some (.exit 1, { slots := [(1, ⟨false, .int .i64 ((d + 1 : Nat) : Int)⟩), (59, ⟨false, dlist kV (ks.map dV)⟩), (60, ⟨false, .int .i64 ks.length⟩), (61, ⟨false, .int .i64 ks.length⟩), (62, ⟨false, .bool false⟩)], locs := [], boxes := [], defers := [] }, σ) := by
  have hi : ¬ ((ks.length : Int) < (ks.length : Int)) := by omega
  simp only [a27_l0, E27, sy0, sy1, sy2, sy3, sy4, sy5, clearEnv, adel, mem, initEnv, initSlots, stepOp, wantedA, evalOp, callOf, panicOf, evalV, addr, opd, opds, aget, aset, adel1, lkill, readCells, nth, Env.put, Env.putV, Env.box, Env.bare, dropOwn, dropOwnS, binD, binBD, binBool, binInt, binStr, unD, AOpd.drop, Cell.of, AOp.kind, sameKind, assertD, eqlB, isUndef, takeC, unownAt, fits, layCells, putCells, putD, fillD, partsOf, optLo, optHi, allSize, Option.getD_some, Option.getD_none, runDefers, readRes, readRes1, readRess, Nat.reduceAdd, Nat.reduceSub, Nat.reduceMul, Nat.reduceBEq, Bool.false_and, Bool.true_and, Bool.and_true, Bool.and_false, Nat.zero_add, Nat.add_zero, beq_self_eq_true, Bool.true_beq, Bool.false_beq, Bool.not_true, Bool.not_false, decide_true, decide_false, bindO, List.map_cons, List.map_nil, List.length_cons, List.length_nil, List.append_nil, List.nil_append, List.cons_append, List.isEmpty_nil, List.isEmpty_cons, Nat.reduceLeDiff, Int.reduceBEq, Int.reduceNeg, Nat.le_refl, hi]
end
theorem upperP_run : Evly fun n => ∀ s σ, TP n 24 [.str s] σ = some (.ret ⟨false, .bool (upperB s)⟩, σ) := (Evly.all (p := fun _ => True) fun _ => trivial).step 0 fun m _ _ s σ => by rw [TP_lib rfl]; rfl
set_option maxHeartbeats 2000000 in
theorem told_run (v : V) (hf : Fit v) : ∀ d, d < 1000000 → Evly fun n => ∀ σ, TP n 27 [dV v, .int .i64 ((d : Nat) : Int)] σ = some (.ret ⟨false, .bool (told v d)⟩, σ) := by
  induction hf with
  | mk f n s ks hks hk ih =>
    intro d hd
    have hkids : Evly fun m => ∀ i, i < ks.length → ∀ (h : i < ks.length) σ, TP m 27 [dV ks[i], .int .i64 (((d - 1 : Nat)) : Int)] σ = some (.ret ⟨false, .bool (told ks[i] (d - 1))⟩, σ) :=
      Evly.below _ fun i hi => (ih ks[i] (List.getElem_mem hi) (d - 1) (by omega)).mono fun n hn _ σ => hn σ
    refine (hkids.and upperP_run).step (ks.length + 1) fun m hm ⟨hrun, hup⟩ σ => ?_
    rw [TP_fun (af := a27) rfl rfl]
    have hva : ∀ f n s ks, dV (.mk f n s ks) = .agg [.int .i64 f, .int .i64 n, .str s, dlist kV (ks.map dV)] := fun f n s ks => dV_eq _
    rw [hva]
    have hup := hup s σ
    have hz : ∀ b, (ks.length == 0) = b → (((ks.length : Nat) : Int) == 0) = b := fun b hb => by
      cases b
      · simp at hb ⊢; intro e; exact hb (by simpa using e)
      · simp at hb ⊢; simpa using hb
    cases h2 : f == 2 with
    | true =>
      cases hs : s == [] with
      | false => simp only [told, h2, hs, a27, sy0, sy1, sy2, sy3, sy4, sy5, clearEnv, adel, mem, initEnv, initSlots, stepOp, wantedA, evalOp, callOf, panicOf, evalV, addr, opd, opds, aget, aset, adel1, lkill, readCells, nth, Env.put, Env.putV, Env.box, Env.bare, dropOwn, dropOwnS, binD, binBD, binBool, binInt, binStr, unD, AOpd.drop, Cell.of, AOp.kind, sameKind, assertD, eqlB, isUndef, takeC, unownAt, fits, layCells, putCells, putD, fillD, partsOf, optLo, optHi, allSize, Option.getD_some, Option.getD_none, runDefers, readRes, readRes1, readRess, Nat.reduceAdd, Nat.reduceSub, Nat.reduceMul, Nat.reduceBEq, Bool.false_and, Bool.true_and, Bool.and_true, Bool.and_false, Nat.zero_add, Nat.add_zero, beq_self_eq_true, Bool.true_beq, Bool.false_beq, Bool.not_true, Bool.not_false, decide_true, decide_false, bindO, List.map_cons, List.map_nil, List.length_cons, List.length_nil, List.append_nil, List.nil_append, List.cons_append, List.isEmpty_nil, List.isEmpty_cons, Nat.reduceLeDiff, Int.reduceBEq, Int.reduceNeg, Nat.le_refl]
      | true =>
        cases hl : ks.length == 0 with
        | false => simp only [told, h2, hs, hl, hz _ hl, a27, sy0, sy1, sy2, sy3, sy4, sy5, clearEnv, adel, mem, initEnv, initSlots, stepOp, wantedA, evalOp, callOf, panicOf, evalV, addr, opd, opds, aget, aset, adel1, lkill, readCells, nth, Env.put, Env.putV, Env.box, Env.bare, dropOwn, dropOwnS, binD, binBD, binBool, binInt, binStr, unD, AOpd.drop, Cell.of, AOp.kind, sameKind, assertD, eqlB, isUndef, takeC, unownAt, fits, layCells, putCells, putD, fillD, partsOf, optLo, optHi, allSize, Option.getD_some, Option.getD_none, runDefers, readRes, readRes1, readRess, Nat.reduceAdd, Nat.reduceSub, Nat.reduceMul, Nat.reduceBEq, Bool.false_and, Bool.true_and, Bool.and_true, Bool.and_false, Nat.zero_add, Nat.add_zero, beq_self_eq_true, Bool.true_beq, Bool.false_beq, Bool.not_true, Bool.not_false, decide_true, decide_false, bindO, List.map_cons, List.map_nil, List.length_cons, List.length_nil, List.append_nil, List.nil_append, List.cons_append, List.isEmpty_nil, List.isEmpty_cons, Nat.reduceLeDiff, Int.reduceBEq, Int.reduceNeg, Nat.le_refl, List.length_map]
        | true => simp only [told, h2, hs, hl, hz _ hl, a27, sy0, sy1, sy2, sy3, sy4, sy5, clearEnv, adel, mem, initEnv, initSlots, stepOp, wantedA, evalOp, callOf, panicOf, evalV, addr, opd, opds, aget, aset, adel1, lkill, readCells, nth, Env.put, Env.putV, Env.box, Env.bare, dropOwn, dropOwnS, binD, binBD, binBool, binInt, binStr, unD, AOpd.drop, Cell.of, AOp.kind, sameKind, assertD, eqlB, isUndef, takeC, unownAt, fits, layCells, putCells, putD, fillD, partsOf, optLo, optHi, allSize, Option.getD_some, Option.getD_none, runDefers, readRes, readRes1, readRess, Nat.reduceAdd, Nat.reduceSub, Nat.reduceMul, Nat.reduceBEq, Bool.false_and, Bool.true_and, Bool.and_true, Bool.and_false, Nat.zero_add, Nat.add_zero, beq_self_eq_true, Bool.true_beq, Bool.false_beq, Bool.not_true, Bool.not_false, decide_true, decide_false, bindO, List.map_cons, List.map_nil, List.length_cons, List.length_nil, List.append_nil, List.nil_append, List.cons_append, List.isEmpty_nil, List.isEmpty_cons, Nat.reduceLeDiff, Int.reduceBEq, Int.reduceNeg, Nat.le_refl, List.length_map]
    | false =>
    cases h3 : f == 3 with
    | true =>
      cases hs : s == [] with
      | false => simp only [told, h2, h3, hs, a27, sy0, sy1, sy2, sy3, sy4, sy5, clearEnv, adel, mem, initEnv, initSlots, stepOp, wantedA, evalOp, callOf, panicOf, evalV, addr, opd, opds, aget, aset, adel1, lkill, readCells, nth, Env.put, Env.putV, Env.box, Env.bare, dropOwn, dropOwnS, binD, binBD, binBool, binInt, binStr, unD, AOpd.drop, Cell.of, AOp.kind, sameKind, assertD, eqlB, isUndef, takeC, unownAt, fits, layCells, putCells, putD, fillD, partsOf, optLo, optHi, allSize, Option.getD_some, Option.getD_none, runDefers, readRes, readRes1, readRess, Nat.reduceAdd, Nat.reduceSub, Nat.reduceMul, Nat.reduceBEq, Bool.false_and, Bool.true_and, Bool.and_true, Bool.and_false, Nat.zero_add, Nat.add_zero, beq_self_eq_true, Bool.true_beq, Bool.false_beq, Bool.not_true, Bool.not_false, decide_true, decide_false, bindO, List.map_cons, List.map_nil, List.length_cons, List.length_nil, List.append_nil, List.nil_append, List.cons_append, List.isEmpty_nil, List.isEmpty_cons, Nat.reduceLeDiff, Int.reduceBEq, Int.reduceNeg, Nat.le_refl]
      | true =>
        cases hl : ks.length == 0 with
        | false => simp only [told, h2, h3, hs, hl, hz _ hl, a27, sy0, sy1, sy2, sy3, sy4, sy5, clearEnv, adel, mem, initEnv, initSlots, stepOp, wantedA, evalOp, callOf, panicOf, evalV, addr, opd, opds, aget, aset, adel1, lkill, readCells, nth, Env.put, Env.putV, Env.box, Env.bare, dropOwn, dropOwnS, binD, binBD, binBool, binInt, binStr, unD, AOpd.drop, Cell.of, AOp.kind, sameKind, assertD, eqlB, isUndef, takeC, unownAt, fits, layCells, putCells, putD, fillD, partsOf, optLo, optHi, allSize, Option.getD_some, Option.getD_none, runDefers, readRes, readRes1, readRess, Nat.reduceAdd, Nat.reduceSub, Nat.reduceMul, Nat.reduceBEq, Bool.false_and, Bool.true_and, Bool.and_true, Bool.and_false, Nat.zero_add, Nat.add_zero, beq_self_eq_true, Bool.true_beq, Bool.false_beq, Bool.not_true, Bool.not_false, decide_true, decide_false, bindO, List.map_cons, List.map_nil, List.length_cons, List.length_nil, List.append_nil, List.nil_append, List.cons_append, List.isEmpty_nil, List.isEmpty_cons, Nat.reduceLeDiff, Int.reduceBEq, Int.reduceNeg, Nat.le_refl, List.length_map]
        | true =>
          cases hn : n == 0 with
          | false => simp only [told, h2, h3, hs, hl, hn, hz _ hl, a27, sy0, sy1, sy2, sy3, sy4, sy5, clearEnv, adel, mem, initEnv, initSlots, stepOp, wantedA, evalOp, callOf, panicOf, evalV, addr, opd, opds, aget, aset, adel1, lkill, readCells, nth, Env.put, Env.putV, Env.box, Env.bare, dropOwn, dropOwnS, binD, binBD, binBool, binInt, binStr, unD, AOpd.drop, Cell.of, AOp.kind, sameKind, assertD, eqlB, isUndef, takeC, unownAt, fits, layCells, putCells, putD, fillD, partsOf, optLo, optHi, allSize, Option.getD_some, Option.getD_none, runDefers, readRes, readRes1, readRess, Nat.reduceAdd, Nat.reduceSub, Nat.reduceMul, Nat.reduceBEq, Bool.false_and, Bool.true_and, Bool.and_true, Bool.and_false, Nat.zero_add, Nat.add_zero, beq_self_eq_true, Bool.true_beq, Bool.false_beq, Bool.not_true, Bool.not_false, decide_true, decide_false, bindO, List.map_cons, List.map_nil, List.length_cons, List.length_nil, List.append_nil, List.nil_append, List.cons_append, List.isEmpty_nil, List.isEmpty_cons, Nat.reduceLeDiff, Int.reduceBEq, Int.reduceNeg, Nat.le_refl, List.length_map]
          | true => simp only [told, h2, h3, hs, hl, hn, hz _ hl, a27, sy0, sy1, sy2, sy3, sy4, sy5, clearEnv, adel, mem, initEnv, initSlots, stepOp, wantedA, evalOp, callOf, panicOf, evalV, addr, opd, opds, aget, aset, adel1, lkill, readCells, nth, Env.put, Env.putV, Env.box, Env.bare, dropOwn, dropOwnS, binD, binBD, binBool, binInt, binStr, unD, AOpd.drop, Cell.of, AOp.kind, sameKind, assertD, eqlB, isUndef, takeC, unownAt, fits, layCells, putCells, putD, fillD, partsOf, optLo, optHi, allSize, Option.getD_some, Option.getD_none, runDefers, readRes, readRes1, readRess, Nat.reduceAdd, Nat.reduceSub, Nat.reduceMul, Nat.reduceBEq, Bool.false_and, Bool.true_and, Bool.and_true, Bool.and_false, Nat.zero_add, Nat.add_zero, beq_self_eq_true, Bool.true_beq, Bool.false_beq, Bool.not_true, Bool.not_false, decide_true, decide_false, bindO, List.map_cons, List.map_nil, List.length_cons, List.length_nil, List.append_nil, List.nil_append, List.cons_append, List.isEmpty_nil, List.isEmpty_cons, Nat.reduceLeDiff, Int.reduceBEq, Int.reduceNeg, Nat.le_refl, List.length_map]
    | false =>
    cases h4 : f == 4 with
    | true =>
      cases hs : s == [] with
      | false => simp only [told, h2, h3, h4, hs, a27, sy0, sy1, sy2, sy3, sy4, sy5, clearEnv, adel, mem, initEnv, initSlots, stepOp, wantedA, evalOp, callOf, panicOf, evalV, addr, opd, opds, aget, aset, adel1, lkill, readCells, nth, Env.put, Env.putV, Env.box, Env.bare, dropOwn, dropOwnS, binD, binBD, binBool, binInt, binStr, unD, AOpd.drop, Cell.of, AOp.kind, sameKind, assertD, eqlB, isUndef, takeC, unownAt, fits, layCells, putCells, putD, fillD, partsOf, optLo, optHi, allSize, Option.getD_some, Option.getD_none, runDefers, readRes, readRes1, readRess, Nat.reduceAdd, Nat.reduceSub, Nat.reduceMul, Nat.reduceBEq, Bool.false_and, Bool.true_and, Bool.and_true, Bool.and_false, Nat.zero_add, Nat.add_zero, beq_self_eq_true, Bool.true_beq, Bool.false_beq, Bool.not_true, Bool.not_false, decide_true, decide_false, bindO, List.map_cons, List.map_nil, List.length_cons, List.length_nil, List.append_nil, List.nil_append, List.cons_append, List.isEmpty_nil, List.isEmpty_cons, Nat.reduceLeDiff, Int.reduceBEq, Int.reduceNeg, Nat.le_refl]
      | true =>
        cases hl : ks.length == 0 with
        | false => simp only [told, h2, h3, h4, hs, hl, hz _ hl, a27, sy0, sy1, sy2, sy3, sy4, sy5, clearEnv, adel, mem, initEnv, initSlots, stepOp, wantedA, evalOp, callOf, panicOf, evalV, addr, opd, opds, aget, aset, adel1, lkill, readCells, nth, Env.put, Env.putV, Env.box, Env.bare, dropOwn, dropOwnS, binD, binBD, binBool, binInt, binStr, unD, AOpd.drop, Cell.of, AOp.kind, sameKind, assertD, eqlB, isUndef, takeC, unownAt, fits, layCells, putCells, putD, fillD, partsOf, optLo, optHi, allSize, Option.getD_some, Option.getD_none, runDefers, readRes, readRes1, readRess, Nat.reduceAdd, Nat.reduceSub, Nat.reduceMul, Nat.reduceBEq, Bool.false_and, Bool.true_and, Bool.and_true, Bool.and_false, Nat.zero_add, Nat.add_zero, beq_self_eq_true, Bool.true_beq, Bool.false_beq, Bool.not_true, Bool.not_false, decide_true, decide_false, bindO, List.map_cons, List.map_nil, List.length_cons, List.length_nil, List.append_nil, List.nil_append, List.cons_append, List.isEmpty_nil, List.isEmpty_cons, Nat.reduceLeDiff, Int.reduceBEq, Int.reduceNeg, Nat.le_refl, List.length_map]
        | true =>
          cases hn : n == 0 with
          | false => simp only [told, h2, h3, h4, hs, hl, hn, hz _ hl, a27, sy0, sy1, sy2, sy3, sy4, sy5, clearEnv, adel, mem, initEnv, initSlots, stepOp, wantedA, evalOp, callOf, panicOf, evalV, addr, opd, opds, aget, aset, adel1, lkill, readCells, nth, Env.put, Env.putV, Env.box, Env.bare, dropOwn, dropOwnS, binD, binBD, binBool, binInt, binStr, unD, AOpd.drop, Cell.of, AOp.kind, sameKind, assertD, eqlB, isUndef, takeC, unownAt, fits, layCells, putCells, putD, fillD, partsOf, optLo, optHi, allSize, Option.getD_some, Option.getD_none, runDefers, readRes, readRes1, readRess, Nat.reduceAdd, Nat.reduceSub, Nat.reduceMul, Nat.reduceBEq, Bool.false_and, Bool.true_and, Bool.and_true, Bool.and_false, Nat.zero_add, Nat.add_zero, beq_self_eq_true, Bool.true_beq, Bool.false_beq, Bool.not_true, Bool.not_false, decide_true, decide_false, bindO, List.map_cons, List.map_nil, List.length_cons, List.length_nil, List.append_nil, List.nil_append, List.cons_append, List.isEmpty_nil, List.isEmpty_cons, Nat.reduceLeDiff, Int.reduceBEq, Int.reduceNeg, Nat.le_refl, List.length_map]
          | true => simp only [told, h2, h3, h4, hs, hl, hn, hz _ hl, a27, sy0, sy1, sy2, sy3, sy4, sy5, clearEnv, adel, mem, initEnv, initSlots, stepOp, wantedA, evalOp, callOf, panicOf, evalV, addr, opd, opds, aget, aset, adel1, lkill, readCells, nth, Env.put, Env.putV, Env.box, Env.bare, dropOwn, dropOwnS, binD, binBD, binBool, binInt, binStr, unD, AOpd.drop, Cell.of, AOp.kind, sameKind, assertD, eqlB, isUndef, takeC, unownAt, fits, layCells, putCells, putD, fillD, partsOf, optLo, optHi, allSize, Option.getD_some, Option.getD_none, runDefers, readRes, readRes1, readRess, Nat.reduceAdd, Nat.reduceSub, Nat.reduceMul, Nat.reduceBEq, Bool.false_and, Bool.true_and, Bool.and_true, Bool.and_false, Nat.zero_add, Nat.add_zero, beq_self_eq_true, Bool.true_beq, Bool.false_beq, Bool.not_true, Bool.not_false, decide_true, decide_false, bindO, List.map_cons, List.map_nil, List.length_cons, List.length_nil, List.append_nil, List.nil_append, List.cons_append, List.isEmpty_nil, List.isEmpty_cons, Nat.reduceLeDiff, Int.reduceBEq, Int.reduceNeg, Nat.le_refl, List.length_map]
    | false =>
    cases h1 : f == 1 with
    | false => simp only [told, h2, h3, h4, h1, a27, sy0, sy1, sy2, sy3, sy4, sy5, clearEnv, adel, mem, initEnv, initSlots, stepOp, wantedA, evalOp, callOf, panicOf, evalV, addr, opd, opds, aget, aset, adel1, lkill, readCells, nth, Env.put, Env.putV, Env.box, Env.bare, dropOwn, dropOwnS, binD, binBD, binBool, binInt, binStr, unD, AOpd.drop, Cell.of, AOp.kind, sameKind, assertD, eqlB, isUndef, takeC, unownAt, fits, layCells, putCells, putD, fillD, partsOf, optLo, optHi, allSize, Option.getD_some, Option.getD_none, runDefers, readRes, readRes1, readRess, Nat.reduceAdd, Nat.reduceSub, Nat.reduceMul, Nat.reduceBEq, Bool.false_and, Bool.true_and, Bool.and_true, Bool.and_false, Nat.zero_add, Nat.add_zero, beq_self_eq_true, Bool.true_beq, Bool.false_beq, Bool.not_true, Bool.not_false, decide_true, decide_false, bindO, List.map_cons, List.map_nil, List.length_cons, List.length_nil, List.append_nil, List.nil_append, List.cons_append, List.isEmpty_nil, List.isEmpty_cons, Nat.reduceLeDiff, Int.reduceBEq, Int.reduceNeg, Nat.le_refl]
    | true =>
      cases d with
      | zero =>
        have hd0 : (((0 : Nat) : Int) == 0) = true := rfl
        simp only [told, h2, h3, h4, h1, hd0, bne_self_eq_false, a27, sy0, sy1, sy2, sy3, sy4, sy5, clearEnv, adel, mem, initEnv, initSlots, stepOp, wantedA, evalOp, callOf, panicOf, evalV, addr, opd, opds, aget, aset, adel1, lkill, readCells, nth, Env.put, Env.putV, Env.box, Env.bare, dropOwn, dropOwnS, binD, binBD, binBool, binInt, binStr, unD, AOpd.drop, Cell.of, AOp.kind, sameKind, assertD, eqlB, isUndef, takeC, unownAt, fits, layCells, putCells, putD, fillD, partsOf, optLo, optHi, allSize, Option.getD_some, Option.getD_none, runDefers, readRes, readRes1, readRess, Nat.reduceAdd, Nat.reduceSub, Nat.reduceMul, Nat.reduceBEq, Bool.false_and, Bool.true_and, Bool.and_true, Bool.and_false, Nat.zero_add, Nat.add_zero, beq_self_eq_true, Bool.true_beq, Bool.false_beq, Bool.not_true, Bool.not_false, decide_true, decide_false, bindO, List.map_cons, List.map_nil, List.length_cons, List.length_nil, List.append_nil, List.nil_append, List.cons_append, List.isEmpty_nil, List.isEmpty_cons, Nat.reduceLeDiff, Int.reduceBEq, Int.reduceNeg, Nat.le_refl]
      | succ d =>
        have hd0 : (((d + 1 : Nat) : Int) == 0) = false := by simp; omega
        have hd1 : (d + 1 != 0) = true := by simp
        cases hn : n == 0 with
        | false =>
          have gn : (n != 0) = true := by simp [bne, hn]
          simp only [told, h2, h3, h4, h1, hd0, hd1, hn, gn, a27, sy0, sy1, sy2, sy3, sy4, sy5, clearEnv, adel, mem, initEnv, initSlots, stepOp, wantedA, evalOp, callOf, panicOf, evalV, addr, opd, opds, aget, aset, adel1, lkill, readCells, nth, Env.put, Env.putV, Env.box, Env.bare, dropOwn, dropOwnS, binD, binBD, binBool, binInt, binStr, unD, AOpd.drop, Cell.of, AOp.kind, sameKind, assertD, eqlB, isUndef, takeC, unownAt, fits, layCells, putCells, putD, fillD, partsOf, optLo, optHi, allSize, Option.getD_some, Option.getD_none, runDefers, readRes, readRes1, readRess, Nat.reduceAdd, Nat.reduceSub, Nat.reduceMul, Nat.reduceBEq, Bool.false_and, Bool.true_and, Bool.and_true, Bool.and_false, Nat.zero_add, Nat.add_zero, beq_self_eq_true, Bool.true_beq, Bool.false_beq, Bool.not_true, Bool.not_false, decide_true, decide_false, bindO, List.map_cons, List.map_nil, List.length_cons, List.length_nil, List.append_nil, List.nil_append, List.cons_append, List.isEmpty_nil, List.isEmpty_cons, Nat.reduceLeDiff, Int.reduceBEq, Int.reduceNeg, Nat.le_refl]
        | true =>
          have gn : (n != 0) = false := by simp [bne, hn]
          cases hu : upperB s with
          | false =>
            rw [hu] at hup
            simp only [told, h2, h3, h4, h1, hd0, hd1, hn, gn, hu, hup, a27, sy0, sy1, sy2, sy3, sy4, sy5, clearEnv, adel, mem, initEnv, initSlots, stepOp, wantedA, evalOp, callOf, panicOf, evalV, addr, opd, opds, aget, aset, adel1, lkill, readCells, nth, Env.put, Env.putV, Env.box, Env.bare, dropOwn, dropOwnS, binD, binBD, binBool, binInt, binStr, unD, AOpd.drop, Cell.of, AOp.kind, sameKind, assertD, eqlB, isUndef, takeC, unownAt, fits, layCells, putCells, putD, fillD, partsOf, optLo, optHi, allSize, Option.getD_some, Option.getD_none, runDefers, readRes, readRes1, readRess, Nat.reduceAdd, Nat.reduceSub, Nat.reduceMul, Nat.reduceBEq, Bool.false_and, Bool.true_and, Bool.and_true, Bool.and_false, Nat.zero_add, Nat.add_zero, beq_self_eq_true, Bool.true_beq, Bool.false_beq, Bool.not_true, Bool.not_false, decide_true, decide_false, bindO, List.map_cons, List.map_nil, List.length_cons, List.length_nil, List.append_nil, List.nil_append, List.cons_append, List.isEmpty_nil, List.isEmpty_cons, Nat.reduceLeDiff, Int.reduceBEq, Int.reduceNeg, Nat.le_refl]
          | true =>
            rw [hu] at hup
            by_cases h8 : ks.length ≤ 8
            · have g8 : ¬ ((ks.length : Int) > 8) := by omega
              have hloop := loopN_until (body := exec (TP m) m a27_l0) (E27 ks d) (fun _ => σ) ks.length (atT ks d) (stop := fun _ => (.ret, { slots := [(4, ⟨false, .bool false⟩)], locs := [], boxes := [], defers := [] }, σ)) (fun _ _ h => by cases h) (fun _ _ _ h => by cases h)
                (fun i hi hp => l27_step hi hks (by omega) (by
                  rw [atT_get hi] at hp
                  have := hrun i hi hi σ
                  simp only [Nat.add_sub_cancel] at this
                  rw [hp] at this
                  exact this))
                (fun i hi hp => l27_stop hi (by omega) (by
                  rw [atT_get hi] at hp
                  have := hrun i hi hi σ
                  simp only [Nat.add_sub_cancel] at this
                  rw [hp] at this
                  exact this))
                l27_end m 0 (by omega) (by omega)
              simp only [E27, zeroI] at hloop
              rcases hloop with ⟨i, _, hi, hp, _, hrest⟩ | ⟨hp, hrest⟩
              · have hv := tolds_false hi hp
                simp only [told, h2, h3, h4, h1, hd0, hd1, hn, gn, hu, hup, h8, g8, hv, Nat.add_sub_cancel, a27, sy0, sy1, sy2, sy3, sy4, sy5, clearEnv, adel, mem, initEnv, initSlots, stepOp, wantedA, evalOp, callOf, panicOf, evalV, addr, opd, opds, aget, aset, adel1, lkill, readCells, nth, Env.put, Env.putV, Env.box, Env.bare, dropOwn, dropOwnS, binD, binBD, binBool, binInt, binStr, unD, AOpd.drop, Cell.of, AOp.kind, sameKind, assertD, eqlB, isUndef, takeC, unownAt, fits, layCells, putCells, putD, fillD, partsOf, optLo, optHi, allSize, Option.getD_some, Option.getD_none, runDefers, readRes, readRes1, readRess, Nat.reduceAdd, Nat.reduceSub, Nat.reduceMul, Nat.reduceBEq, Bool.false_and, Bool.true_and, Bool.and_true, Bool.and_false, Nat.zero_add, Nat.add_zero, beq_self_eq_true, Bool.true_beq, Bool.false_beq, Bool.not_true, Bool.not_false, decide_true, decide_false, bindO, List.map_cons, List.map_nil, List.length_cons, List.length_nil, List.append_nil, List.nil_append, List.cons_append, List.isEmpty_nil, List.isEmpty_cons, Nat.reduceLeDiff, Int.reduceBEq, Int.reduceNeg, Nat.le_refl, List.length_map, hrest]
              · have hv := tolds_true hp
                simp only [told, h2, h3, h4, h1, hd0, hd1, hn, gn, hu, hup, h8, g8, hv, Nat.add_sub_cancel, a27, sy0, sy1, sy2, sy3, sy4, sy5, clearEnv, adel, mem, initEnv, initSlots, stepOp, wantedA, evalOp, callOf, panicOf, evalV, addr, opd, opds, aget, aset, adel1, lkill, readCells, nth, Env.put, Env.putV, Env.box, Env.bare, dropOwn, dropOwnS, binD, binBD, binBool, binInt, binStr, unD, AOpd.drop, Cell.of, AOp.kind, sameKind, assertD, eqlB, isUndef, takeC, unownAt, fits, layCells, putCells, putD, fillD, partsOf, optLo, optHi, allSize, Option.getD_some, Option.getD_none, runDefers, readRes, readRes1, readRess, Nat.reduceAdd, Nat.reduceSub, Nat.reduceMul, Nat.reduceBEq, Bool.false_and, Bool.true_and, Bool.and_true, Bool.and_false, Nat.zero_add, Nat.add_zero, beq_self_eq_true, Bool.true_beq, Bool.false_beq, Bool.not_true, Bool.not_false, decide_true, decide_false, bindO, List.map_cons, List.map_nil, List.length_cons, List.length_nil, List.append_nil, List.nil_append, List.cons_append, List.isEmpty_nil, List.isEmpty_cons, Nat.reduceLeDiff, Int.reduceBEq, Int.reduceNeg, Nat.le_refl, List.length_map, hrest]
            · have g8 : ((ks.length : Int) > 8) := by omega
              simp only [told, h2, h3, h4, h1, hd0, hd1, hn, gn, hu, hup, h8, g8, a27, sy0, sy1, sy2, sy3, sy4, sy5, clearEnv, adel, mem, initEnv, initSlots, stepOp, wantedA, evalOp, callOf, panicOf, evalV, addr, opd, opds, aget, aset, adel1, lkill, readCells, nth, Env.put, Env.putV, Env.box, Env.bare, dropOwn, dropOwnS, binD, binBD, binBool, binInt, binStr, unD, AOpd.drop, Cell.of, AOp.kind, sameKind, assertD, eqlB, isUndef, takeC, unownAt, fits, layCells, putCells, putD, fillD, partsOf, optLo, optHi, allSize, Option.getD_some, Option.getD_none, runDefers, readRes, readRes1, readRess, Nat.reduceAdd, Nat.reduceSub, Nat.reduceMul, Nat.reduceBEq, Bool.false_and, Bool.true_and, Bool.and_true, Bool.and_false, Nat.zero_add, Nat.add_zero, beq_self_eq_true, Bool.true_beq, Bool.false_beq, Bool.not_true, Bool.not_false, decide_true, decide_false, bindO, List.map_cons, List.map_nil, List.length_cons, List.length_nil, List.append_nil, List.nil_append, List.cons_append, List.isEmpty_nil, List.isEmpty_cons, Nat.reduceLeDiff, Int.reduceBEq, Int.reduceNeg, Nat.le_refl, List.length_map]
end Go.Proofs.YtdoppkjoemlhjaaDoor.Sh

