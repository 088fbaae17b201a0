/-
  The reader of prints, at any text: it ends with a value or with the one panic that Read recovers.
-/
import Derived.Test.YtdoppkjoemlhjaaDoorShRead
set_option linter.unusedSimpArgs false
set_option linter.unusedVariables false
namespace Go.Proofs.YtdoppkjoemlhjaaDoor.Sh
open Go Go.Mx
set_option maxRecDepth 10000
theorem small0 : Small' 0 := ⟨by decide, by decide⟩
def bad : D := .iface 58 (.agg [])
theorem must_no : Evly fun n => ∀ σ, TR n 36 [.bool false] σ = some (.panic bad, σ) := (Evly.all (p := fun _ => True) fun _ => trivial).step 0 fun m _ _ σ => by
  rw [TR_fun (af := a36) rfl rfl]
  simp only [a36, sy0, sy1, sy2, sy3, sy4, sy5, clearEnv, adel, mem, initEnv, initSlots, stepOp, wantedA, evalOp, callOf, panicOf, evalV, addr, opd, opds, aget, aset, adel1, lkill, readCells, nth, Env.put, Env.putV, Env.box, Env.bare, dropOwn, dropOwnS, binD, binBD, binBool, binInt, binStr, unD, AOpd.drop, Cell.of, AOp.kind, sameKind, assertD, eqlB, isUndef, takeC, unownAt, fits, layCells, putCells, putD, fillD, partsOf, optLo, optHi, allSize, Option.getD_some, Option.getD_none, runDefers, readRes, readRes1, readRess, Nat.reduceAdd, Nat.reduceSub, Nat.reduceMul, Nat.reduceBEq, Bool.false_and, Bool.true_and, Bool.and_true, Bool.and_false, Nat.zero_add, Nat.add_zero, beq_self_eq_true, Bool.true_beq, Bool.false_beq, Bool.not_true, Bool.not_false, decide_true, decide_false, bindO, List.map_cons, List.map_nil, List.length_cons, List.length_nil, List.append_nil, List.nil_append, List.cons_append, List.isEmpty_nil, List.isEmpty_cons, Nat.reduceLeDiff, Int.reduceBEq, Int.reduceNeg, Nat.le_refl]
  rfl
theorem indexG_run : Evly fun n => ∀ l, l.length < 1000000 → ∃ i : Int, -1 ≤ i ∧ i < (l.length : Int) ∧ ∀ σ, TR n 64 [.str l, .str [32, 41]] σ = some (.ret ⟨false, .int .i64 i⟩, σ) := (Evly.all (p := fun _ => True) fun _ => trivial).step 0 fun m _ _ l hl => by
  obtain ⟨i, h1, h2, h3⟩ := xAny_some l (by omega)
  refine ⟨i, h1, h2, fun σ => ?_⟩
  rw [TR_lib rfl]
  show bindO (xAny [.str l, .str [32, 41]]) _ = _
  rw [h3]
  rfl
theorem wordG_run : Evly fun n => ∀ l, l.length < 1000000 → ∃ w l', w.length + l'.length = l.length ∧ ∀ ts d nx nx', Tops ts nx' → TR n 56 [.ptr 2 0] (SRd ts l d nx) = some (.ret ⟨false, .str w⟩, SRd ts l' d nx) := by
  refine indexG_run.step 0 fun m _ hx l hl => ?_
  obtain ⟨i, h1, h2, hx⟩ := hx l hl
  by_cases hi : i < 0
  · refine ⟨l, [], by simp, fun ts d nx nx' ht => ?_⟩
    have hx := hx (SRd ts l d nx)
    have hs1 : sliceStr l 0 (some l.length) = some (.str l) := by
      rw [slice_str_to (by simp)]
      simp
    have hs2 : sliceStr l l.length none = some (.str []) := by
      rw [slice_str_from (by simp)]
      simp
    have g : ∀ l, aget (SRd ts l d nx).objs 2 = some [⟨false, .str l⟩, ⟨false, .int .i64 d⟩] := fun l => SRd_get ht
    have u : ∀ l l', ({ objs := aset (SRd ts l d nx).objs 2 [⟨false, .str l'⟩, ⟨false, .int .i64 d⟩], tys := (SRd ts l d nx).tys, iters := (SRd ts l d nx).iters, next := nx } : Store) = SRd ts l' d nx := fun l l' => SRd_set ht
    rw [TR_fun (af := a56) rfl rfl]
    simp only [a56, sy0, sy1, sy2, sy3, sy4, sy5, clearEnv, adel, mem, initEnv, initSlots, stepOp, wantedA, evalOp, callOf, panicOf, evalV, addr, opd, opds, aget, aset, adel1, lkill, readCells, nth, Env.put, Env.putV, Env.box, Env.bare, dropOwn, dropOwnS, binD, binBD, binBool, binInt, binStr, unD, AOpd.drop, Cell.of, AOp.kind, sameKind, assertD, eqlB, isUndef, takeC, unownAt, fits, layCells, putCells, putD, fillD, partsOf, optLo, optHi, allSize, Option.getD_some, Option.getD_none, runDefers, readRes, readRes1, readRess, Nat.reduceAdd, Nat.reduceSub, Nat.reduceMul, Nat.reduceBEq, Bool.false_and, Bool.true_and, Bool.and_true, Bool.and_false, Nat.zero_add, Nat.add_zero, beq_self_eq_true, Bool.true_beq, Bool.false_beq, Bool.not_true, Bool.not_false, decide_true, decide_false, bindO, List.map_cons, List.map_nil, List.length_cons, List.length_nil, List.append_nil, List.nil_append, List.cons_append, List.isEmpty_nil, List.isEmpty_cons, Nat.reduceLeDiff, Int.reduceBEq, Int.reduceNeg, Nat.le_refl, hx, hi, g, u, SRd_next, hs1, hs2]
  · obtain ⟨k, rfl⟩ : ∃ k : Nat, i = k := ⟨i.toNat, by omega⟩
    have hk : k ≤ l.length := by omega
    refine ⟨l.take k, l.drop k, by simp; omega, fun ts d nx nx' ht => ?_⟩
    have hx := hx (SRd ts l d nx)
    have hs1 := slice_str_to hk
    have hs2 := slice_str_from hk
    have g : ∀ l, aget (SRd ts l d nx).objs 2 = some [⟨false, .str l⟩, ⟨false, .int .i64 d⟩] := fun l => SRd_get ht
    have u : ∀ l l', ({ objs := aset (SRd ts l d nx).objs 2 [⟨false, .str l'⟩, ⟨false, .int .i64 d⟩], tys := (SRd ts l d nx).tys, iters := (SRd ts l d nx).iters, next := nx } : Store) = SRd ts l' d nx := fun l l' => SRd_set ht
    rw [TR_fun (af := a56) rfl rfl]
    simp only [a56, sy0, sy1, sy2, sy3, sy4, sy5, clearEnv, adel, mem, initEnv, initSlots, stepOp, wantedA, evalOp, callOf, panicOf, evalV, addr, opd, opds, aget, aset, adel1, lkill, readCells, nth, Env.put, Env.putV, Env.box, Env.bare, dropOwn, dropOwnS, binD, binBD, binBool, binInt, binStr, unD, AOpd.drop, Cell.of, AOp.kind, sameKind, assertD, eqlB, isUndef, takeC, unownAt, fits, layCells, putCells, putD, fillD, partsOf, optLo, optHi, allSize, Option.getD_some, Option.getD_none, runDefers, readRes, readRes1, readRess, Nat.reduceAdd, Nat.reduceSub, Nat.reduceMul, Nat.reduceBEq, Bool.false_and, Bool.true_and, Bool.and_true, Bool.and_false, Nat.zero_add, Nat.add_zero, beq_self_eq_true, Bool.true_beq, Bool.false_beq, Bool.not_true, Bool.not_false, decide_true, decide_false, bindO, List.map_cons, List.map_nil, List.length_cons, List.length_nil, List.append_nil, List.nil_append, List.cons_append, List.isEmpty_nil, List.isEmpty_cons, Nat.reduceLeDiff, Int.reduceBEq, Int.reduceNeg, Nat.le_refl, hx, hi, g, u, SRd_next, hs1, hs2]
def AtoiR (s : List UInt8) : Option Int := match Lib.atoiAll s with
  | .ok v => some v
  | _ => none
theorem atoiG_run : Evly fun n => ∀ s, s.length < 1000000 → ∀ σ, TR n 57 [.str s] σ = some (.ret ⟨false, match AtoiR s with | some v => .tup [.int .i64 v, .niliface] | none => .tup [.junk, .iface 108 .junk]⟩, σ) := (Evly.all (p := fun _ => True) fun _ => trivial).step 0 fun n _ _ s hs σ => by
  rw [TR_lib rfl]
  show bindO (xAtoi [.str s]) _ = _
  have h1 : decide (s.length ≤ 281474976710656) = true := decide_eq_true (by omega)
  unfold AtoiR
  cases h : Lib.atoiAll s <;> simp only [xAtoi, h1, ifB_true, h, bindO, caseO_some]
/-- What the reader has of so much text. -/
structure Got (v : V) (l l' : List UInt8) : Prop where
  nums : Nums v
  wt : wt v + 31 * l'.length ≤ 31 * l.length
theorem Got.lt {v : V} {l l' : List UInt8} (h : Got v l l') : l'.length < l.length := by
  have := h.wt
  cases v with
  | mk f n s ks => rw [Sh.wt] at this; omega
def ValueG (l : List UInt8) (m : Nat) : Prop := l.length < 30000 → ∀ ts d nx, Tops ts nx → -900 < d → d < 900 →
  (∃ v l' nx', nx ≤ nx' ∧ Got v l l' ∧ TR m 35 [.ptr 2 0] (SRd ts l d nx) = some (.ret ⟨ow v.kids.length, dV v⟩, SRd ts l' d nx')) ∨ (∃ l' nx', nx ≤ nx' ∧ TR m 35 [.ptr 2 0] (SRd ts l d nx) = some (.panic bad, SRd ts l' d nx'))
def AtomG (l : List UInt8) (m : Nat) : Prop := l.length < 30000 → ∀ ts d nx, Tops ts nx → -900 < d → d < 900 →
  (∃ v l' nx', nx ≤ nx' ∧ Got v l l' ∧ TR m 47 [.ptr 2 0] (SRd ts l d nx) = some (.ret ⟨ow v.kids.length, dV v⟩, SRd ts l' d nx')) ∨ (∃ l' nx', nx ≤ nx' ∧ TR m 47 [.ptr 2 0] (SRd ts l d nx) = some (.panic bad, SRd ts l' d nx'))
theorem cutB_no {b : UInt8} {l : List UInt8} (h : (cutB b l).2 = false) : (cutB b l).1 = l := by
  cases l with
  | nil => rfl
  | cons c r =>
    rw [cutB_cons] at h ⊢
    cases hc : c == b with
    | true => rw [hc, ifB_true] at h; cases h
    | false => rfl
theorem cutB_yes {b : UInt8} {l : List UInt8} (h : (cutB b l).2 = true) : (cutB b l).1.length + 1 = l.length := by
  cases l with
  | nil => cases h
  | cons c r =>
    rw [cutB_cons] at h ⊢
    cases hc : c == b with
    | true => rfl
    | false => rw [hc, ifB_false] at h; cases h
theorem upper_len {s : List UInt8} (h : upperB s = true) : 1 ≤ s.length := by
  have := upperB_ne h
  cases s with
  | nil => exact absurd rfl this
  | cons => simp
theorem leafG : Evly fun m => ∀ l, (cutB 40 l).2 = false → AtomG l m := by
  refine (((cut_str_run.and wordG_run).and (rupperT_run.and atoiG_run)).and (must_run.and must_no)).step 0 fun m _ ⟨⟨⟨hcut, hword⟩, ⟨hup, hat⟩⟩, ⟨hmust, hno⟩⟩ l h40 hl ts d nx ht hd1 hd2 => ?_
  obtain ⟨w, l', hwl, hword⟩ := hword l (by omega)
  have hword := hword ts d nx nx ht
  have hcut := hcut 40 l (SRd ts l d nx)
  rw [h40, cutB_no h40] at hcut
  have g : ∀ l, aget (SRd ts l d nx).objs 2 = some [⟨false, .str l⟩, ⟨false, .int .i64 d⟩] := fun l => SRd_get ht
  have hup := hup w (SRd ts l' d nx)
  have hat := hat w (by omega) (SRd ts l' d nx)
  have hmust := hmust (SRd ts l' d nx)
  have hno := hno (SRd ts l' d nx)
  rw [TR_fun (af := a47) rfl rfl]
  have hva : ∀ f n s ks, dV (.mk f n s ks) = .agg [.int .i64 f, .int .i64 n, .str s, dlist kV (ks.map dV)] := fun f n s ks => dV_eq _
  cases e1 : w == [60, 102, 117, 110, 62] with
  | true =>
    have e : w = [60, 102, 117, 110, 62] := by simpa using e1
    refine .inl ⟨.mk 3 0 [] [], l', nx, Nat.le_refl _, ⟨.mk _ _ _ _ small0 (fun _ h => by cases h), ?_⟩, ?_⟩
    · rw [wt, wts, ← hwl, e]
      simp
      omega
    · rw [hva]
      simp only [a47, sy0, sy1, sy2, sy3, sy4, sy5, clearEnv, adel, mem, initEnv, initSlots, stepOp, wantedA, evalOp, callOf, panicOf, evalV, addr, opd, opds, aget, aset, adel1, lkill, readCells, nth, Env.put, Env.putV, Env.box, Env.bare, dropOwn, dropOwnS, binD, binBD, binBool, binInt, binStr, unD, AOpd.drop, Cell.of, AOp.kind, sameKind, assertD, eqlB, isUndef, takeC, unownAt, fits, layCells, putCells, putD, fillD, partsOf, optLo, optHi, allSize, Option.getD_some, Option.getD_none, runDefers, readRes, readRes1, readRess, Nat.reduceAdd, Nat.reduceSub, Nat.reduceMul, Nat.reduceBEq, Bool.false_and, Bool.true_and, Bool.and_true, Bool.and_false, Nat.zero_add, Nat.add_zero, beq_self_eq_true, Bool.true_beq, Bool.false_beq, Bool.not_true, Bool.not_false, decide_true, decide_false, bindO, List.map_cons, List.map_nil, List.length_cons, List.length_nil, List.append_nil, List.nil_append, List.cons_append, List.isEmpty_nil, List.isEmpty_cons, Nat.reduceLeDiff, Int.reduceBEq, Int.reduceNeg, Nat.le_refl, g, hcut, hword, e1, kids_mk, emp_ow0]
  | false =>
  cases e2 : w == [46, 46, 46] with
  | true =>
    have e : w = [46, 46, 46] := by simpa using e2
    refine .inl ⟨.mk 4 0 [] [], l', nx, Nat.le_refl _, ⟨.mk _ _ _ _ small0 (fun _ h => by cases h), ?_⟩, ?_⟩
    · rw [wt, wts, ← hwl, e]
      simp
      omega
    · rw [hva]
      simp only [a47, sy0, sy1, sy2, sy3, sy4, sy5, clearEnv, adel, mem, initEnv, initSlots, stepOp, wantedA, evalOp, callOf, panicOf, evalV, addr, opd, opds, aget, aset, adel1, lkill, readCells, nth, Env.put, Env.putV, Env.box, Env.bare, dropOwn, dropOwnS, binD, binBD, binBool, binInt, binStr, unD, AOpd.drop, Cell.of, AOp.kind, sameKind, assertD, eqlB, isUndef, takeC, unownAt, fits, layCells, putCells, putD, fillD, partsOf, optLo, optHi, allSize, Option.getD_some, Option.getD_none, runDefers, readRes, readRes1, readRess, Nat.reduceAdd, Nat.reduceSub, Nat.reduceMul, Nat.reduceBEq, Bool.false_and, Bool.true_and, Bool.and_true, Bool.and_false, Nat.zero_add, Nat.add_zero, beq_self_eq_true, Bool.true_beq, Bool.false_beq, Bool.not_true, Bool.not_false, decide_true, decide_false, bindO, List.map_cons, List.map_nil, List.length_cons, List.length_nil, List.append_nil, List.nil_append, List.cons_append, List.isEmpty_nil, List.isEmpty_cons, Nat.reduceLeDiff, Int.reduceBEq, Int.reduceNeg, Nat.le_refl, g, hcut, hword, e1, e2, kids_mk, emp_ow0]
  | false =>
  cases e3 : upperB w with
  | true =>
    rw [e3] at hup
    have := upper_len e3
    refine .inl ⟨.mk 1 0 w [], l', nx, Nat.le_refl _, ⟨.mk _ _ _ _ small0 (fun _ h => by cases h), ?_⟩, ?_⟩
    · rw [wt, wts, ← hwl]
      omega
    · rw [hva]
      simp only [a47, sy0, sy1, sy2, sy3, sy4, sy5, clearEnv, adel, mem, initEnv, initSlots, stepOp, wantedA, evalOp, callOf, panicOf, evalV, addr, opd, opds, aget, aset, adel1, lkill, readCells, nth, Env.put, Env.putV, Env.box, Env.bare, dropOwn, dropOwnS, binD, binBD, binBool, binInt, binStr, unD, AOpd.drop, Cell.of, AOp.kind, sameKind, assertD, eqlB, isUndef, takeC, unownAt, fits, layCells, putCells, putD, fillD, partsOf, optLo, optHi, allSize, Option.getD_some, Option.getD_none, runDefers, readRes, readRes1, readRess, Nat.reduceAdd, Nat.reduceSub, Nat.reduceMul, Nat.reduceBEq, Bool.false_and, Bool.true_and, Bool.and_true, Bool.and_false, Nat.zero_add, Nat.add_zero, beq_self_eq_true, Bool.true_beq, Bool.false_beq, Bool.not_true, Bool.not_false, decide_true, decide_false, bindO, List.map_cons, List.map_nil, List.length_cons, List.length_nil, List.append_nil, List.nil_append, List.cons_append, List.isEmpty_nil, List.isEmpty_cons, Nat.reduceLeDiff, Int.reduceBEq, Int.reduceNeg, Nat.le_refl, g, hcut, hword, e1, e2, hup, kids_mk, emp_ow0]
  | false =>
  rw [e3] at hup
  cases e4 : AtoiR w with
  | some x =>
    have hx : Lib.atoiAll w = .ok x := by
      unfold AtoiR at e4
      split at e4
      · rename_i v hv
        cases e4
        exact hv
      · cases e4
    have hne : 1 ≤ w.length := by
      cases w with
      | nil => exact absurd hx (fun h => by cases h)
      | cons => simp
    rw [e4] at hat
    refine .inl ⟨.mk 2 x [] [], l', nx, Nat.le_refl _, ⟨.mk _ _ _ _ (Lib.atoiAll_bounds hx) (fun _ h => by cases h), ?_⟩, ?_⟩
    · rw [wt, wts, ← hwl]
      simp
      omega
    · rw [hva]
      simp only [a47, sy0, sy1, sy2, sy3, sy4, sy5, clearEnv, adel, mem, initEnv, initSlots, stepOp, wantedA, evalOp, callOf, panicOf, evalV, addr, opd, opds, aget, aset, adel1, lkill, readCells, nth, Env.put, Env.putV, Env.box, Env.bare, dropOwn, dropOwnS, binD, binBD, binBool, binInt, binStr, unD, AOpd.drop, Cell.of, AOp.kind, sameKind, assertD, eqlB, isUndef, takeC, unownAt, fits, layCells, putCells, putD, fillD, partsOf, optLo, optHi, allSize, Option.getD_some, Option.getD_none, runDefers, readRes, readRes1, readRess, Nat.reduceAdd, Nat.reduceSub, Nat.reduceMul, Nat.reduceBEq, Bool.false_and, Bool.true_and, Bool.and_true, Bool.and_false, Nat.zero_add, Nat.add_zero, beq_self_eq_true, Bool.true_beq, Bool.false_beq, Bool.not_true, Bool.not_false, decide_true, decide_false, bindO, List.map_cons, List.map_nil, List.length_cons, List.length_nil, List.append_nil, List.nil_append, List.cons_append, List.isEmpty_nil, List.isEmpty_cons, Nat.reduceLeDiff, Int.reduceBEq, Int.reduceNeg, Nat.le_refl, g, hcut, hword, e1, e2, hup, hat, hmust, kids_mk, emp_ow0]
  | none =>
    rw [e4] at hat
    refine .inr ⟨l', nx, Nat.le_refl _, ?_⟩
    simp only [a47, sy0, sy1, sy2, sy3, sy4, sy5, clearEnv, adel, mem, initEnv, initSlots, stepOp, wantedA, evalOp, callOf, panicOf, evalV, addr, opd, opds, aget, aset, adel1, lkill, readCells, nth, Env.put, Env.putV, Env.box, Env.bare, dropOwn, dropOwnS, binD, binBD, binBool, binInt, binStr, unD, AOpd.drop, Cell.of, AOp.kind, sameKind, assertD, eqlB, isUndef, takeC, unownAt, fits, layCells, putCells, putD, fillD, partsOf, optLo, optHi, allSize, Option.getD_some, Option.getD_none, runDefers, readRes, readRes1, readRess, Nat.reduceAdd, Nat.reduceSub, Nat.reduceMul, Nat.reduceBEq, Bool.false_and, Bool.true_and, Bool.and_true, Bool.and_false, Nat.zero_add, Nat.add_zero, beq_self_eq_true, Bool.true_beq, Bool.false_beq, Bool.not_true, Bool.not_false, decide_true, decide_false, bindO, List.map_cons, List.map_nil, List.length_cons, List.length_nil, List.append_nil, List.nil_append, List.cons_append, List.isEmpty_nil, List.isEmpty_cons, Nat.reduceLeDiff, Int.reduceBEq, Int.reduceNeg, Nat.le_refl, g, hcut, hword, e1, e2, hup, hat, hno]
theorem atomG_step (N : Nat) (hv : Evly fun m => ∀ l, l.length < N → ValueG l m) : Evly fun m => ∀ l, l.length ≤ N → AtomG l m := by
  obtain ⟨a, ha⟩ := leafG
  obtain ⟨b, hb⟩ := (hv.and (cut_str_run.and (must_run.and must_no)))
  refine ⟨max a (b + 1), fun m hm l hl => ?_⟩
  cases h40 : (cutB 40 l).2 with
  | false => exact ha m (by omega) l h40
  | true =>
    obtain ⟨m, rfl⟩ : ∃ k, m = k + 1 := ⟨m - 1, by omega⟩
    obtain ⟨hval, hcut, hmust, hno⟩ := hb m (by omega)
    intro hll ts d nx ht hd1 hd2
    have hlt := cutB_yes h40
    have c1 := hcut 40 l (SRd ts l d nx)
    rw [h40] at c1
    generalize (cutB 40 l).1 = t at hlt c1
    have g : ∀ nx' l, Tops ts nx' → aget (SRd ts l d nx').objs 2 = some [⟨false, .str l⟩, ⟨false, .int .i64 d⟩] := fun nx' l h => SRd_get h
    have u : ∀ nx', Tops ts nx' → ∀ l l', ({ objs := aset (SRd ts l d nx').objs 2 [⟨false, .str l'⟩, ⟨false, .int .i64 d⟩], tys := (SRd ts l d nx').tys, iters := (SRd ts l d nx').iters, next := nx' } : Store) = SRd ts l' d nx' := fun nx' h l l' => SRd_set h
    have g0 := fun l => g nx l ht
    have u0 := u nx ht
    rw [TR_fun (af := a47) rfl rfl]
    rcases hval t (by omega) (by omega) ts d nx ht hd1 hd2 with ⟨v, l', nx', hnx, hgot, hv⟩ | ⟨l', nx', hnx, hv⟩
    · have ht' := ht.mono hnx
      have g1 := fun l => g nx' l ht'
      have u1 := u nx' ht'
      have hlt2 := hgot.lt
      have c2 := hcut 41 l' (SRd ts l' d nx')
      rw [dV_eq] at hv
      cases h41 : (cutB 41 l').2 with
      | true =>
        have hlt3 := cutB_yes h41
        rw [h41] at c2
        generalize (cutB 41 l').1 = r at hlt3 c2
        have hm := hmust (SRd ts l' d nx')
        refine .inl ⟨v, r, nx', hnx, ⟨hgot.nums, ?_⟩, ?_⟩
        · have := hgot.wt
          omega
        · rw [dV_eq]
          simp only [a47, sy0, sy1, sy2, sy3, sy4, sy5, clearEnv, adel, mem, initEnv, initSlots, stepOp, wantedA, evalOp, callOf, panicOf, evalV, addr, opd, opds, aget, aset, adel1, lkill, readCells, nth, Env.put, Env.putV, Env.box, Env.bare, dropOwn, dropOwnS, binD, binBD, binBool, binInt, binStr, unD, AOpd.drop, Cell.of, AOp.kind, sameKind, assertD, eqlB, isUndef, takeC, unownAt, fits, layCells, putCells, putD, fillD, partsOf, optLo, optHi, allSize, Option.getD_some, Option.getD_none, runDefers, readRes, readRes1, readRess, Nat.reduceAdd, Nat.reduceSub, Nat.reduceMul, Nat.reduceBEq, Bool.false_and, Bool.true_and, Bool.and_true, Bool.and_false, Nat.zero_add, Nat.add_zero, beq_self_eq_true, Bool.true_beq, Bool.false_beq, Bool.not_true, Bool.not_false, decide_true, decide_false, bindO, List.map_cons, List.map_nil, List.length_cons, List.length_nil, List.append_nil, List.nil_append, List.cons_append, List.isEmpty_nil, List.isEmpty_cons, Nat.reduceLeDiff, Int.reduceBEq, Int.reduceNeg, Nat.le_refl, g0, u0, g1, u1, SRd_next, c1, c2, hm, hv, emp_ow]
      | false =>
        rw [h41, cutB_no h41] at c2
        have hm := hno (SRd ts l' d nx')
        refine .inr ⟨l', nx', hnx, ?_⟩
        simp only [a47, sy0, sy1, sy2, sy3, sy4, sy5, clearEnv, adel, mem, initEnv, initSlots, stepOp, wantedA, evalOp, callOf, panicOf, evalV, addr, opd, opds, aget, aset, adel1, lkill, readCells, nth, Env.put, Env.putV, Env.box, Env.bare, dropOwn, dropOwnS, binD, binBD, binBool, binInt, binStr, unD, AOpd.drop, Cell.of, AOp.kind, sameKind, assertD, eqlB, isUndef, takeC, unownAt, fits, layCells, putCells, putD, fillD, partsOf, optLo, optHi, allSize, Option.getD_some, Option.getD_none, runDefers, readRes, readRes1, readRess, Nat.reduceAdd, Nat.reduceSub, Nat.reduceMul, Nat.reduceBEq, Bool.false_and, Bool.true_and, Bool.and_true, Bool.and_false, Nat.zero_add, Nat.add_zero, beq_self_eq_true, Bool.true_beq, Bool.false_beq, Bool.not_true, Bool.not_false, decide_true, decide_false, bindO, List.map_cons, List.map_nil, List.length_cons, List.length_nil, List.append_nil, List.nil_append, List.cons_append, List.isEmpty_nil, List.isEmpty_cons, Nat.reduceLeDiff, Int.reduceBEq, Int.reduceNeg, Nat.le_refl, g0, u0, g1, u1, SRd_next, c1, c2, hm, hv, emp_ow]
    · refine .inr ⟨l', nx', hnx, ?_⟩
      simp only [a47, sy0, sy1, sy2, sy3, sy4, sy5, clearEnv, adel, mem, initEnv, initSlots, stepOp, wantedA, evalOp, callOf, panicOf, evalV, addr, opd, opds, aget, aset, adel1, lkill, readCells, nth, Env.put, Env.putV, Env.box, Env.bare, dropOwn, dropOwnS, binD, binBD, binBool, binInt, binStr, unD, AOpd.drop, Cell.of, AOp.kind, sameKind, assertD, eqlB, isUndef, takeC, unownAt, fits, layCells, putCells, putD, fillD, partsOf, optLo, optHi, allSize, Option.getD_some, Option.getD_none, runDefers, readRes, readRes1, readRess, Nat.reduceAdd, Nat.reduceSub, Nat.reduceMul, Nat.reduceBEq, Bool.false_and, Bool.true_and, Bool.and_true, Bool.and_false, Nat.zero_add, Nat.add_zero, beq_self_eq_true, Bool.true_beq, Bool.false_beq, Bool.not_true, Bool.not_false, decide_true, decide_false, bindO, List.map_cons, List.map_nil, List.length_cons, List.length_nil, List.append_nil, List.nil_append, List.cons_append, List.isEmpty_nil, List.isEmpty_cons, Nat.reduceLeDiff, Int.reduceBEq, Int.reduceNeg, Nat.le_refl, g0, u0, SRd_next, c1, hv]
section
variable {C : CallF} {n : Nat} {ks : List V} {ts : List Nat} {p : Nat} {f x : Int} {s r : List UInt8} {d : Int} {nx nx2 : Nat}
def E35g (f x : Int) (s : List UInt8) (ks : List V) (p : Nat) : Env := { slots := [(1, ⟨false, .ptr p 0⟩)], locs := [(2, 2, 0), (3, 3, 0)], boxes := [(2, zeroV), (3, [⟨false, .int .i64 f⟩, ⟨false, .int .i64 x⟩, ⟨false, .str s⟩, ⟨ow ks.length, dlist kV (ks.map dV)⟩])], defers := [(46, [.ptr p 0])] }
theorem app_end (ks : List V) (k : V) (hl : ks.length + 1 < 1048576) : appendD kV 56 ⟨ow ks.length, dlist kV (ks.map dV)⟩ (.list kV [dV k]) = some ⟨ow (ks ++ [k]).length, dlist kV ((ks ++ [k]).map dV)⟩ := by
  have h := app_take (ks ++ [k]) ks.length (by simp) (by simpa using hl)
  have e1 : (ks ++ [k]).take ks.length = ks := by simp
  have e2 : (ks ++ [k]).take (ks.length + 1) = ks ++ [k] := List.take_of_length_le (by simp)
  have e3 : (ks ++ [k])[ks.length]'(by simp) = k := by simp
  have e4 : (ks ++ [k]).length = ks.length + 1 := by simp
  rw [e1, e2, e3] at h
  rw [e4]
  exact h
theorem l35g_step (t l : List UInt8) (k : V) (hl : ks.length + 1 < 1048576) (ht : Tops (p :: ts) nx2) (hcut : C 48 [.str l, .str [32]] (SRd (p :: ts) l d nx) = some (.ret ⟨false, .tup [.str t, .bool true]⟩, SRd (p :: ts) l d nx)) {o : Bool}
    (hc : C 47 [.ptr 2 0] (SRd (p :: ts) t d nx) = some (.ret ⟨o, dV k⟩, SRd (p :: ts) r d nx2)) : exec C n a35_l0 (E35g f x s ks p) (SRd (p :: ts) l d nx) = some (.normal, E35g f x s (ks ++ [k]) p, SRd (p :: ts) r d nx2) := by
  have g : ∀ l nx, aget (SRd (p :: ts) l d nx).objs 2 = some [⟨false, .str l⟩, ⟨false, .int .i64 d⟩] := fun l nx => SRd_get ht
  have gt : ∀ l nx, aget (SRd (p :: ts) l d nx).objs p = some [⟨false, .ptr 2 0⟩] := fun l nx => SRd_top
  have u : ∀ l l', ({ objs := aset (SRd (p :: ts) l d nx).objs 2 [⟨false, .str l'⟩, ⟨false, .int .i64 d⟩], tys := (SRd (p :: ts) l d nx).tys, iters := (SRd (p :: ts) l d nx).iters, next := nx } : Store) = SRd (p :: ts) l' d nx := fun l l' => SRd_set ht
  have ha := app_end ks k hl
  simp only [a35_l0, E35g, zeroV, sy0, sy1, sy2, sy3, sy4, sy5, clearEnv, adel, mem, initEnv, initSlots, stepOp, wantedA, evalOp, callOf, panicOf, evalV, addr, opd, opds, aget, aset, adel1, lkill, readCells, nth, Env.put, Env.putV, Env.box, Env.bare, dropOwn, dropOwnS, binD, binBD, binBool, binInt, binStr, unD, AOpd.drop, Cell.of, AOp.kind, sameKind, assertD, eqlB, isUndef, takeC, unownAt, fits, layCells, putCells, putD, fillD, partsOf, optLo, optHi, allSize, Option.getD_some, Option.getD_none, runDefers, readRes, readRes1, readRess, Nat.reduceAdd, Nat.reduceSub, Nat.reduceMul, Nat.reduceBEq, Bool.false_and, Bool.true_and, Bool.and_true, Bool.and_false, Nat.zero_add, Nat.add_zero, beq_self_eq_true, Bool.true_beq, Bool.false_beq, Bool.not_true, Bool.not_false, decide_true, decide_false, bindO, List.map_cons, List.map_nil, List.length_cons, List.length_nil, List.append_nil, List.nil_append, List.cons_append, List.isEmpty_nil, List.isEmpty_cons, Nat.reduceLeDiff, Int.reduceBEq, Int.reduceNeg, Nat.le_refl, g, gt, u, SRd_next, hcut, hc, ok_dV, cells_dV, ha]
theorem l35g_panic (t l : List UInt8) (ht : Tops (p :: ts) nx2) (hcut : C 48 [.str l, .str [32]] (SRd (p :: ts) l d nx) = some (.ret ⟨false, .tup [.str t, .bool true]⟩, SRd (p :: ts) l d nx))
    (hc : C 47 [.ptr 2 0] (SRd (p :: ts) t d nx) = some (.panic bad, SRd (p :: ts) r d nx2)) : ∃ e, exec C n a35_l0 (E35g f x s ks p) (SRd (p :: ts) l d nx) = some (.panic bad, e, SRd (p :: ts) r d nx2) ∧ e.defers = [(46, [.ptr p 0])] := by
  have g : ∀ l nx, aget (SRd (p :: ts) l d nx).objs 2 = some [⟨false, .str l⟩, ⟨false, .int .i64 d⟩] := fun l nx => SRd_get ht
  have gt : ∀ l nx, aget (SRd (p :: ts) l d nx).objs p = some [⟨false, .ptr 2 0⟩] := fun l nx => SRd_top
  have u : ∀ l l', ({ objs := aset (SRd (p :: ts) l d nx).objs 2 [⟨false, .str l'⟩, ⟨false, .int .i64 d⟩], tys := (SRd (p :: ts) l d nx).tys, iters := (SRd (p :: ts) l d nx).iters, next := nx } : Store) = SRd (p :: ts) l' d nx := fun l l' => SRd_set ht
  constructor
  constructor
  · simp only [a35_l0, E35g, zeroV, sy0, sy1, sy2, sy3, sy4, sy5, clearEnv, adel, mem, initEnv, initSlots, stepOp, wantedA, evalOp, callOf, panicOf, evalV, addr, opd, opds, aget, aset, adel1, lkill, readCells, nth, Env.put, Env.putV, Env.box, Env.bare, dropOwn, dropOwnS, binD, binBD, binBool, binInt, binStr, unD, AOpd.drop, Cell.of, AOp.kind, sameKind, assertD, eqlB, isUndef, takeC, unownAt, fits, layCells, putCells, putD, fillD, partsOf, optLo, optHi, allSize, Option.getD_some, Option.getD_none, runDefers, readRes, readRes1, readRess, Nat.reduceAdd, Nat.reduceSub, Nat.reduceMul, Nat.reduceBEq, Bool.false_and, Bool.true_and, Bool.and_true, Bool.and_false, Nat.zero_add, Nat.add_zero, beq_self_eq_true, Bool.true_beq, Bool.false_beq, Bool.not_true, Bool.not_false, decide_true, decide_false, bindO, List.map_cons, List.map_nil, List.length_cons, List.length_nil, List.append_nil, List.nil_append, List.cons_append, List.isEmpty_nil, List.isEmpty_cons, Nat.reduceLeDiff, Int.reduceBEq, Int.reduceNeg, Nat.le_refl, g, gt, u, SRd_next, hcut, hc]
    rfl
  · rfl
theorem l35g_end (l : List UInt8) (ht : Tops (p :: ts) nx2) (hcut : C 48 [.str l, .str [32]] (SRd (p :: ts) l d nx) = some (.ret ⟨false, .tup [.str l, .bool false]⟩, SRd (p :: ts) l d nx)) :
    exec C n a35_l0 (E35g f x s ks p) (SRd (p :: ts) l d nx) = some (.ret, { slots := [], locs := [(2, 2, 0)], boxes := [(2, [⟨false, .int .i64 f⟩, ⟨false, .int .i64 x⟩, ⟨false, .str s⟩, ⟨ow ks.length, dlist kV (ks.map dV)⟩])], defers := [(46, [.ptr p 0])] }, SRd (p :: ts) l d nx) := by
  have g : ∀ l nx, aget (SRd (p :: ts) l d nx).objs 2 = some [⟨false, .str l⟩, ⟨false, .int .i64 d⟩] := fun l nx => SRd_get ht
  have gt : ∀ l nx, aget (SRd (p :: ts) l d nx).objs p = some [⟨false, .ptr 2 0⟩] := fun l nx => SRd_top
  simp only [a35_l0, E35g, zeroV, sy0, sy1, sy2, sy3, sy4, sy5, clearEnv, adel, mem, initEnv, initSlots, stepOp, wantedA, evalOp, callOf, panicOf, evalV, addr, opd, opds, aget, aset, adel1, lkill, readCells, nth, Env.put, Env.putV, Env.box, Env.bare, dropOwn, dropOwnS, binD, binBD, binBool, binInt, binStr, unD, AOpd.drop, Cell.of, AOp.kind, sameKind, assertD, eqlB, isUndef, takeC, unownAt, fits, layCells, putCells, putD, fillD, partsOf, optLo, optHi, allSize, Option.getD_some, Option.getD_none, runDefers, readRes, readRes1, readRess, Nat.reduceAdd, Nat.reduceSub, Nat.reduceMul, Nat.reduceBEq, Bool.false_and, Bool.true_and, Bool.and_true, Bool.and_false, Nat.zero_add, Nat.add_zero, beq_self_eq_true, Bool.true_beq, Bool.false_beq, Bool.not_true, Bool.not_false, decide_true, decide_false, bindO, List.map_cons, List.map_nil, List.length_cons, List.length_nil, List.append_nil, List.nil_append, List.cons_append, List.isEmpty_nil, List.isEmpty_cons, Nat.reduceLeDiff, Int.reduceBEq, Int.reduceNeg, Nat.le_refl, g, gt, hcut, emp_ow]
end
def Q35 (ts : List Nat) (p : Nat) (l : List UInt8) (d : Int) (nx : Nat) (r : AExit × Env × Store) : Prop :=
  (∃ f x s ks l1 nx2, nx ≤ nx2 ∧ Got (.mk f x s ks) l l1 ∧ r = (.ret, { slots := [], locs := [(2, 2, 0)], boxes := [(2, [⟨false, .int .i64 f⟩, ⟨false, .int .i64 x⟩, ⟨false, .str s⟩, ⟨ow ks.length, dlist kV (ks.map dV)⟩])], defers := [(46, [.ptr p 0])] }, SRd (p :: ts) l1 d nx2)) ∨
  (∃ e l1 nx2, nx ≤ nx2 ∧ e.defers = [(46, [.ptr p 0])] ∧ r = (.panic bad, e, SRd (p :: ts) l1 d nx2))
theorem valueG_step (N : Nat) (ha : Evly fun m => ∀ l, l.length ≤ N → AtomG l m) : Evly fun m => ∀ l, l.length ≤ N → ValueG l m := by
  refine ((ha.and cut_str_run).and ((must_run.and must_no).and back_run)).step (N + 2) fun m hm ⟨⟨hat, hcut⟩, ⟨⟨hmust, hno⟩, hback⟩⟩ l hl hll ts d nx ht hd1 hd2 => ?_
  have hp := ht.push
  have g : ∀ l d nx', aget (SRd (nx :: ts) l d nx').objs 2 = some [⟨false, .str l⟩, ⟨false, .int .i64 d⟩] := fun l d nx' => SRd_get hp
  have gt : ∀ l d nx', aget (SRd (nx :: ts) l d nx').objs nx = some [⟨false, .ptr 2 0⟩] := fun l d nx' => SRd_top
  have u : ∀ l d d' nx', ({ objs := aset (SRd (nx :: ts) l d nx').objs 2 [⟨false, .str l⟩, ⟨false, .int .i64 d'⟩], tys := (SRd (nx :: ts) l d nx').tys, iters := (SRd (nx :: ts) l d nx').iters, next := nx' } : Store) = SRd (nx :: ts) l d' nx' := fun l d d' nx' => SRd_set hp
  have hw : IntKind.i64.wrap (d - 1) = d - 1 := wrap64 (by omega) (by omega)
  have hpush : ∀ l d, ({ objs := (nx, [⟨false, .ptr 2 0⟩]) :: (SRd ts l d nx).objs, tys := (nx, 59) :: (SRd ts l d nx).tys, iters := (SRd ts l d nx).iters, next := nx + 1 } : Store) = SRd (nx :: ts) l d (nx + 1) := fun l d => SRd_push
  have htr := fun l nx' => SRd_trunc (l := l) (d := d) (nx' := nx') ht
  rw [TR_fun (af := a35) rfl rfl]
  by_cases hd0 : d > 0
  · have hm1 := hmust (SRd (nx :: ts) l d (nx + 1))
    have ed : d - 1 + 1 = d := by omega
    have hb : ∀ l1 nx2, nx + 1 ≤ nx2 → TRD m 46 [.ptr nx 0] (SRd (nx :: ts) l1 (d - 1) nx2) = some (.ret ⟨false, .tup []⟩, SRd (nx :: ts) l1 d nx2) := fun l1 nx2 h => by
      have hb := hback ts nx l1 (d - 1) nx2 nx2 (hp.mono h) (by omega) (by omega)
      rw [ed] at hb
      exact hb
    rcases hat l hl hll (nx :: ts) (d - 1) (nx + 1) hp (by omega) (by omega) with ⟨v, l', nx', hnx, hgot, hv⟩ | ⟨l', nx', hnx, hv⟩
    · obtain ⟨f0, x0, s0, ks0⟩ := v
      obtain ⟨r, hr, hq⟩ := loopN_ex (body := exec (TR m) m a35_l0)
        (fun k e σ => ∃ f x s ks l1 nx2, nx + 1 ≤ nx2 ∧ Got (.mk f x s ks) l l1 ∧ k = l1.length ∧ e = E35g f x s ks nx ∧ σ = SRd (nx :: ts) l1 (d - 1) nx2)
        (Q35 ts nx l (d - 1) (nx + 1)) (fun k e σ ⟨f, x, s, ks, l1, nx2, h1, h2, hk, he, hσ⟩ => by
          subst he hσ
          have hlt := h2.lt
          have hwt := h2.wt
          rw [wt] at hwt
          have hlen := wts_len ks
          have hc := hcut 32 l1 (SRd (nx :: ts) l1 (d - 1) nx2)
          cases h32 : (cutB 32 l1).2 with
          | false =>
            rw [h32, cutB_no h32] at hc
            exact .inl ⟨_, l35g_end l1 (hp.mono h1) hc, (fun _ _ h => by cases h), .inl ⟨f, x, s, ks, l1, nx2, h1, h2, rfl⟩⟩
          | true =>
            have hl1 := cutB_yes h32
            rw [h32] at hc
            generalize (cutB 32 l1).1 = t at hl1 hc
            rcases hat t (by omega) (by omega) (nx :: ts) (d - 1) nx2 (hp.mono h1) (by omega) (by omega) with ⟨v, l2, nx3, hnx3, hgot2, hv2⟩ | ⟨l2, nx3, hnx3, hv2⟩
            · have hlt2 := hgot2.lt
              have hwt2 := hgot2.wt
              refine .inr ⟨l2.length, _, _, by omega, l35g_step t l1 v (by omega) ((hp.mono h1).mono hnx3) hc hv2, f, x, s, ks ++ [v], l2, nx3, by omega, ⟨?_, ?_⟩, rfl, rfl, rfl⟩
              · cases h2.nums with
                | mk _ _ _ _ hn hks =>
                  refine .mk _ _ _ _ hn fun k hk => ?_
                  rcases List.mem_append.1 hk with h | h
                  · exact hks k h
                  · rw [List.mem_singleton.1 h]; exact hgot2.nums
              · rw [wt, wts_append]
                simp only [wts]
                omega
            · obtain ⟨e, he, hdef⟩ := l35g_panic (C := TR m) (n := m) (f := f) (x := x) (s := s) (ks := ks) t l1 ((hp.mono h1).mono hnx3) hc hv2
              exact .inl ⟨_, he, (fun _ _ h => by cases h), .inr ⟨e, l2, nx3, by omega, hdef, rfl⟩⟩) m l'.length (E35g f0 x0 s0 ks0 nx) (SRd (nx :: ts) l' (d - 1) nx') (by have := hgot.lt; omega) ⟨f0, x0, s0, ks0, l', nx', hnx, hgot, rfl, rfl, rfl⟩
      rw [dV_eq] at hv
      simp only [form_mk, n_mk, name_mk, kids_mk] at hv
      simp only [E35g, zeroV] at hr
      rcases hq with ⟨f, x, s, ks, l1, nx2, h1, h2, rfl⟩ | ⟨e, l1, nx2, h1, hdef, rfl⟩
      · refine .inl ⟨.mk f x s ks, l1, nx2, by omega, h2, ?_⟩
        have hb := hb l1 nx2 h1
        rw [dV_eq]
        simp only [form_mk, n_mk, name_mk, kids_mk]
        simp only [a35, sy0, sy1, sy2, sy3, sy4, sy5, clearEnv, adel, mem, initEnv, initSlots, stepOp, wantedA, evalOp, callOf, panicOf, evalV, addr, opd, opds, aget, aset, adel1, lkill, readCells, nth, Env.put, Env.putV, Env.box, Env.bare, dropOwn, dropOwnS, binD, binBD, binBool, binInt, binStr, unD, AOpd.drop, Cell.of, AOp.kind, sameKind, assertD, eqlB, isUndef, takeC, unownAt, fits, layCells, putCells, putD, fillD, partsOf, optLo, optHi, allSize, Option.getD_some, Option.getD_none, runDefers, readRes, readRes1, readRess, Nat.reduceAdd, Nat.reduceSub, Nat.reduceMul, Nat.reduceBEq, Bool.false_and, Bool.true_and, Bool.and_true, Bool.and_false, Nat.zero_add, Nat.add_zero, beq_self_eq_true, Bool.true_beq, Bool.false_beq, Bool.not_true, Bool.not_false, decide_true, decide_false, bindO, List.map_cons, List.map_nil, List.length_cons, List.length_nil, List.append_nil, List.nil_append, List.cons_append, List.isEmpty_nil, List.isEmpty_cons, Nat.reduceLeDiff, Int.reduceBEq, Int.reduceNeg, Nat.le_refl, Rl_46, g, gt, u, hw, hd0, hpush, SRd_next, hm1, hv, hr, hb, htr, emp_ow]
      · refine .inr ⟨l1, nx2, by omega, ?_⟩
        have hb := hb l1 nx2 h1
        simp only [a35, sy0, sy1, sy2, sy3, sy4, sy5, clearEnv, adel, mem, initEnv, initSlots, stepOp, wantedA, evalOp, callOf, panicOf, evalV, addr, opd, opds, aget, aset, adel1, lkill, readCells, nth, Env.put, Env.putV, Env.box, Env.bare, dropOwn, dropOwnS, binD, binBD, binBool, binInt, binStr, unD, AOpd.drop, Cell.of, AOp.kind, sameKind, assertD, eqlB, isUndef, takeC, unownAt, fits, layCells, putCells, putD, fillD, partsOf, optLo, optHi, allSize, Option.getD_some, Option.getD_none, runDefers, readRes, readRes1, readRess, Nat.reduceAdd, Nat.reduceSub, Nat.reduceMul, Nat.reduceBEq, Bool.false_and, Bool.true_and, Bool.and_true, Bool.and_false, Nat.zero_add, Nat.add_zero, beq_self_eq_true, Bool.true_beq, Bool.false_beq, Bool.not_true, Bool.not_false, decide_true, decide_false, bindO, List.map_cons, List.map_nil, List.length_cons, List.length_nil, List.append_nil, List.nil_append, List.cons_append, List.isEmpty_nil, List.isEmpty_cons, Nat.reduceLeDiff, Int.reduceBEq, Int.reduceNeg, Nat.le_refl, Rl_46, g, gt, u, hw, hd0, hpush, SRd_next, hm1, hv, hr, hb, htr, hdef, emp_ow]
    · refine .inr ⟨l', nx', by omega, ?_⟩
      have hb := hb l' nx' hnx
      simp only [a35, sy0, sy1, sy2, sy3, sy4, sy5, clearEnv, adel, mem, initEnv, initSlots, stepOp, wantedA, evalOp, callOf, panicOf, evalV, addr, opd, opds, aget, aset, adel1, lkill, readCells, nth, Env.put, Env.putV, Env.box, Env.bare, dropOwn, dropOwnS, binD, binBD, binBool, binInt, binStr, unD, AOpd.drop, Cell.of, AOp.kind, sameKind, assertD, eqlB, isUndef, takeC, unownAt, fits, layCells, putCells, putD, fillD, partsOf, optLo, optHi, allSize, Option.getD_some, Option.getD_none, runDefers, readRes, readRes1, readRess, Nat.reduceAdd, Nat.reduceSub, Nat.reduceMul, Nat.reduceBEq, Bool.false_and, Bool.true_and, Bool.and_true, Bool.and_false, Nat.zero_add, Nat.add_zero, beq_self_eq_true, Bool.true_beq, Bool.false_beq, Bool.not_true, Bool.not_false, decide_true, decide_false, bindO, List.map_cons, List.map_nil, List.length_cons, List.length_nil, List.append_nil, List.nil_append, List.cons_append, List.isEmpty_nil, List.isEmpty_cons, Nat.reduceLeDiff, Int.reduceBEq, Int.reduceNeg, Nat.le_refl, Rl_46, g, gt, u, hw, hd0, hpush, SRd_next, hm1, hv, hb, htr]
  · have hm1 := hno (SRd (nx :: ts) l d (nx + 1))
    refine .inr ⟨l, nx + 1, by omega, ?_⟩
    simp only [a35, sy0, sy1, sy2, sy3, sy4, sy5, clearEnv, adel, mem, initEnv, initSlots, stepOp, wantedA, evalOp, callOf, panicOf, evalV, addr, opd, opds, aget, aset, adel1, lkill, readCells, nth, Env.put, Env.putV, Env.box, Env.bare, dropOwn, dropOwnS, binD, binBD, binBool, binInt, binStr, unD, AOpd.drop, Cell.of, AOp.kind, sameKind, assertD, eqlB, isUndef, takeC, unownAt, fits, layCells, putCells, putD, fillD, partsOf, optLo, optHi, allSize, Option.getD_some, Option.getD_none, runDefers, readRes, readRes1, readRess, Nat.reduceAdd, Nat.reduceSub, Nat.reduceMul, Nat.reduceBEq, Bool.false_and, Bool.true_and, Bool.and_true, Bool.and_false, Nat.zero_add, Nat.add_zero, beq_self_eq_true, Bool.true_beq, Bool.false_beq, Bool.not_true, Bool.not_false, decide_true, decide_false, bindO, List.map_cons, List.map_nil, List.length_cons, List.length_nil, List.append_nil, List.nil_append, List.cons_append, List.isEmpty_nil, List.isEmpty_cons, Nat.reduceLeDiff, Int.reduceBEq, Int.reduceNeg, Nat.le_refl, g, gt, hd0, hpush, SRd_next, hm1, htr]
theorem valueG_all : ∀ N, Evly fun m => ∀ l, l.length < N → ValueG l m
  | 0 => Evly.all fun _ l h => absurd h (Nat.not_lt_zero _)
  | N + 1 => (valueG_step N (atomG_step N (valueG_all N))).mono fun m h l hl => h l (by omega)
end Go.Proofs.YtdoppkjoemlhjaaDoor.Sh

/-
  show.Read at any text: the value whose print it is, or none.
-/
namespace Go.Proofs.YtdoppkjoemlhjaaDoor.Sh
open Go Go.Mx
set_option maxRecDepth 10000
def v0 : V := .mk 0 0 [] []
theorem dV_v0 : dV v0 = .agg [.int .i64 0, .int .i64 0, .str [], .nils] := by rw [dV_eq]; rfl
def SR (c2 : List Cell) (x : Cell) (cs : List Cell) (nx : Nat) : Store := { objs := [(2, c2), (1, [x]), (0, cs)], tys := [(2, 61), (1, 31), (0, 25)], iters := [], next := nx }
theorem Rl_34 {ds : List D} {m : Option D} {σ : Store} : Rl 34 ds m σ = recRun (fun _ _ _ => none) 3 r34 2 3 2 ds m σ := rfl
theorem Rl_34_bad {c2 : List Cell} {x a b c d : Cell} {nx : Nat} : Rl 34 [.ptr 0 0, .ptr 1 0] (some bad) (SR c2 x [a, b, c, d] nx) = some (none, SR c2 ⟨false, .int .i64 12⟩ zeroV nx) := by
  rw [Rl_34]
  have hl : (([D.ptr 0 0, D.ptr 1 0] : List D).length == 2) = true := rfl
  have hx : ∃ e, exec (fun _ _ _ => none) 3 r34 (recEnv [.ptr 0 0, .ptr 1 0] 3 2 (some bad)) (SR c2 x [a, b, c, d] nx) = some (.normal, e, SR c2 ⟨false, .int .i64 12⟩ zeroV nx) ∧ e.defers = [] := by
    constructor
    constructor
    · simp only [r34, recEnv, bad, SR, zeroV, sy0, sy1, sy2, sy3, sy4, sy5, clearEnv, adel, mem, initEnv, initSlots, stepOp, wantedA, evalOp, callOf, panicOf, evalV, addr, opd, opds, aget, aset, adel1, lkill, readCells, nth, Env.put, Env.putV, Env.box, Env.bare, dropOwn, dropOwnS, binD, binBD, binBool, binInt, binStr, unD, AOpd.drop, Cell.of, AOp.kind, sameKind, assertD, eqlB, isUndef, takeC, unownAt, fits, layCells, putCells, putD, fillD, partsOf, optLo, optHi, allSize, Option.getD_some, Option.getD_none, runDefers, readRes, readRes1, readRess, Nat.reduceAdd, Nat.reduceSub, Nat.reduceMul, Nat.reduceBEq, Bool.false_and, Bool.true_and, Bool.and_true, Bool.and_false, Nat.zero_add, Nat.add_zero, beq_self_eq_true, Bool.true_beq, Bool.false_beq, Bool.not_true, Bool.not_false, decide_true, decide_false, bindO, List.map_cons, List.map_nil, List.length_cons, List.length_nil, List.append_nil, List.nil_append, List.cons_append, List.isEmpty_nil, List.isEmpty_cons, Nat.reduceLeDiff, Int.reduceBEq, Int.reduceNeg, Nat.le_refl]
      rfl
    · rfl
  obtain ⟨e, hx, hd⟩ := hx
  unfold recRun
  simp only [hl, ifB_true, hx, hd, List.isEmpty_nil]
/-- What Read tells. -/
def ReadsV (s : List UInt8) (v : V) : Prop := Readable v ∧ pprint v = s
def ReadR (s : List UInt8) (m : Nat) : Prop := (∃ v nx, ReadsV s v ∧ TR m 15 [.str s] σ0 = some (.ret ⟨false, .tup [dV v, .int .i64 0]⟩, { objs := [], tys := [], iters := [], next := nx })) ∨
  ∃ nx, TR m 15 [.str s] σ0 = some (.ret ⟨false, .tup [dV v0, .int .i64 12]⟩, { objs := [], tys := [], iters := [], next := nx })
theorem trunc0 {c2 : List Cell} {x : Cell} {cs : List Cell} {nx : Nat} : (SR c2 x cs nx).trunc 0 = { objs := [], tys := [], iters := [], next := nx } := rfl
theorem cells4 (v : V) : ∃ a b c d, [(⟨false, .int .i64 v.form⟩ : Cell), ⟨false, .int .i64 v.n⟩, ⟨false, .str v.name⟩, ⟨false, dlist kV (v.kids.map dV)⟩] = [a, b, c, d] := ⟨_, _, _, _, rfl⟩
theorem readG_run (N : Nat) : Evly fun m => ∀ s, s.length < N → s.length < 30000 → ReadR s m := by
  refine ((valueG_all N).and (printR_run.and (must_run.and must_no))).step 0 fun m _ ⟨hval, ⟨hpr, ⟨hmust, hno⟩⟩⟩ s hN hs => ?_
  have hS : SRd [] s 42 3 = { objs := [(2, [⟨false, .str s⟩, ⟨false, .int .i64 42⟩]), (1, [⟨false, .int .i64 0⟩]), (0, [⟨false, .int .i64 0⟩, ⟨false, .int .i64 0⟩, ⟨false, .str []⟩, ⟨false, .nils⟩])], tys := [(2, 61), (1, 31), (0, 25)], iters := [], next := 3 } := rfl
  have hS2 : ∀ l nx', SRd [] l 42 nx' = { objs := [(2, [⟨false, .str l⟩, ⟨false, .int .i64 42⟩]), (1, [⟨false, .int .i64 0⟩]), (0, [⟨false, .int .i64 0⟩, ⟨false, .int .i64 0⟩, ⟨false, .str []⟩, ⟨false, .nils⟩])], tys := [(2, 61), (1, 31), (0, 25)], iters := [], next := nx' } := fun _ _ => rfl
  have hbad : ∀ c2 x a b c d nx, Rl 34 [.ptr 0 0, .ptr 1 0] (some bad) { objs := [(2, c2), (1, [x]), (0, [a, b, c, d])], tys := [(2, 61), (1, 31), (0, 25)], iters := [], next := nx } = some (none, SR c2 ⟨false, .int .i64 12⟩ zeroV nx) := fun _ _ _ _ _ _ _ => Rl_34_bad
  have hbr : ∀ nx c2, readRes { slots := [(2, ⟨false, .ptr 0 0⟩), (3, ⟨false, .ptr 1 0⟩)], locs := [], boxes := [], defers := [] } (SR c2 ⟨false, .int .i64 12⟩ zeroV nx) [.cell 2 (some 4), .cell 3 none] = some ⟨false, .tup [dV v0, .int .i64 12]⟩ := fun _ _ => by rw [dV_v0]; rfl
  rcases hval s hN hs [] 42 3 ⟨fun i hi => (by cases hi), Nat.le_refl _⟩ (by omega) (by omega) with ⟨v, l', nx', hnx, hgot, hv⟩ | ⟨l', nx', hnx, hv⟩
  · have hwt := hgot.wt
    have hpr := fun σ => hpr v (printable_of hgot.nums (by omega)) σ
    rw [hS, hS2] at hv
    have hva : dV v = .agg [.int .i64 v.form, .int .i64 v.n, .str v.name, dlist kV (v.kids.map dV)] := dV_eq v
    cases h1 : l' == [] with
    | false =>
      refine .inr ⟨nx', ?_⟩
      rw [hva] at hv
      rw [TR_fun (af := a15) rfl rfl]
      simp only [a15, σ0, sy0, sy1, sy2, sy3, sy4, sy5, clearEnv, adel, mem, initEnv, initSlots, stepOp, wantedA, evalOp, callOf, panicOf, evalV, addr, opd, opds, aget, aset, adel1, lkill, readCells, nth, Env.put, Env.putV, Env.box, Env.bare, dropOwn, dropOwnS, binD, binBD, binBool, binInt, binStr, unD, AOpd.drop, Cell.of, AOp.kind, sameKind, assertD, eqlB, isUndef, takeC, unownAt, fits, layCells, putCells, putD, fillD, partsOf, optLo, optHi, allSize, Option.getD_some, Option.getD_none, runDefers, readRes, readRes1, readRess, Nat.reduceAdd, Nat.reduceSub, Nat.reduceMul, Nat.reduceBEq, Bool.false_and, Bool.true_and, Bool.and_true, Bool.and_false, Nat.zero_add, Nat.add_zero, beq_self_eq_true, Bool.true_beq, Bool.false_beq, Bool.not_true, Bool.not_false, decide_true, decide_false, bindO, List.map_cons, List.map_nil, List.length_cons, List.length_nil, List.append_nil, List.nil_append, List.cons_append, List.isEmpty_nil, List.isEmpty_cons, Nat.reduceLeDiff, Int.reduceBEq, Int.reduceNeg, Nat.le_refl, hv, hno, h1, hbad]
      rfl
    | true =>
      have el : l' = [] := by simpa using h1
      subst el
      have h0 : (s == []) = false := by
        have := hgot.lt
        cases s with
        | nil => simp at this
        | cons => rfl
      have h0' : (s != []) = true := by
        show (!(s == [])) = true
        rw [h0]
        rfl
      cases h2 : pprint v == s with
      | true =>
        have ep : pprint v = s := by simpa using h2
        have ht : told v 40 = true := by
          cases ht : told v 40 with
          | true => rfl
          | false =>
            unfold pprint at ep
            rw [ht, ifB_false] at ep
            rw [← ep] at h0
            cases h0
        refine .inl ⟨v, nx', ⟨⟨hgot.nums, by omega, ht⟩, ep⟩, ?_⟩
        rw [hva] at hv hpr ⊢
        rw [TR_fun (af := a15) rfl rfl]
        simp only [a15, σ0, sy0, sy1, sy2, sy3, sy4, sy5, clearEnv, adel, mem, initEnv, initSlots, stepOp, wantedA, evalOp, callOf, panicOf, evalV, addr, opd, opds, aget, aset, adel1, lkill, readCells, nth, Env.put, Env.putV, Env.box, Env.bare, dropOwn, dropOwnS, binD, binBD, binBool, binInt, binStr, unD, AOpd.drop, Cell.of, AOp.kind, sameKind, assertD, eqlB, isUndef, takeC, unownAt, fits, layCells, putCells, putD, fillD, partsOf, optLo, optHi, allSize, Option.getD_some, Option.getD_none, runDefers, readRes, readRes1, readRess, Nat.reduceAdd, Nat.reduceSub, Nat.reduceMul, Nat.reduceBEq, Bool.false_and, Bool.true_and, Bool.and_true, Bool.and_false, Nat.zero_add, Nat.add_zero, beq_self_eq_true, Bool.true_beq, Bool.false_beq, Bool.not_true, Bool.not_false, decide_true, decide_false, bindO, List.map_cons, List.map_nil, List.length_cons, List.length_nil, List.append_nil, List.nil_append, List.cons_append, List.isEmpty_nil, List.isEmpty_cons, Nat.reduceLeDiff, Int.reduceBEq, Int.reduceNeg, Nat.le_refl, hv, hpr, hmust, h0, h0', h2, Rl_34_none]
        rfl
      | false =>
        refine .inr ⟨nx', ?_⟩
        rw [hva] at hv hpr
        rw [TR_fun (af := a15) rfl rfl]
        simp only [a15, σ0, sy0, sy1, sy2, sy3, sy4, sy5, clearEnv, adel, mem, initEnv, initSlots, stepOp, wantedA, evalOp, callOf, panicOf, evalV, addr, opd, opds, aget, aset, adel1, lkill, readCells, nth, Env.put, Env.putV, Env.box, Env.bare, dropOwn, dropOwnS, binD, binBD, binBool, binInt, binStr, unD, AOpd.drop, Cell.of, AOp.kind, sameKind, assertD, eqlB, isUndef, takeC, unownAt, fits, layCells, putCells, putD, fillD, partsOf, optLo, optHi, allSize, Option.getD_some, Option.getD_none, runDefers, readRes, readRes1, readRess, Nat.reduceAdd, Nat.reduceSub, Nat.reduceMul, Nat.reduceBEq, Bool.false_and, Bool.true_and, Bool.and_true, Bool.and_false, Nat.zero_add, Nat.add_zero, beq_self_eq_true, Bool.true_beq, Bool.false_beq, Bool.not_true, Bool.not_false, decide_true, decide_false, bindO, List.map_cons, List.map_nil, List.length_cons, List.length_nil, List.append_nil, List.nil_append, List.cons_append, List.isEmpty_nil, List.isEmpty_cons, Nat.reduceLeDiff, Int.reduceBEq, Int.reduceNeg, Nat.le_refl, hv, hpr, hno, h0, h0', h2, hbad]
        rfl
  · rw [hS, hS2] at hv
    refine .inr ⟨nx', ?_⟩
    rw [TR_fun (af := a15) rfl rfl]
    simp only [a15, σ0, sy0, sy1, sy2, sy3, sy4, sy5, clearEnv, adel, mem, initEnv, initSlots, stepOp, wantedA, evalOp, callOf, panicOf, evalV, addr, opd, opds, aget, aset, adel1, lkill, readCells, nth, Env.put, Env.putV, Env.box, Env.bare, dropOwn, dropOwnS, binD, binBD, binBool, binInt, binStr, unD, AOpd.drop, Cell.of, AOp.kind, sameKind, assertD, eqlB, isUndef, takeC, unownAt, fits, layCells, putCells, putD, fillD, partsOf, optLo, optHi, allSize, Option.getD_some, Option.getD_none, runDefers, readRes, readRes1, readRess, Nat.reduceAdd, Nat.reduceSub, Nat.reduceMul, Nat.reduceBEq, Bool.false_and, Bool.true_and, Bool.and_true, Bool.and_false, Nat.zero_add, Nat.add_zero, beq_self_eq_true, Bool.true_beq, Bool.false_beq, Bool.not_true, Bool.not_false, decide_true, decide_false, bindO, List.map_cons, List.map_nil, List.length_cons, List.length_nil, List.append_nil, List.nil_append, List.cons_append, List.isEmpty_nil, List.isEmpty_cons, Nat.reduceLeDiff, Int.reduceBEq, Int.reduceNeg, Nat.le_refl, hv, hbad]
    rfl
end Go.Proofs.YtdoppkjoemlhjaaDoor.Sh

/-
  The program run by the machine, where the document's example, upper names, prints, and what is read of a print are served from without.
-/
namespace Go.Proofs.YtdoppkjoemlhjaaDoor.Sh
open Go Go.Mx
open Classical in
noncomputable def xReadS (s : List UInt8) : Option D := if h : ∃ v, ReadsV s v then some (.tup [dV (Classical.choose h), .int .i64 0]) else ifB (decide (s.length < 30000)) (some (.tup [dV v0, .int .i64 12])) none
noncomputable def xRead (ds : List D) : Option D := match ds with
  | [.str s] => xReadS s
  | _ => none
theorem xRead_print {v : V} (h : Readable v) : xRead [.str (pprint v)] = some (.tup [dV v, .int .i64 0]) := by
  have hx : ∃ w, ReadsV (pprint v) w := ⟨v, h, rfl⟩
  show xReadS (pprint v) = _
  unfold xReadS
  rw [dif_pos hx]
  have hs := Classical.choose_spec hx
  have : v = Classical.choose hx := print_inj v _ h hs.1 hs.2.symm
  rw [← this]
theorem xRead_none {s : List UInt8} (hs : s.length < 30000) (h : ¬ ∃ v, ReadsV s v) : xRead [.str s] = some (.tup [dV v0, .int .i64 12]) := by
  show xReadS s = _
  unfold xReadS
  rw [dif_neg h, decide_eq_true hs, ifB_true]
theorem noPtr_v0 : noPtr (dV v0) = true := by rw [dV_v0]; rfl
theorem xRead_ok {ds : List D} {d : D} (h : xRead ds = some d) (σ : Store) : CallOK Tryd.prog κ 15 ds σ (.ret ⟨false, d⟩) σ := by
  unfold xRead at h
  split at h
  · rename_i s
    unfold xReadS at h
    split at h
    · rename_i hx
      cases h
      obtain ⟨k1, k2⟩ := Classical.choose_spec hx
      generalize Classical.choose hx = v at k1 k2
      rw [← k2]
      exact read_ok v k1 σ
    · rename_i hx
      obtain ⟨h1, h2⟩ := ifB_some h
      cases h2
      have hs : s.length < 30000 := of_decide_eq_true h1
      obtain ⟨n, hn⟩ := readG_run (s.length + 1)
      rcases hn n (Nat.le_refl _) s (by omega) hs with ⟨v, nx, hv, _⟩ | ⟨nx, hr⟩
      · exact absurd ⟨v, hv⟩ hx
      · exact frame_rule (TR_sound n 15 _ σ0 _ _ hr) rfl (by simp only [Out.clean, noPtr, noPtrL, noPtr_v0, Bool.and_self]) σ
  · cases h
def Γt : FuncId → Option AFun := fun f => ifB (f == 14 || f == 24 || f == 12 || f == 15) none (Γl f)
noncomputable def Xt : CallF := fun f ds σ => match f with
  | 14 => ifB ds.isEmpty (some (.ret ⟨false, .bool true⟩, σ)) none
  | 15 => bindO (xRead ds) fun d => some (.ret ⟨false, d⟩, σ)
  | f => Xq f ds σ
theorem Γt_holds : Holds Tryd.prog Γt := by
  intro f af h
  unfold Γt at h
  cases hf : (f == 14 || f == 24 || f == 12 || f == 15) with
  | true => rw [hf] at h; cases h
  | false => rw [hf] at h; exact Γl_holds f af h
theorem Xt_sound : CSound Tryd.prog κ Xt := by
  intro f ds σ out σ' h
  unfold Xt at h
  split at h
  · obtain ⟨h1, h2⟩ := ifB_some h
    cases h2
    cases ds with
    | nil => exact lives_ok σ
    | cons d l => cases h1
  · obtain ⟨d, h1, h2⟩ := bindO_some h
    cases h2
    exact xRead_ok h1 σ
  · exact Xq_sound _ _ _ _ _ h
/-- The program, with so much fuel. -/
noncomputable def T (n : Nat) : CallF := runQ Γt Rl Xt n false
noncomputable def TD (n : Nat) : CallF := runQ Γt Rl Xt n true
theorem T_sound (n : Nat) : CSound Tryd.prog κ (T n) := (run_sound Γt_holds Rl_sound Xt_sound n).1
theorem T_fun {n : Nat} {f : FuncId} {af : AFun} {ds : List D} {σ : Store} (h : Γt f = some af) (hl : ds.length = af.nargs) : T (n + 1) f ds σ = finX Rl (TD n) af σ.next (exec (T n) n af.body (initEnv ds) σ) := runQ_fun h hl
theorem T_lib {n : Nat} {f : FuncId} {ds : List D} {σ : Store} (h : Γt f = none) : T (n + 1) f ds σ = Xt f ds σ := runQ_lib h
theorem lives_run : Evly fun n => ∀ σ, T n 14 [] σ = some (.ret ⟨false, .bool true⟩, σ) := (Evly.all (p := fun _ => True) fun _ => trivial).step 0 fun n _ _ σ => by rw [T_lib rfl]; rfl
theorem pupper_run : Evly fun n => ∀ s σ, T n 24 [.str s] σ = some (.ret ⟨false, .bool (upperB s)⟩, σ) := (Evly.all (p := fun _ => True) fun _ => trivial).step 0 fun n _ _ s σ => by rw [T_lib rfl]; rfl
theorem pprint_run : Evly fun n => ∀ v, Printable v → ∀ σ, T n 12 [dV v] σ = some (.ret ⟨false, .str (pprint v)⟩, σ) := (Evly.all (p := fun _ => True) fun _ => trivial).step 0 fun n _ _ v hv σ => by
  rw [T_lib rfl]
  show bindO (xPrint [dV v]) _ = _
  rw [xPrint_dV hv]
  rfl
theorem pread_run : Evly fun n => ∀ v, Readable v → ∀ σ, T n 15 [.str (pprint v)] σ = some (.ret ⟨false, .tup [dV v, .int .i64 0]⟩, σ) := (Evly.all (p := fun _ => True) fun _ => trivial).step 0 fun n _ _ v hv σ => by
  rw [T_lib rfl]
  show bindO (xRead [.str (pprint v)]) _ = _
  rw [xRead_print hv]
  rfl
theorem preadN_run : Evly fun n => ∀ s, s.length < 30000 → (¬ ∃ v, ReadsV s v) → ∀ σ, T n 15 [.str s] σ = some (.ret ⟨false, .tup [dV v0, .int .i64 12]⟩, σ) := (Evly.all (p := fun _ => True) fun _ => trivial).step 0 fun n _ _ s hs hv σ => by
  rw [T_lib rfl]
  show bindO (xRead [.str s]) _ = _
  rw [xRead_none hs hv]
  rfl
end Go.Proofs.YtdoppkjoemlhjaaDoor.Sh

