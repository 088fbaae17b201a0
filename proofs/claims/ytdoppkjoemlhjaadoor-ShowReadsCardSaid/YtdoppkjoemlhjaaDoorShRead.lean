/-
  The reader of prints: a value's print is read as it was.
-/
import Derived.Test.YtdoppkjoemlhjaaDoorShGoodD
set_option linter.unusedSimpArgs false
set_option linter.unusedVariables false
namespace Go.Proofs.YtdoppkjoemlhjaaDoor.Sh
open Go Go.Mx
theorem loopN_rel {body : Env → Store → XRes} (I : Nat → Env → Store → Prop) (Q : AExit × Env × Store → Prop) (k : Nat) (hstep : ∀ i, i < k → ∀ e σ, I i e σ → ∃ e' σ', body e σ = some (.normal, e', σ') ∧ I (i + 1) e' σ')
    (hend : ∀ e σ, I k e σ → ∃ r, body e σ = some r ∧ (∀ e σ, r ≠ (.normal, e, σ)) ∧ Q r) : ∀ (n j : Nat) (e : Env) (σ : Store), j ≤ k → k < n + j → I j e σ → ∃ r, loopN body n e σ = some r ∧ Q r
  | 0, j, e, σ, h1, h2, _ => by omega
  | n + 1, j, e, σ, h1, h2, hI => by
    by_cases hj : j = k
    · subst hj
      obtain ⟨r, hr, hn, hq⟩ := hend e σ hI
      refine ⟨r, ?_, hq⟩
      rw [loopN, hr]
      obtain ⟨x, e', σ'⟩ := r
      cases x with
      | normal => exact absurd rfl (hn e' σ')
      | _ => rfl
    · obtain ⟨e', σ', hb, hI'⟩ := hstep j (by omega) e σ hI
      rw [loopN, hb]
      exact loopN_rel I Q k hstep hend n (j + 1) e' σ' (by omega) (by omega) hI'
theorem ascii_app : ∀ a b : List UInt8, ascii (a ++ b) = (ascii a && ascii b)
  | [], b => rfl
  | x :: a, b => by
    rw [List.cons_append, ascii, ascii]
    cases decide (x.toNat < 128) with
    | true => rw [ifB_true, ifB_true, ascii_app a b]
    | false => rfl
def StopC (r : List UInt8) : Prop := r = [] ∨ ∃ t, r = 41 :: t
theorem StopC.stop {r : List UInt8} (h : StopC r) : Stop r := by
  rcases h with h | ⟨t, h⟩
  · exact .inl h
  · exact .inr ⟨t, .inr h⟩
theorem stop_kids (ks : List V) {r : List UInt8} (h : StopC r) : Stop (ptexts ks ++ r) := by
  cases ks with
  | nil => exact h.stop
  | cons k l => exact .inr ⟨ptext k true ++ ptexts l ++ r, .inl (by simp [ptexts])⟩
theorem cut32 {r : List UInt8} (h : StopC r) : cutB 32 r = (r, false) := by
  rcases h with rfl | ⟨t, rfl⟩ <;> rfl
theorem Rl_46 {ds : List D} {m : Option D} {σ : Store} : Rl 46 ds m σ = none := rfl
set_option maxRecDepth 10000
theorem back_run : Evly fun n => ∀ ts p l d nx nx', Tops (p :: ts) nx' → -1000 < d → d < 1000 → TRD n 46 [.ptr p 0] (SRd (p :: ts) l d nx) = some (.ret ⟨false, .tup []⟩, SRd (p :: ts) l (d + 1) nx) := (Evly.all (p := fun _ => True) fun _ => trivial).step 0 fun m _ _ ts p l d nx nx' ht h1 h2 => by
  have g : aget (SRd (p :: ts) l d nx).objs 2 = some [⟨false, .str l⟩, ⟨false, .int .i64 d⟩] := SRd_get ht
  have gt : aget (SRd (p :: ts) l d nx).objs p = some [⟨false, .ptr 2 0⟩] := SRd_top
  have u : ({ objs := aset (SRd (p :: ts) l d nx).objs 2 [⟨false, .str l⟩, ⟨false, .int .i64 (d + 1)⟩], tys := (SRd (p :: ts) l d nx).tys, iters := (SRd (p :: ts) l d nx).iters, next := nx } : Store) = SRd (p :: ts) l (d + 1) nx := SRd_set ht
  have hw : IntKind.i64.wrap (d + 1) = d + 1 := wrap64 (by omega) (by omega)
  have hx : exec (TR m) m a46.body (initEnv [.ptr p 0]) (SRd (p :: ts) l d nx) = some (.normal, { slots := [], locs := [], boxes := [], defers := [] }, SRd (p :: ts) l (d + 1) nx) := by
    simp only [a46, sy0, sy1, sy2, sy3, sy4, sy5, clearEnv, adel, mem, initEnv, initSlots, stepOp, wantedA, evalOp, callOf, panicOf, evalV, addr, opd, opds, aget, aset, adel1, lkill, readCells, nth, Env.put, Env.putV, Env.box, Env.bare, dropOwn, dropOwnS, binD, binBD, binBool, binInt, binStr, unD, AOpd.drop, Cell.of, AOp.kind, sameKind, assertD, eqlB, isUndef, takeC, unownAt, fits, layCells, putCells, putD, fillD, partsOf, optLo, optHi, allSize, Option.getD_some, Option.getD_none, runDefers, readRes, readRes1, readRess, Nat.reduceAdd, Nat.reduceSub, Nat.reduceMul, Nat.reduceBEq, Bool.false_and, Bool.true_and, Bool.and_true, Bool.and_false, Nat.zero_add, Nat.add_zero, beq_self_eq_true, Bool.true_beq, Bool.false_beq, Bool.not_true, Bool.not_false, decide_true, decide_false, bindO, List.map_cons, List.map_nil, List.length_cons, List.length_nil, List.append_nil, List.nil_append, List.cons_append, List.isEmpty_nil, List.isEmpty_cons, Nat.reduceLeDiff, Int.reduceBEq, Int.reduceNeg, Nat.le_refl, g, gt, u, hw, SRd_next]
  unfold TRD
  rw [runQ]
  have hΓ : Γr 46 = some a46 := rfl
  have hl : (([D.ptr p 0] : List D).length == a46.nargs) = true := rfl
  have hx' : exec (runQ Γr Rl XR m false) m a46.body (initEnv [.ptr p 0]) (SRd (p :: ts) l d nx) = some (.normal, { slots := [], locs := [], boxes := [], defers := [] }, SRd (p :: ts) l (d + 1) nx) := hx
  rw [hΓ]
  simp only [hl, ifB_true, hx', finish, List.isEmpty_nil, Bool.not_true, Bool.and_false, ifB_false, runDefers, bindO, caseO_some]
  rfl
theorem emp_ow (ks : List V) : (!(List.map dV ks).isEmpty && ow ks.length) = ow ks.length := by cases ks <;> rfl
theorem emp_ow0 : (ow 0) = false := rfl
section
variable {C : CallF} {n : Nat} {ks : List V} {i : Nat} {ts : List Nat} {p : Nat} {f x : Int} {s r : List UInt8} {d : Int} {nx nx2 : Nat}
def E35 (f x : Int) (s : List UInt8) (ks : List V) (p i : Nat) : Env := { slots := [(1, ⟨false, .ptr p 0⟩)], locs := [(2, 2, 0), (3, 3, 0)], boxes := [(2, zeroV), (3, [⟨false, .int .i64 f⟩, ⟨false, .int .i64 x⟩, ⟨false, .str s⟩, ⟨ow i, dlist kV ((ks.take i).map dV)⟩])], defers := [(46, [.ptr p 0])] }
theorem l35_step (t : List UInt8) (h : i < ks.length) (hl : ks.length < 1048576) (ht : Tops (p :: ts) nx2) (hcut : C 48 [.str (32 :: t), .str [32]] (SRd (p :: ts) (32 :: t) d nx) = some (.ret ⟨false, .tup [.str t, .bool true]⟩, SRd (p :: ts) (32 :: t) d nx))
    {o : Bool} (hc : C 47 [.ptr 2 0] (SRd (p :: ts) t d nx) = some (.ret ⟨o, dV ks[i]⟩, SRd (p :: ts) r d nx2)) : exec C n a35_l0 (E35 f x s ks p i) (SRd (p :: ts) (32 :: t) d nx) = some (.normal, E35 f x s ks p (i + 1), SRd (p :: ts) r d nx2) := by
  have g : ∀ l nx, aget (SRd (p :: ts) l d nx).objs 2 = some [⟨false, .str l⟩, ⟨false, .int .i64 d⟩] := fun l nx => SRd_get ht
  have gt : ∀ l nx, aget (SRd (p :: ts) l d nx).objs p = some [⟨false, .ptr 2 0⟩] := fun l nx => SRd_top
  have u : ∀ l l', ({ objs := aset (SRd (p :: ts) l d nx).objs 2 [⟨false, .str l'⟩, ⟨false, .int .i64 d⟩], tys := (SRd (p :: ts) l d nx).tys, iters := (SRd (p :: ts) l d nx).iters, next := nx } : Store) = SRd (p :: ts) l' d nx := fun l l' => SRd_set ht
  have ha := app_take ks i h hl
  generalize 32 :: t = l at *
  simp only [a35_l0, E35, zeroV, sy0, sy1, sy2, sy3, sy4, sy5, clearEnv, adel, mem, initEnv, initSlots, stepOp, wantedA, evalOp, callOf, panicOf, evalV, addr, opd, opds, aget, aset, adel1, lkill, readCells, nth, Env.put, Env.putV, Env.box, Env.bare, dropOwn, dropOwnS, binD, binBD, binBool, binInt, binStr, unD, AOpd.drop, Cell.of, AOp.kind, sameKind, assertD, eqlB, isUndef, takeC, unownAt, fits, layCells, putCells, putD, fillD, partsOf, optLo, optHi, allSize, Option.getD_some, Option.getD_none, runDefers, readRes, readRes1, readRess, Nat.reduceAdd, Nat.reduceSub, Nat.reduceMul, Nat.reduceBEq, Bool.false_and, Bool.true_and, Bool.and_true, Bool.and_false, Nat.zero_add, Nat.add_zero, beq_self_eq_true, Bool.true_beq, Bool.false_beq, Bool.not_true, Bool.not_false, decide_true, decide_false, bindO, List.map_cons, List.map_nil, List.length_cons, List.length_nil, List.append_nil, List.nil_append, List.cons_append, List.isEmpty_nil, List.isEmpty_cons, Nat.reduceLeDiff, Int.reduceBEq, Int.reduceNeg, Nat.le_refl, g, gt, u, SRd_next, hcut, hc, ok_dV, cells_dV, ha]
theorem l35_end (hl : ks.length < 1048576) (ht : Tops (p :: ts) nx2) (hcut : C 48 [.str r, .str [32]] (SRd (p :: ts) r d nx) = some (.ret ⟨false, .tup [.str r, .bool false]⟩, SRd (p :: ts) r d nx)) :
    exec C n a35_l0 (E35 f x s ks p ks.length) (SRd (p :: ts) r d nx) = some (.ret, { slots := [], locs := [(2, 2, 0)], boxes := [(2, [⟨false, .int .i64 f⟩, ⟨false, .int .i64 x⟩, ⟨false, .str s⟩, ⟨ow ks.length, dlist kV (ks.map dV)⟩])], defers := [(46, [.ptr p 0])] }, SRd (p :: ts) r d nx) := by
  have g : ∀ l nx, aget (SRd (p :: ts) l d nx).objs 2 = some [⟨false, .str l⟩, ⟨false, .int .i64 d⟩] := fun l nx => SRd_get ht
  have gt : ∀ l nx, aget (SRd (p :: ts) l d nx).objs p = some [⟨false, .ptr 2 0⟩] := fun l nx => SRd_top
  have htk : List.take ks.length ks = ks := List.take_length
  simp only [a35_l0, E35, zeroV, sy0, sy1, sy2, sy3, sy4, sy5, clearEnv, adel, mem, initEnv, initSlots, stepOp, wantedA, evalOp, callOf, panicOf, evalV, addr, opd, opds, aget, aset, adel1, lkill, readCells, nth, Env.put, Env.putV, Env.box, Env.bare, dropOwn, dropOwnS, binD, binBD, binBool, binInt, binStr, unD, AOpd.drop, Cell.of, AOp.kind, sameKind, assertD, eqlB, isUndef, takeC, unownAt, fits, layCells, putCells, putD, fillD, partsOf, optLo, optHi, allSize, Option.getD_some, Option.getD_none, runDefers, readRes, readRes1, readRess, Nat.reduceAdd, Nat.reduceSub, Nat.reduceMul, Nat.reduceBEq, Bool.false_and, Bool.true_and, Bool.and_true, Bool.and_false, Nat.zero_add, Nat.add_zero, beq_self_eq_true, Bool.true_beq, Bool.false_beq, Bool.not_true, Bool.not_false, decide_true, decide_false, bindO, List.map_cons, List.map_nil, List.length_cons, List.length_nil, List.append_nil, List.nil_append, List.cons_append, List.isEmpty_nil, List.isEmpty_cons, Nat.reduceLeDiff, Int.reduceBEq, Int.reduceNeg, Nat.le_refl, g, gt, hcut, htk, emp_ow]
end
/-- What a value must be to be read as it was. -/
theorem good_head {f n : Int} {s : List UInt8} {ks : List V} (h : good (.mk f n s ks) = true) (hn : Small' n) : Head f n s ∧ (ks ≠ [] → f = 1) ∧ goods ks = true := by
  rw [good] at h
  cases h2 : f == 2 with
  | true =>
    have e : f = 2 := by simpa using h2
    rw [h2] at h
    simp only [ifB_true, Bool.and_eq_true, beq_iff_eq] at h
    obtain ⟨h3, h4⟩ := h
    have hk : ks = [] := List.length_eq_zero_iff.1 h4
    subst e h3 hk
    exact ⟨.num n hn, fun h => absurd rfl h, rfl⟩
  | false =>
  cases h3 : f == 3 with
  | true =>
    have e : f = 3 := by simpa using h3
    rw [h2, h3] at h
    simp only [ifB_true, ifB_false, Bool.and_eq_true, beq_iff_eq] at h
    obtain ⟨⟨h5, h4⟩, h6⟩ := h
    have hk : ks = [] := List.length_eq_zero_iff.1 h4
    subst e h5 hk h6
    exact ⟨.fn, fun h => absurd rfl h, rfl⟩
  | false =>
  cases h4 : f == 4 with
  | true =>
    have e : f = 4 := by simpa using h4
    rw [h2, h3, h4] at h
    simp only [ifB_true, ifB_false, Bool.and_eq_true, beq_iff_eq] at h
    obtain ⟨⟨h5, h7⟩, h6⟩ := h
    have hk : ks = [] := List.length_eq_zero_iff.1 h7
    subst e h5 hk h6
    exact ⟨.more, fun h => absurd rfl h, rfl⟩
  | false =>
  cases h1 : f == 1 with
  | false => rw [h2, h3, h4, h1] at h; simp [ifB_false] at h
  | true =>
    have e : f = 1 := by simpa using h1
    rw [h2, h3, h4, h1] at h
    simp only [ifB_true, ifB_false, Bool.and_eq_true, beq_iff_eq] at h
    obtain ⟨⟨⟨h5, h6⟩, _⟩, h8⟩ := h
    subst e h5
    exact ⟨.con s h6, fun _ => rfl, h8⟩
theorem nested_kid {ks : List V} {k : V} (h : k ∈ ks) : nested k ≤ nesteds ks := by
  induction ks with
  | nil => cases h
  | cons a l ih =>
    rw [nesteds]
    rcases List.mem_cons.1 h with e | h
    · rw [e]; omega
    · have := ih h; omega
theorem ptexts_drop (ks : List V) (i : Nat) (h : i < ks.length) : ptexts (ks.drop i) = 32 :: (ptext ks[i] true ++ ptexts (ks.drop (i + 1))) := by
  rw [List.drop_eq_getElem_cons h, ptexts]
  simp
def ValueOK (v : V) (m : Nat) : Prop := ∀ r, StopC r → ascii (ptext v false ++ r) = true → (ptext v false ++ r).length < 1000000 → ∀ ts d nx, Tops ts nx → (nested v : Int) + 1 ≤ d → d < 1000 →
  ∃ nx', nx ≤ nx' ∧ TR m 35 [.ptr 2 0] (SRd ts (ptext v false ++ r) d nx) = some (.ret ⟨ow v.kids.length, dV v⟩, SRd ts r d nx')
def AtomOK (v : V) (m : Nat) : Prop := ∀ r, Stop r → ascii (ptext v true ++ r) = true → (ptext v true ++ r).length < 1000000 → ∀ ts d nx, Tops ts nx → (nested v : Int) + 1 ≤ d → d < 1000 →
  ∃ nx', nx ≤ nx' ∧ TR m 47 [.ptr 2 0] (SRd ts (ptext v true ++ r) d nx) = some (.ret ⟨ow v.kids.length, dV v⟩, SRd ts r d nx')
theorem atom_of_value (f n : Int) (s : List UInt8) (ks : List V) (hh : Head f n s) (hks : ks ≠ [] → f = 1) (hv : Evly (ValueOK (.mk f n s ks))) : Evly (AtomOK (.mk f n s ks)) := by
  by_cases hb : (decide (0 < ks.length) || decide (n < 0)) = true
  · refine (hv.and (cut_str_run.and must_run)).step 0 fun m _ ⟨hval, ⟨hcut, hmust⟩⟩ r hr ha hl ts d nx ht hd hd2 => ?_
    have ht1 : ptext (.mk f n s ks) true = [40] ++ ptext (.mk f n s ks) false ++ [41] := by
      rw [ptext, ptext, Bool.true_and, Bool.false_and, hb, ifB_true, ifB_false]
    rw [ht1] at ha hl ⊢
    have el : [40] ++ ptext (.mk f n s ks) false ++ [41] ++ r = 40 :: (ptext (.mk f n s ks) false ++ (41 :: r)) := by simp
    rw [el] at ha hl ⊢
    have ha2 : ascii (ptext (.mk f n s ks) false ++ (41 :: r)) = true := by
      have : ascii ([40] ++ (ptext (.mk f n s ks) false ++ (41 :: r))) = true := ha
      rw [ascii_app, Bool.and_eq_true] at this
      exact this.2
    obtain ⟨nx', hnx, hval⟩ := hval (41 :: r) (.inr ⟨r, rfl⟩) ha2 (by simp only [List.length_cons] at hl; omega) ts d nx ht hd hd2
    refine ⟨nx', hnx, ?_⟩
    have ht' := ht.mono hnx
    generalize ptext (.mk f n s ks) false ++ (41 :: r) = t at *
    have c1 := hcut 40 (40 :: t) (SRd ts (40 :: t) d nx)
    have c2 := hcut 41 (41 :: r) (SRd ts (41 :: r) d nx')
    have e1 : cutB 40 (40 :: t) = (t, true) := rfl
    have e2 : cutB 41 (41 :: r) = (r, true) := rfl
    rw [e1] at c1
    rw [e2] at c2
    simp only at c1 c2
    have hm := hmust (SRd ts (41 :: r) d nx')
    have g : ∀ l nx, aget (SRd ts l d nx).objs 2 = some [⟨false, .str l⟩, ⟨false, .int .i64 d⟩] := fun l nx => SRd_get ht'
    have u : ∀ l l' nx, ({ objs := aset (SRd ts l d nx).objs 2 [⟨false, .str l'⟩, ⟨false, .int .i64 d⟩], tys := (SRd ts l d nx).tys, iters := (SRd ts l d nx).iters, next := nx } : Store) = SRd ts l' d nx := fun l l' nx => SRd_set ht'
    rw [TR_fun (af := a47) rfl rfl]
    rw [dV_eq] at hval ⊢
    generalize 40 :: t = l1 at *
    generalize 41 :: r = l2 at *
    simp only [form_mk, n_mk, name_mk, kids_mk] at hval ⊢
    simp only [a47, sy0, sy1, sy2, sy3, sy4, sy5, clearEnv, adel, mem, initEnv, initSlots, stepOp, wantedA, evalOp, callOf, panicOf, evalV, addr, opd, opds, aget, aset, adel1, lkill, readCells, nth, Env.put, Env.putV, Env.box, Env.bare, dropOwn, dropOwnS, binD, binBD, binBool, binInt, binStr, unD, AOpd.drop, Cell.of, AOp.kind, sameKind, assertD, eqlB, isUndef, takeC, unownAt, fits, layCells, putCells, putD, fillD, partsOf, optLo, optHi, allSize, Option.getD_some, Option.getD_none, runDefers, readRes, readRes1, readRess, Nat.reduceAdd, Nat.reduceSub, Nat.reduceMul, Nat.reduceBEq, Bool.false_and, Bool.true_and, Bool.and_true, Bool.and_false, Nat.zero_add, Nat.add_zero, beq_self_eq_true, Bool.true_beq, Bool.false_beq, Bool.not_true, Bool.not_false, decide_true, decide_false, bindO, List.map_cons, List.map_nil, List.length_cons, List.length_nil, List.append_nil, List.nil_append, List.cons_append, List.isEmpty_nil, List.isEmpty_cons, Nat.reduceLeDiff, Int.reduceBEq, Int.reduceNeg, Nat.le_refl, g, u, SRd_next, c1, c2, hm, hval, emp_ow]
  · have hb : (decide (0 < ks.length) || decide (n < 0)) = false := by simpa using hb
    have hk : ks = [] := by
      rw [Bool.or_eq_false_iff] at hb
      have := of_decide_eq_false hb.1
      exact List.length_eq_zero_iff.1 (by omega)
    subst hk
    have ht1 : ptext (.mk f n s []) true = phead f n s := by
      rw [ptext, Bool.true_and, hb, ifB_false, ptexts, List.append_nil]
    refine leaf_run.mono fun m hleaf r hr ha hl ts d nx ht hd hd2 => ?_
    rw [ht1] at ha hl ⊢
    exact ⟨nx, Nat.le_refl _, hleaf f n s hh r hr ha hl ts d nx nx ht⟩
theorem value_of_atoms (f n : Int) (s : List UInt8) (ks : List V) (hh : Head f n s) (hks : ks ≠ [] → f = 1) (hlen : ks.length < 1048576) (hk : ∀ k ∈ ks, Evly (AtomOK k)) : Evly (ValueOK (.mk f n s ks)) := by
  have hkids : Evly fun m => ∀ k ∈ ks, AtomOK k m := Evly.list ks hk
  refine (((hkids.and leaf_run).and (cut_str_run.and must_run)).and back_run).step (ks.length + 1) fun m hm ⟨⟨⟨hat, hleaf⟩, ⟨hcut, hmust⟩⟩, hback⟩ r hr ha hl ts d nx ht hd hd2 => ?_
  have ht1 : ptext (.mk f n s ks) false = phead f n s ++ ptexts ks := by rw [ptext, Bool.false_and, ifB_false]
  rw [ht1] at ha hl ⊢
  rw [List.append_assoc] at ha hl ⊢
  have hp := ht.push
  have hleaf := hleaf f n s hh (ptexts ks ++ r) (stop_kids ks hr) ha hl (nx :: ts) (d - 1) (nx + 1) (nx + 1) hp
  have hkd : ∀ k ∈ ks, (nested k : Int) + 1 ≤ d - 1 := fun k hk => by
    have hf := hks (List.ne_nil_of_mem hk)
    have h1 := nested_kid hk
    have h2 : nested (.mk f n s ks) = nesteds ks + 1 := by rw [nested, hf]; rfl
    omega
  have hasc : ascii (ptexts ks ++ r) = true := by
    rw [ascii_app, Bool.and_eq_true] at ha
    exact ha.2
  have hlen2 : (ptexts ks ++ r).length < 1000000 := by simp only [List.length_append] at hl ⊢; omega
  obtain ⟨res, hloop, nx', hnx', hres⟩ := loopN_rel (body := exec (TR m) m a35_l0)
    (fun i e σ => ∃ nx2, nx + 1 ≤ nx2 ∧ e = E35 f n s ks nx i ∧ σ = SRd (nx :: ts) (ptexts (ks.drop i) ++ r) (d - 1) nx2)
    (fun res => ∃ nx2, nx + 1 ≤ nx2 ∧ res = (.ret, { slots := [], locs := [(2, 2, 0)], boxes := [(2, [⟨false, .int .i64 f⟩, ⟨false, .int .i64 n⟩, ⟨false, .str s⟩, ⟨ow ks.length, dlist kV (ks.map dV)⟩])], defers := [(46, [.ptr nx 0])] }, SRd (nx :: ts) r (d - 1) nx2)) ks.length
    (fun i hi e σ hI => by
      obtain ⟨nx2, h1, rfl, rfl⟩ := hI
      have hmem := List.getElem_mem hi
      have hdr := ptexts_drop ks i hi
      have hpre : ptexts ks = ptexts (ks.take i) ++ ptexts (ks.drop i) := by
        have : ∀ a b : List V, ptexts (a ++ b) = ptexts a ++ ptexts b := fun a b => by
          induction a with
          | nil => rfl
          | cons x a ih => simp only [List.cons_append, ptexts, ih, List.append_assoc]
        rw [← this, List.take_append_drop]
      rw [hpre, List.append_assoc] at hasc hlen2
      have ha2 : ascii (ptexts (ks.drop i) ++ r) = true := by
        rw [ascii_app, Bool.and_eq_true] at hasc
        exact hasc.2
      have hl2 : (ptexts (ks.drop i) ++ r).length < 1000000 := by simp only [List.length_append] at hlen2 ⊢; omega
      rw [hdr] at ha2 hl2 ⊢
      have el : 32 :: (ptext ks[i] true ++ ptexts (ks.drop (i + 1))) ++ r = 32 :: (ptext ks[i] true ++ (ptexts (ks.drop (i + 1)) ++ r)) := by simp
      rw [el] at ha2 hl2 ⊢
      have ha3 : ascii (ptext ks[i] true ++ (ptexts (ks.drop (i + 1)) ++ r)) = true := by
        have : ascii ([32] ++ (ptext ks[i] true ++ (ptexts (ks.drop (i + 1)) ++ r))) = true := ha2
        rw [ascii_app, Bool.and_eq_true] at this
        exact this.2
      have hp2 := hp.mono h1
      obtain ⟨nx3, h3, hatom⟩ := hat ks[i] hmem (ptexts (ks.drop (i + 1)) ++ r) (stop_kids _ hr) ha3 (by simp only [List.length_cons] at hl2; omega) (nx :: ts) (d - 1) nx2 hp2 (hkd _ hmem) (by omega)
      have hc := hcut 32 (32 :: (ptext ks[i] true ++ (ptexts (ks.drop (i + 1)) ++ r))) (SRd (nx :: ts) (32 :: (ptext ks[i] true ++ (ptexts (ks.drop (i + 1)) ++ r))) (d - 1) nx2)
      exact ⟨_, _, l35_step _ hi hlen (hp2.mono h3) hc hatom, nx3, by omega, rfl, rfl⟩)
    (fun e σ hI => by
      obtain ⟨nx2, h1, rfl, rfl⟩ := hI
      have hc := hcut 32 r (SRd (nx :: ts) r (d - 1) nx2)
      rw [cut32 hr] at hc
      have hdn : ptexts (ks.drop ks.length) ++ r = r := by rw [List.drop_length]; rfl
      rw [hdn]
      exact ⟨_, l35_end hlen (hp.mono h1) hc, (fun _ _ h => by cases h), nx2, h1, rfl⟩) m 0 _ _ (by omega) (by omega) ⟨nx + 1, Nat.le_refl _, rfl, rfl⟩
  subst hres
  refine ⟨nx', by omega, ?_⟩
  have hb := hback ts nx r (d - 1) nx' nx' (hp.mono hnx') (by omega) (by omega)
  have ed : d - 1 + 1 = d := by omega
  rw [ed] at hb
  have hm := hmust (SRd (nx :: ts) (phead f n s ++ (ptexts ks ++ r)) d (nx + 1))
  have g : ∀ l d nx', aget (SRd (nx :: ts) l d nx').objs 2 = some [⟨false, .str l⟩, ⟨false, .int .i64 d⟩] := fun l d nx' => SRd_get hp
  have gt : ∀ l d nx', aget (SRd (nx :: ts) l d nx').objs nx = some [⟨false, .ptr 2 0⟩] := fun l d nx' => SRd_top
  have u : ∀ l d d' nx', ({ objs := aset (SRd (nx :: ts) l d nx').objs 2 [⟨false, .str l⟩, ⟨false, .int .i64 d'⟩], tys := (SRd (nx :: ts) l d nx').tys, iters := (SRd (nx :: ts) l d nx').iters, next := nx' } : Store) = SRd (nx :: ts) l d' nx' := fun l d d' nx' => SRd_set hp
  have hw : IntKind.i64.wrap (d - 1) = d - 1 := wrap64 (by omega) (by omega)
  have hd0 : d > 0 := by omega
  have hpush : ∀ l d, ({ objs := (nx, [⟨false, .ptr 2 0⟩]) :: (SRd ts l d nx).objs, tys := (nx, 59) :: (SRd ts l d nx).tys, iters := (SRd ts l d nx).iters, next := nx + 1 } : Store) = SRd (nx :: ts) l d (nx + 1) := fun l d => SRd_push
  have htr := SRd_trunc (l := r) (d := d) (nx' := nx') ht
  rw [TR_fun (af := a35) rfl rfl]
  simp only [E35, emp_ow0, List.take_zero, List.map_nil, dlist_nil, List.drop_zero, zeroV] at hloop
  rw [dV_eq] at hleaf
  simp only [form_mk, n_mk, name_mk, kids_mk, List.map_nil, dlist_nil] at hleaf
  rw [dV_eq]
  simp only [form_mk, n_mk, name_mk, kids_mk]
  generalize phead f n s ++ (ptexts ks ++ r) = l at *
  simp only [a35, sy0, sy1, sy2, sy3, sy4, sy5, clearEnv, adel, mem, initEnv, initSlots, stepOp, wantedA, evalOp, callOf, panicOf, evalV, addr, opd, opds, aget, aset, adel1, lkill, readCells, nth, Env.put, Env.putV, Env.box, Env.bare, dropOwn, dropOwnS, binD, binBD, binBool, binInt, binStr, unD, AOpd.drop, Cell.of, AOp.kind, sameKind, assertD, eqlB, isUndef, takeC, unownAt, fits, layCells, putCells, putD, fillD, partsOf, optLo, optHi, allSize, Option.getD_some, Option.getD_none, runDefers, readRes, readRes1, readRess, Nat.reduceAdd, Nat.reduceSub, Nat.reduceMul, Nat.reduceBEq, Bool.false_and, Bool.true_and, Bool.and_true, Bool.and_false, Nat.zero_add, Nat.add_zero, beq_self_eq_true, Bool.true_beq, Bool.false_beq, Bool.not_true, Bool.not_false, decide_true, decide_false, bindO, List.map_cons, List.map_nil, List.length_cons, List.length_nil, List.append_nil, List.nil_append, List.cons_append, List.isEmpty_nil, List.isEmpty_cons, Nat.reduceLeDiff, Int.reduceBEq, Int.reduceNeg, Nat.le_refl, Rl_46, g, gt, u, hw, hd0, hpush, SRd_next, hm, hleaf, hloop, hb, htr, emp_ow]
theorem both_run (v : V) (hf : FitN v) : good v = true → Evly (ValueOK v) ∧ Evly (AtomOK v) := by
  induction hf with
  | mk f n s ks hks hn hk ih =>
    intro hg
    obtain ⟨hh, hf1, hgs⟩ := good_head hg hn
    have hat : ∀ k ∈ ks, Evly (AtomOK k) := fun k hk' => by
      rw [goods_eq, List.all_eq_true] at hgs
      exact (ih k hk' (hgs k hk')).2
    have hv := value_of_atoms f n s ks hh hf1 hks hat
    exact ⟨hv, atom_of_value f n s ks hh hf1 hv⟩
end Go.Proofs.YtdoppkjoemlhjaaDoor.Sh

/-
  What is printed is read: the program's function, at every store.
-/
namespace Go.Proofs.YtdoppkjoemlhjaaDoor.Sh
open Go Go.Mx
set_option maxRecDepth 10000
theorem Rl_34_none {σ : Store} : Rl 34 [.ptr 0 0, .ptr 1 0] none σ = some (none, σ) := by
  show recRun (fun _ _ _ => none) 3 r34 2 3 2 [.ptr 0 0, .ptr 1 0] none σ = _
  have hx : exec (fun _ _ _ => none) 3 r34 (recEnv [.ptr 0 0, .ptr 1 0] 3 2 none) σ = some (.normal, { slots := [(0, ⟨false, .ptr 0 0⟩), (1, ⟨false, .ptr 1 0⟩), (3, ⟨false, .niliface⟩), (2, ⟨false, .niliface⟩), (4, ⟨false, .niliface⟩), (6, ⟨false, .bool true⟩)], locs := [], boxes := [], defers := [] }, σ) := by
    simp only [r34, recEnv, sy0, sy1, sy2, sy3, sy4, sy5, clearEnv, adel, mem, initEnv, initSlots, stepOp, wantedA, evalOp, callOf, panicOf, evalV, addr, opd, opds, aget, aset, adel1, lkill, readCells, nth, Env.put, Env.putV, Env.box, Env.bare, dropOwn, dropOwnS, binD, binBD, binBool, binInt, binStr, unD, AOpd.drop, Cell.of, AOp.kind, sameKind, assertD, eqlB, isUndef, takeC, unownAt, fits, layCells, putCells, putD, fillD, partsOf, optLo, optHi, allSize, Option.getD_some, Option.getD_none, runDefers, readRes, readRes1, readRess, Nat.reduceAdd, Nat.reduceSub, Nat.reduceMul, Nat.reduceBEq, Bool.false_and, Bool.true_and, Bool.and_true, Bool.and_false, Nat.zero_add, Nat.add_zero, beq_self_eq_true, Bool.true_beq, Bool.false_beq, Bool.not_true, Bool.not_false, decide_true, decide_false, bindO, List.map_cons, List.map_nil, List.length_cons, List.length_nil, List.append_nil, List.nil_append, List.cons_append, List.isEmpty_nil, List.isEmpty_cons, Nat.reduceLeDiff, Int.reduceBEq, Int.reduceNeg, Nat.le_refl]
  have hl : (([D.ptr 0 0, D.ptr 1 0] : List D).length == 2) = true := rfl
  unfold recRun
  simp only [hl, ifB_true, hx, List.isEmpty_nil]
theorem printR_run : Evly fun n => ∀ v, Printable v → ∀ σ, TR n 12 [dV v] σ = some (.ret ⟨false, .str (pprint v)⟩, σ) := (Evly.all (p := fun _ => True) fun _ => trivial).step 0 fun n _ _ v hv σ => by
  rw [TR_lib rfl]
  show bindO (xPrint [dV v]) _ = _
  rw [xPrint_dV hv]
  rfl
theorem told_good {v : V} {d : Nat} (h : told v d = true) : good v = true ∧ nested v ≤ d := by
  rw [told_may] at h
  simpa using h
theorem ascii_phead {f n : Int} {s : List UInt8} (h : Head f n s) : ascii (phead f n s) = true := (head_word h).asc
theorem ascii_print (v : V) (hf : FitN v) : good v = true → ∀ w, ascii (ptext v w) = true := by
  induction hf with
  | mk f n s ks hks hn hk ih =>
    intro hg w
    obtain ⟨hh, hf1, hgs⟩ := good_head hg hn
    clear hf1
    have hkids : ascii (ptexts ks) = true := by
      rw [goods_eq, List.all_eq_true] at hgs
      clear hks hg
      induction ks with
      | nil => rfl
      | cons k r ihr =>
        rw [ptexts, ascii_app, ascii_app, ih k (List.mem_cons_self ..) (hgs k (List.mem_cons_self ..)) true, ihr (fun x hx => hk x (List.mem_cons_of_mem _ hx)) (fun x hx => ih x (List.mem_cons_of_mem _ hx)) (fun x hx => hgs x (List.mem_cons_of_mem _ hx))]
        rfl
    have hb : ascii (phead f n s ++ ptexts ks) = true := by rw [ascii_app, ascii_phead hh, hkids]; rfl
    rw [ptext]
    cases (w && (decide (0 < ks.length) || decide (n < 0))) with
    | true => rw [ifB_true, ascii_app, ascii_app, hb]; rfl
    | false => rw [ifB_false]; exact hb
theorem read_run (v : V) (hn : Nums v) (hw : wt v < 1000000) (ht : told v 40 = true) : Evly fun m => ∃ nx, TR m 15 [.str (pprint v)] σ0 = some (.ret ⟨false, .tup [dV v, .int .i64 0]⟩, { objs := [], tys := [], iters := [], next := nx }) := by
  obtain ⟨hg, hnest⟩ := told_good ht
  have hfit := fitN_of hn hw
  have hpt : pprint v = ptext v false := by unfold pprint; rw [ht, ifB_true]
  have hlen := ptext_len v false
  have hne := ptext_ne v false 40 ht
  have hasc := ascii_print v hfit hg false
  refine ((both_run v hfit hg).1.and (printR_run.and must_run)).step 0 fun m _ ⟨hval, ⟨hpr, hmust⟩⟩ => ?_
  obtain ⟨nx', hnx, hval⟩ := hval [] (.inl rfl) (by rw [List.append_nil]; exact hasc) (by rw [List.append_nil]; omega) [] 42 3 ⟨fun i hi => (by cases hi), Nat.le_refl _⟩ (by omega) (by omega)
  rw [List.append_nil] at hval
  have hpr := fun σ => hpr v (printable_of hn hw) σ
  rw [hpt] at hpr ⊢
  have h0 : (ptext v false != []) = true := by simpa using hne
  have h0' : (!(ptext v false == [])) = true := by simpa using hne
  have hS : SRd [] (ptext v false) 42 3 = { objs := [(2, [⟨false, .str (ptext v false)⟩, ⟨false, .int .i64 42⟩]), (1, [⟨false, .int .i64 0⟩]), (0, [⟨false, .int .i64 0⟩, ⟨false, .int .i64 0⟩, ⟨false, .str []⟩, ⟨false, .nils⟩])], tys := [(2, 61), (1, 31), (0, 25)], iters := [], next := 3 } := rfl
  have hS2 : SRd [] [] 42 nx' = { objs := [(2, [⟨false, .str []⟩, ⟨false, .int .i64 42⟩]), (1, [⟨false, .int .i64 0⟩]), (0, [⟨false, .int .i64 0⟩, ⟨false, .int .i64 0⟩, ⟨false, .str []⟩, ⟨false, .nils⟩])], tys := [(2, 61), (1, 31), (0, 25)], iters := [], next := nx' } := rfl
  rw [hS, hS2] at hval
  refine ⟨nx', ?_⟩
  rw [TR_fun (af := a15) rfl rfl]
  have hva : dV v = .agg [.int .i64 v.form, .int .i64 v.n, .str v.name, dlist kV (v.kids.map dV)] := dV_eq v
  rw [hva] at hval hpr ⊢
  generalize ptext v false = s at *
  simp only [a15, σ0, sy0, sy1, sy2, sy3, sy4, sy5, clearEnv, adel, mem, initEnv, initSlots, stepOp, wantedA, evalOp, callOf, panicOf, evalV, addr, opd, opds, aget, aset, adel1, lkill, readCells, nth, Env.put, Env.putV, Env.box, Env.bare, dropOwn, dropOwnS, binD, binBD, binBool, binInt, binStr, unD, AOpd.drop, Cell.of, AOp.kind, sameKind, assertD, eqlB, isUndef, takeC, unownAt, fits, layCells, putCells, putD, fillD, partsOf, optLo, optHi, allSize, Option.getD_some, Option.getD_none, runDefers, readRes, readRes1, readRess, Nat.reduceAdd, Nat.reduceSub, Nat.reduceMul, Nat.reduceBEq, Bool.false_and, Bool.true_and, Bool.and_true, Bool.and_false, Nat.zero_add, Nat.add_zero, beq_self_eq_true, Bool.true_beq, Bool.false_beq, Bool.not_true, Bool.not_false, decide_true, decide_false, bindO, List.map_cons, List.map_nil, List.length_cons, List.length_nil, List.append_nil, List.nil_append, List.cons_append, List.isEmpty_nil, List.isEmpty_cons, Nat.reduceLeDiff, Int.reduceBEq, Int.reduceNeg, Nat.le_refl, hval, hpr, hmust, h0', Rl_34_none]
  rfl
/-- A value that is told, and is read again. -/
def Readable (v : V) : Prop := Nums v ∧ wt v < 1000000 ∧ told v 40 = true
theorem read_ok (v : V) (h : Readable v) (σ : Store) : CallOK Tryd.prog κ 15 [.str (pprint v)] σ (.ret ⟨false, .tup [dV v, .int .i64 0]⟩) σ := by
  obtain ⟨n, hn⟩ := read_run v h.1 h.2.1 h.2.2
  obtain ⟨nx, hn⟩ := hn n (Nat.le_refl _)
  exact frame_rule (TR_sound n 15 _ σ0 _ _ hn) rfl (by simp only [Out.clean, noPtr, noPtrL, noPtr_dV v (fit_wt v h.2.1), Bool.and_self]) σ
/-- Two that are told are one, if their prints are. -/
theorem print_inj (v w : V) (hv : Readable v) (hw : Readable w) (h : pprint v = pprint w) : v = w := by
  obtain ⟨a, ha⟩ := read_run v hv.1 hv.2.1 hv.2.2
  obtain ⟨b, hb⟩ := read_run w hw.1 hw.2.1 hw.2.2
  obtain ⟨x, hx⟩ := ha (max a b) (by omega)
  obtain ⟨y, hy⟩ := hb (max a b) (by omega)
  rw [h, hy] at hx
  simp only [Option.some.injEq, Prod.mk.injEq, Out.ret.injEq, Cell.mk.injEq, D.tup.injEq, List.cons.injEq, true_and, and_true] at hx
  exact (dV_inj w (fit_wt w hw.2.1) v hx.1).symm
end Go.Proofs.YtdoppkjoemlhjaaDoor.Sh

