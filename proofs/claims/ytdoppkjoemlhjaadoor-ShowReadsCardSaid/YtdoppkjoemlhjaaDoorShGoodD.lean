/-
  strings.IndexAny with a blank and a closing bracket, served at every text.
-/
import Derived.Test.YtdoppkjoemlhjaaDoorShIdx
import Derived.Test.YtdoppkjoemlhjaaDoorShRun0
set_option linter.unusedSimpArgs false
set_option linter.unusedVariables false
set_option maxRecDepth 100000
namespace Go.Proofs.YtdoppkjoemlhjaaDoor.Sh
open Go Go.Mx
theorem anyAt_lt (c : List UInt8) : ∀ (l : List UInt8) (i j : Nat), anyAt l c i = some j → j < i + l.length
  | [], i, j, h => by cases h
  | b :: l, i, j, h => by
    rw [anyAt] at h
    cases hm : mem8 c b with
    | true =>
      rw [hm, ifB_true] at h
      cases h
      simp
    | false =>
      rw [hm, ifB_false] at h
      have := anyAt_lt c l (i + 1) j h
      simp only [List.length_cons]
      omega
def idxD (o : Option Nat) : D := match o with
  | some i => .int .i64 i
  | none => .int .i64 (-1)
def AnyOK (s : List UInt8) (i : Int) : Prop := -1 ≤ i ∧ i < (s.length : Int) ∧ ∀ σ, CallOK Tryd.prog κ 64 [.str s, .str [32, 41]] σ (.ret ⟨false, .int .i64 i⟩) σ
open Classical in
noncomputable def xAny2 (s c : List UInt8) : Option D := if c = [32, 41] ∧ s.length < 4294967281 then (if ascii s = true ∨ 8 < s.length then some (idxD (anyAt s c 0)) else if h : ∃ i, AnyOK s i then some (.int .i64 (Classical.choose h)) else none) else none
noncomputable def xAny : List D → Option D
  | [.str s, .str c] => xAny2 s c
  | _ => none
theorem xAny_ascii {s : List UInt8} (h : ascii s = true) (hs : s.length < 4294967281) : xAny [.str s, .str [32, 41]] = some (idxD (anyAt s [32, 41] 0)) := by
  show xAny2 s [32, 41] = _
  unfold xAny2
  rw [if_pos ⟨rfl, hs⟩, if_pos (.inl h)]
theorem xAny_some (s : List UInt8) (hs : s.length < 4294967281) : ∃ i : Int, -1 ≤ i ∧ i < (s.length : Int) ∧ xAny [.str s, .str [32, 41]] = some (.int .i64 i) := by
  show ∃ i : Int, -1 ≤ i ∧ i < (s.length : Int) ∧ xAny2 s [32, 41] = some (.int .i64 i)
  unfold xAny2
  rw [if_pos ⟨rfl, hs⟩]
  by_cases h : ascii s = true ∨ 8 < s.length
  · rw [if_pos h]
    cases ha : anyAt s [32, 41] 0 with
    | none => exact ⟨-1, by omega, by omega, rfl⟩
    | some i =>
      have := anyAt_lt _ _ _ _ ha
      exact ⟨i, by omega, by omega, rfl⟩
  · rw [if_neg h]
    have hx : ∃ i, AnyOK s i := any_ok s (by have := fun h8 => h (.inr h8); omega)
    rw [dif_pos hx]
    exact ⟨_, (Classical.choose_spec hx).1, (Classical.choose_spec hx).2.1, rfl⟩
theorem xAny_ok {ds : List D} {d : D} (h : xAny ds = some d) (σ : Store) : CallOK Tryd.prog κ 64 ds σ (.ret ⟨false, d⟩) σ := by
  unfold xAny at h
  split at h
  · rename_i s c
    unfold xAny2 at h
    split at h
    · rename_i hc
      obtain ⟨rfl, hs⟩ := hc
      split at h
      · rename_i hor
        have h2 : ascii ([32, 41] : List UInt8) = true := rfl
        by_cases h8 : 8 < s.length
        · cases h
          refine pure_call ⟨_, _, Tryd.func64, by kernel_rfl, rfl⟩ (fun ι j own w vs hB hG hr => ?_)
          obtain ⟨v, v', rfl, hv, hv'⟩ := repL2 hr
          simp only [Rep] at hv hv'
          subst hv
          subst hv'
          have h116 : (Tryd.prog.info? 102).map (fun i => (i.zero, i.size)) = some (some (.agg (Array.replicate 256 (.bool false))), 256) := by kernel_rfl
          refine (Tryd.strings_IndexAny_long (zero_of_info h116).1 ⟨⟨s⟩⟩ ⟨⟨[32, 41]⟩⟩ w (Nat.le_refl _) h8 hs (by decide) (ascii_at h2)).mono ?_
          rintro e w' ⟨rfl, rfl⟩
          refine ⟨_, rfl, ((RowKit.Below.refl _ _).alloc (Nat.le_refl _) _).alloc (by simp) _, ?_⟩
          have hge := Lib.indexAny_ge [32, 41] s
          rw [anyAt_eq [32, 41] s 0]
          by_cases hn : Lib.indexAny s [32, 41] = -1
          · simp [hn, Rep, idxD]
          · rw [if_neg hn]
            simp only [Rep, idxD]
            congr 1
            omega
        · have ha : ascii s = true := hor.resolve_right h8
          have := xIndexAny_ok (ds := [.str s, .str [32, 41]]) (d := idxD (anyAt s [32, 41] 0)) (by
            have h3 : decide (s.length < 4294967281) = true := decide_eq_true hs
            have h5 : decide (([32, 41] : List UInt8).length < 4294967281) = true := rfl
            simp only [xIndexAny, ha, h2, h3, h5, Bool.and_self, ifB_true]
            rfl) σ
          cases h
          exact this
      · split at h
        · rename_i hx
          cases h
          exact (Classical.choose_spec hx).2.2 σ
        · cases h
    · cases h
  · cases h
end Go.Proofs.YtdoppkjoemlhjaaDoor.Sh

/-
  The reader of prints: what stands ahead, words.
-/
namespace Go.Proofs.YtdoppkjoemlhjaaDoor.Sh
open Go Go.Mx
noncomputable def XR : CallF := fun f ds σ => match f with
  | 57 => bindO (xAtoi ds) fun d => some (.ret ⟨false, d⟩, σ)
  | 64 => bindO (xAny ds) fun d => some (.ret ⟨false, d⟩, σ)
  | f => Xq f ds σ
theorem XR_sound : CSound Tryd.prog κ XR := by
  intro f ds σ out σ' h
  unfold XR at h
  split at h
  · obtain ⟨d, h1, h2⟩ := bindO_some h
    cases h2
    exact xAtoi_ok h1 σ
  · obtain ⟨d, h1, h2⟩ := bindO_some h
    cases h2
    exact xAny_ok h1 σ
  · exact Xq_sound _ _ _ _ _ h
def Γr : FuncId → Option AFun := fun f => ifB (f == 57 || f == 24 || f == 12) none (Γl f)
theorem Γr_holds : Holds Tryd.prog Γr := by
  intro f af h
  unfold Γr at h
  cases hf : (f == 57 || f == 24 || f == 12) with
  | true => rw [hf] at h; cases h
  | false => rw [hf] at h; exact Γl_holds f af h
noncomputable def TR (n : Nat) : CallF := runQ Γr Rl XR n false
noncomputable def TRD (n : Nat) : CallF := runQ Γr Rl XR n true
theorem TR_sound (n : Nat) : CSound Tryd.prog κ (TR n) := (run_sound Γr_holds Rl_sound XR_sound n).1
theorem TR_fun {n : Nat} {f : FuncId} {af : AFun} {ds : List D} {σ : Store} (h : Γr f = some af) (hl : ds.length = af.nargs) : TR (n + 1) f ds σ = finX Rl (TRD n) af σ.next (exec (TR n) n af.body (initEnv ds) σ) := runQ_fun h hl
theorem TR_lib {n : Nat} {f : FuncId} {ds : List D} {σ : Store} (h : Γr f = none) : TR (n + 1) f ds σ = XR f ds σ := runQ_lib h
theorem slice_str_to {s : List UInt8} {hi : Nat} (h : hi ≤ s.length) : sliceStr s 0 (some hi) = some (.str (s.take hi)) := by
  simp only [sliceStr, Option.getD_some, decide_eq_true (Nat.zero_le hi), decide_eq_true h, Bool.and_self, ifB_true, List.drop_zero, Nat.sub_zero]
theorem slice_str_from {s : List UInt8} {lo : Nat} (h : lo ≤ s.length) : sliceStr s lo none = some (.str (s.drop lo)) := by
  simp only [sliceStr, Option.getD_none, decide_eq_true h, decide_eq_true (Nat.le_refl s.length), Bool.and_self, ifB_true]
  rw [List.take_of_length_le (by simp)]
set_option maxRecDepth 10000
/-- What stands behind a byte, if it stands ahead. -/
def cutB (b : UInt8) : List UInt8 → List UInt8 × Bool
  | [] => ([], false)
  | c :: r => ifB (c == b) (r, true) (c :: r, false)
theorem cutB_cons (b c : UInt8) (r : List UInt8) : cutB b (c :: r) = ifB (c == b) (r, true) (c :: r, false) := rfl
theorem hasp_run : Evly fun n => ∀ (b : UInt8) l σ, TR n 67 [.str l, .str [b]] σ = some (.ret ⟨false, .bool (cutB b l).2⟩, σ) := (Evly.all (p := fun _ => True) fun _ => trivial).step 0 fun m _ _ b l σ => by
  rw [TR_fun (af := a67) rfl rfl]
  cases l with
  | nil =>
    have h : ¬ ((((0 : Nat) : Int)) ≥ (((1 : Nat) : Int))) := by omega
    simp only [a67, sy0, sy1, sy2, sy3, sy4, sy5, clearEnv, adel, mem, initEnv, initSlots, stepOp, wantedA, evalOp, callOf, panicOf, evalV, addr, opd, opds, aget, aset, adel1, lkill, readCells, nth, Env.put, Env.putV, Env.box, Env.bare, dropOwn, dropOwnS, binD, binBD, binBool, binInt, binStr, unD, AOpd.drop, Cell.of, AOp.kind, sameKind, assertD, eqlB, isUndef, takeC, unownAt, fits, layCells, putCells, putD, fillD, partsOf, optLo, optHi, allSize, Option.getD_some, Option.getD_none, runDefers, readRes, readRes1, readRess, Nat.reduceAdd, Nat.reduceSub, Nat.reduceMul, Nat.reduceBEq, Bool.false_and, Bool.true_and, Bool.and_true, Bool.and_false, Nat.zero_add, Nat.add_zero, beq_self_eq_true, Bool.true_beq, Bool.false_beq, Bool.not_true, Bool.not_false, decide_true, decide_false, bindO, List.map_cons, List.map_nil, List.length_cons, List.length_nil, List.append_nil, List.nil_append, List.cons_append, List.isEmpty_nil, List.isEmpty_cons, Nat.reduceLeDiff, Int.reduceBEq, Int.reduceNeg, Nat.le_refl, h, cutB]
  | cons c r =>
    have h : ((((c :: r).length : Nat) : Int)) ≥ (((1 : Nat) : Int)) := by simp only [List.length_cons]; omega
    have hs := slice_str_to (s := c :: r) (hi := 1) (by simp)
    have ht : (c :: r).take 1 = [c] := rfl
    rw [ht] at hs
    have he : (([c] : List UInt8) == [b]) = (c == b) := by
      simp
    have hb : (cutB b (c :: r)).2 = (c == b) := by
      rw [cutB_cons]
      cases c == b <;> rfl
    rw [hb]
    generalize c :: r = l at *
    simp only [a67, sy0, sy1, sy2, sy3, sy4, sy5, clearEnv, adel, mem, initEnv, initSlots, stepOp, wantedA, evalOp, callOf, panicOf, evalV, addr, opd, opds, aget, aset, adel1, lkill, readCells, nth, Env.put, Env.putV, Env.box, Env.bare, dropOwn, dropOwnS, binD, binBD, binBool, binInt, binStr, unD, AOpd.drop, Cell.of, AOp.kind, sameKind, assertD, eqlB, isUndef, takeC, unownAt, fits, layCells, putCells, putD, fillD, partsOf, optLo, optHi, allSize, Option.getD_some, Option.getD_none, runDefers, readRes, readRes1, readRess, Nat.reduceAdd, Nat.reduceSub, Nat.reduceMul, Nat.reduceBEq, Bool.false_and, Bool.true_and, Bool.and_true, Bool.and_false, Nat.zero_add, Nat.add_zero, beq_self_eq_true, Bool.true_beq, Bool.false_beq, Bool.not_true, Bool.not_false, decide_true, decide_false, bindO, List.map_cons, List.map_nil, List.length_cons, List.length_nil, List.append_nil, List.nil_append, List.cons_append, List.isEmpty_nil, List.isEmpty_cons, Nat.reduceLeDiff, Int.reduceBEq, Int.reduceNeg, Nat.le_refl, h, hs, he]
theorem cuts58_run : Evly fun n => ∀ (b : UInt8) l σ, TR n 58 [.str l, .str [b]] σ = some (.ret ⟨false, .tup [.str (cutB b l).1, .bool (cutB b l).2]⟩, σ) := hasp_run.step 0 fun m _ hp b l σ => by
  have hp := hp b l σ
  rw [TR_fun (af := a58) rfl rfl]
  cases l with
  | nil =>
    simp only [cutB] at hp ⊢
    simp only [a58, sy0, sy1, sy2, sy3, sy4, sy5, clearEnv, adel, mem, initEnv, initSlots, stepOp, wantedA, evalOp, callOf, panicOf, evalV, addr, opd, opds, aget, aset, adel1, lkill, readCells, nth, Env.put, Env.putV, Env.box, Env.bare, dropOwn, dropOwnS, binD, binBD, binBool, binInt, binStr, unD, AOpd.drop, Cell.of, AOp.kind, sameKind, assertD, eqlB, isUndef, takeC, unownAt, fits, layCells, putCells, putD, fillD, partsOf, optLo, optHi, allSize, Option.getD_some, Option.getD_none, runDefers, readRes, readRes1, readRess, Nat.reduceAdd, Nat.reduceSub, Nat.reduceMul, Nat.reduceBEq, Bool.false_and, Bool.true_and, Bool.and_true, Bool.and_false, Nat.zero_add, Nat.add_zero, beq_self_eq_true, Bool.true_beq, Bool.false_beq, Bool.not_true, Bool.not_false, decide_true, decide_false, bindO, List.map_cons, List.map_nil, List.length_cons, List.length_nil, List.append_nil, List.nil_append, List.cons_append, List.isEmpty_nil, List.isEmpty_cons, Nat.reduceLeDiff, Int.reduceBEq, Int.reduceNeg, Nat.le_refl, hp]
  | cons c r =>
    have hs := slice_str_from (s := c :: r) (lo := 1) (by simp)
    have ht : (c :: r).drop 1 = r := rfl
    rw [ht] at hs
    rw [cutB_cons] at hp ⊢
    cases hc : c == b with
    | true =>
      rw [hc] at hp
      simp only [ifB_true] at hp ⊢
      generalize c :: r = l at *
      simp only [a58, sy0, sy1, sy2, sy3, sy4, sy5, clearEnv, adel, mem, initEnv, initSlots, stepOp, wantedA, evalOp, callOf, panicOf, evalV, addr, opd, opds, aget, aset, adel1, lkill, readCells, nth, Env.put, Env.putV, Env.box, Env.bare, dropOwn, dropOwnS, binD, binBD, binBool, binInt, binStr, unD, AOpd.drop, Cell.of, AOp.kind, sameKind, assertD, eqlB, isUndef, takeC, unownAt, fits, layCells, putCells, putD, fillD, partsOf, optLo, optHi, allSize, Option.getD_some, Option.getD_none, runDefers, readRes, readRes1, readRess, Nat.reduceAdd, Nat.reduceSub, Nat.reduceMul, Nat.reduceBEq, Bool.false_and, Bool.true_and, Bool.and_true, Bool.and_false, Nat.zero_add, Nat.add_zero, beq_self_eq_true, Bool.true_beq, Bool.false_beq, Bool.not_true, Bool.not_false, decide_true, decide_false, bindO, List.map_cons, List.map_nil, List.length_cons, List.length_nil, List.append_nil, List.nil_append, List.cons_append, List.isEmpty_nil, List.isEmpty_cons, Nat.reduceLeDiff, Int.reduceBEq, Int.reduceNeg, Nat.le_refl, hp, hs]
    | false =>
      rw [hc] at hp
      simp only [ifB_false] at hp ⊢
      generalize c :: r = l at *
      simp only [a58, sy0, sy1, sy2, sy3, sy4, sy5, clearEnv, adel, mem, initEnv, initSlots, stepOp, wantedA, evalOp, callOf, panicOf, evalV, addr, opd, opds, aget, aset, adel1, lkill, readCells, nth, Env.put, Env.putV, Env.box, Env.bare, dropOwn, dropOwnS, binD, binBD, binBool, binInt, binStr, unD, AOpd.drop, Cell.of, AOp.kind, sameKind, assertD, eqlB, isUndef, takeC, unownAt, fits, layCells, putCells, putD, fillD, partsOf, optLo, optHi, allSize, Option.getD_some, Option.getD_none, runDefers, readRes, readRes1, readRess, Nat.reduceAdd, Nat.reduceSub, Nat.reduceMul, Nat.reduceBEq, Bool.false_and, Bool.true_and, Bool.and_true, Bool.and_false, Nat.zero_add, Nat.add_zero, beq_self_eq_true, Bool.true_beq, Bool.false_beq, Bool.not_true, Bool.not_false, decide_true, decide_false, bindO, List.map_cons, List.map_nil, List.length_cons, List.length_nil, List.append_nil, List.nil_append, List.cons_append, List.isEmpty_nil, List.isEmpty_cons, Nat.reduceLeDiff, Int.reduceBEq, Int.reduceNeg, Nat.le_refl, hp]
theorem cut_str_run : Evly fun n => ∀ (b : UInt8) l σ, TR n 48 [.str l, .str [b]] σ = some (.ret ⟨false, .tup [.str (cutB b l).1, .bool (cutB b l).2]⟩, σ) := cuts58_run.step 0 fun m _ hp b l σ => by
  have hp := hp b l σ
  rw [TR_fun (af := a48) rfl rfl]
  simp only [a48, sy0, sy1, sy2, sy3, sy4, sy5, clearEnv, adel, mem, initEnv, initSlots, stepOp, wantedA, evalOp, callOf, panicOf, evalV, addr, opd, opds, aget, aset, adel1, lkill, readCells, nth, Env.put, Env.putV, Env.box, Env.bare, dropOwn, dropOwnS, binD, binBD, binBool, binInt, binStr, unD, AOpd.drop, Cell.of, AOp.kind, sameKind, assertD, eqlB, isUndef, takeC, unownAt, fits, layCells, putCells, putD, fillD, partsOf, optLo, optHi, allSize, Option.getD_some, Option.getD_none, runDefers, readRes, readRes1, readRess, Nat.reduceAdd, Nat.reduceSub, Nat.reduceMul, Nat.reduceBEq, Bool.false_and, Bool.true_and, Bool.and_true, Bool.and_false, Nat.zero_add, Nat.add_zero, beq_self_eq_true, Bool.true_beq, Bool.false_beq, Bool.not_true, Bool.not_false, decide_true, decide_false, bindO, List.map_cons, List.map_nil, List.length_cons, List.length_nil, List.append_nil, List.nil_append, List.cons_append, List.isEmpty_nil, List.isEmpty_cons, Nat.reduceLeDiff, Int.reduceBEq, Int.reduceNeg, Nat.le_refl, hp]
/-! the reader's store -/
def tops (ts : List Nat) : List (Nat × List Cell) := ts.map fun i => (i, [⟨false, .ptr 2 0⟩])
def zeroV : List Cell := [⟨false, .int .i64 0⟩, ⟨false, .int .i64 0⟩, ⟨false, .str []⟩, ⟨false, .nils⟩]
def SRd (ts : List Nat) (l : List UInt8) (d : Int) (nx : Nat) : Store := { objs := tops ts ++ [(2, [⟨false, .str l⟩, ⟨false, .int .i64 d⟩]), (1, [⟨false, .int .i64 0⟩]), (0, zeroV)], tys := ts.map (fun i => (i, 59)) ++ [(2, 61), (1, 31), (0, 25)], iters := [], next := nx }
structure Tops (ts : List Nat) (nx : Nat) : Prop where
  ge : ∀ i ∈ ts, 3 ≤ i ∧ i < nx
  nx3 : 3 ≤ nx
theorem Tops.mono {ts : List Nat} {nx nx' : Nat} (h : Tops ts nx) (hn : nx ≤ nx') : Tops ts nx' := ⟨fun i hi => ⟨(h.ge i hi).1, by have := (h.ge i hi).2; omega⟩, by have := h.nx3; omega⟩
theorem Tops.push {ts : List Nat} {nx : Nat} (h : Tops ts nx) : Tops (nx :: ts) (nx + 1) := ⟨fun i hi => by
  rcases List.mem_cons.1 hi with e | hi
  · have := h.nx3; omega
  · have := h.ge i hi; omega, by have := h.nx3; omega⟩
theorem aget_tops {ts : List Nat} {r : List (Nat × List Cell)} (h : ∀ i ∈ ts, 3 ≤ i) : aget (tops ts ++ r) 2 = aget r 2 := by
  induction ts with
  | nil => rfl
  | cons i ts ih =>
    have h3 := h i (List.mem_cons_self ..)
    have hb : (i == 2) = false := by simp; omega
    simp only [tops, List.map_cons, List.cons_append, aget, hb, ifB_false]
    exact ih fun j hj => h j (List.mem_cons_of_mem _ hj)
theorem aset_tops {ts : List Nat} {r : List (Nat × List Cell)} {cs : List Cell} (h : ∀ i ∈ ts, 3 ≤ i) : aset (tops ts ++ r) 2 cs = tops ts ++ aset r 2 cs := by
  induction ts with
  | nil => rfl
  | cons i ts ih =>
    have h3 := h i (List.mem_cons_self ..)
    have hb : (i == 2) = false := by simp; omega
    simp only [tops, List.map_cons, List.cons_append, aset, hb, ifB_false]
    congr 1
    exact ih fun j hj => h j (List.mem_cons_of_mem _ hj)
section
variable {ts : List Nat} {l l' : List UInt8} {d d' : Int} {nx nx' : Nat}
theorem SRd_next : (SRd ts l d nx).next = nx := rfl
theorem SRd_get (h : Tops ts nx') : aget (SRd ts l d nx).objs 2 = some [⟨false, .str l⟩, ⟨false, .int .i64 d⟩] := by
  unfold SRd
  rw [aget_tops fun i hi => (h.ge i hi).1]
  rfl
theorem SRd_set (h : Tops ts nx') : ({ objs := aset (SRd ts l d nx).objs 2 [⟨false, .str l'⟩, ⟨false, .int .i64 d'⟩], tys := (SRd ts l d nx).tys, iters := (SRd ts l d nx).iters, next := nx } : Store) = SRd ts l' d' nx := by
  unfold SRd
  rw [aset_tops fun i hi => (h.ge i hi).1]
  rfl
theorem SRd_push : ({ objs := (nx, [⟨false, .ptr 2 0⟩]) :: (SRd ts l d nx).objs, tys := (nx, 59) :: (SRd ts l d nx).tys, iters := (SRd ts l d nx).iters, next := nx + 1 } : Store) = SRd (nx :: ts) l d (nx + 1) := rfl
theorem SRd_top : aget (SRd (nx :: ts) l d nx').objs nx = some [⟨false, .ptr 2 0⟩] := by
  simp [SRd, tops, aget, ifB_true]
theorem SRd_trunc (h : Tops ts nx) : (SRd (nx :: ts) l d nx').trunc nx = SRd ts l d nx' := by
  have h3 := h.nx3
  have e1 : ∀ (p : List (Nat × List Cell)), (tops ts ++ p).filter (fun q => decide (q.1 < nx)) = tops ts ++ p.filter (fun q => decide (q.1 < nx)) := fun p => by
    rw [List.filter_append]
    congr 1
    rw [List.filter_eq_self]
    intro q hq
    obtain ⟨i, hi, rfl⟩ := List.mem_map.1 hq
    have := (h.ge i hi).2
    simpa using this
  have e2 : ∀ (p : List (Nat × Nat)), (ts.map (fun i => (i, 59)) ++ p).filter (fun q => decide (q.1 < nx)) = ts.map (fun i => (i, 59)) ++ p.filter (fun q => decide (q.1 < nx)) := fun p => by
    rw [List.filter_append]
    congr 1
    rw [List.filter_eq_self]
    intro q hq
    obtain ⟨i, hi, rfl⟩ := List.mem_map.1 hq
    have := (h.ge i hi).2
    simpa using this
  have hz : decide (nx < nx) = false := by simp
  have h2 : decide (2 < nx) = true := by simp; omega
  have h1 : decide (1 < nx) = true := by simp; omega
  have h0 : decide (0 < nx) = true := by simp; omega
  unfold SRd Store.trunc
  simp only [tops, List.map_cons, List.cons_append, List.filter_cons, hz, Bool.false_eq_true, if_false]
  rw [show (List.map (fun i => (i, [({ own := false, d := D.ptr 2 0 } : Cell)])) ts) = tops ts from rfl, e1, e2]
  simp only [List.filter_cons, h2, h1, h0, if_true, List.filter_nil]
end
end Go.Proofs.YtdoppkjoemlhjaaDoor.Sh

/-
  The reader of prints: a word.
-/
namespace Go.Proofs.YtdoppkjoemlhjaaDoor.Sh
open Go Go.Mx
set_option maxRecDepth 10000
theorem must_run : Evly fun n => ∀ σ, TR n 36 [.bool true] σ = some (.ret ⟨false, .tup []⟩, σ) := (Evly.all (p := fun _ => True) fun _ => trivial).step 0 fun m _ _ σ => by
  rw [TR_fun (af := a36) rfl rfl]
  simp only [a36, sy0, sy1, sy2, sy3, sy4, sy5, clearEnv, adel, mem, initEnv, initSlots, stepOp, wantedA, evalOp, callOf, panicOf, evalV, addr, opd, opds, aget, aset, adel1, lkill, readCells, nth, Env.put, Env.putV, Env.box, Env.bare, dropOwn, dropOwnS, binD, binBD, binBool, binInt, binStr, unD, AOpd.drop, Cell.of, AOp.kind, sameKind, assertD, eqlB, isUndef, takeC, unownAt, fits, layCells, putCells, putD, fillD, partsOf, optLo, optHi, allSize, Option.getD_some, Option.getD_none, runDefers, readRes, readRes1, readRess, Nat.reduceAdd, Nat.reduceSub, Nat.reduceMul, Nat.reduceBEq, Bool.false_and, Bool.true_and, Bool.and_true, Bool.and_false, Nat.zero_add, Nat.add_zero, beq_self_eq_true, Bool.true_beq, Bool.false_beq, Bool.not_true, Bool.not_false, decide_true, decide_false, bindO, List.map_cons, List.map_nil, List.length_cons, List.length_nil, List.append_nil, List.nil_append, List.cons_append, List.isEmpty_nil, List.isEmpty_cons, Nat.reduceLeDiff, Int.reduceBEq, Int.reduceNeg, Nat.le_refl]
def NoStop (w : List UInt8) : Prop := ∀ b ∈ w, b ≠ 32 ∧ b ≠ 41
def Stop (r : List UInt8) : Prop := r = [] ∨ ∃ t, r = 32 :: t ∨ r = 41 :: t
theorem anyAt_app : ∀ (w r : List UInt8) (i : Nat), NoStop w → anyAt (w ++ r) [32, 41] i = anyAt r [32, 41] (i + w.length)
  | [], r, i, _ => by simp
  | b :: w, r, i, h => by
    obtain ⟨h1, h2⟩ := h b (List.mem_cons_self ..)
    have hm : mem8 [32, 41] b = false := by
      have e1 : ((32 : UInt8) == b) = false := by simpa using fun e => h1 (Eq.symm e)
      have e2 : ((41 : UInt8) == b) = false := by simpa using fun e => h2 (Eq.symm e)
      simp only [mem8, e1, e2, ifB_false]
    rw [List.cons_append, anyAt, hm, ifB_false, anyAt_app w r (i + 1) fun x hx => h x (List.mem_cons_of_mem _ hx)]
    congr 1
    simp only [List.length_cons]
    omega
theorem index_run : Evly fun n => ∀ l, ascii l = true → l.length < 1000000 → ∀ σ, TR n 64 [.str l, .str [32, 41]] σ = some (.ret ⟨false, match anyAt l [32, 41] 0 with | some i => .int .i64 i | none => .int .i64 (-1)⟩, σ) := (Evly.all (p := fun _ => True) fun _ => trivial).step 0 fun m _ _ l h1 h2 σ => by
  rw [TR_lib rfl]
  show bindO (xAny [.str l, .str [32, 41]]) _ = _
  rw [xAny_ascii h1 (by omega)]
  rfl
theorem word_run : Evly fun n => ∀ w r, NoStop w → Stop r → ascii (w ++ r) = true → (w ++ r).length < 1000000 → ∀ ts d nx nx', Tops ts nx' → TR n 56 [.ptr 2 0] (SRd ts (w ++ r) d nx) = some (.ret ⟨false, .str w⟩, SRd ts r d nx) := by
  refine index_run.step 0 fun m _ hx w r hw hr ha hl ts d nx nx' ht => ?_
  have hx := hx (w ++ r) ha hl (SRd ts (w ++ r) d nx)
  rw [anyAt_app w r 0 hw] at hx
  have hs1 : sliceStr (w ++ r) 0 (some w.length) = some (.str w) := by
    rw [slice_str_to (by simp)]
    simp
  have hs2 : sliceStr (w ++ r) w.length none = some (.str r) := by
    rw [slice_str_from (by simp)]
    simp
  have g : ∀ l, aget (SRd ts l d nx).objs 2 = some [⟨false, .str l⟩, ⟨false, .int .i64 d⟩] := fun l => SRd_get ht
  have u : ∀ l l', ({ objs := aset (SRd ts l d nx).objs 2 [⟨false, .str l'⟩, ⟨false, .int .i64 d⟩], tys := (SRd ts l d nx).tys, iters := (SRd ts l d nx).iters, next := nx } : Store) = SRd ts l' d nx := fun l l' => SRd_set ht
  rw [TR_fun (af := a56) rfl rfl]
  rcases hr with rfl | ⟨t, hr⟩
  · have hm : ((-1 : Int) < 0) := by omega
    rw [List.append_nil] at *
    simp only [anyAt] at hx
    simp only [a56, sy0, sy1, sy2, sy3, sy4, sy5, clearEnv, adel, mem, initEnv, initSlots, stepOp, wantedA, evalOp, callOf, panicOf, evalV, addr, opd, opds, aget, aset, adel1, lkill, readCells, nth, Env.put, Env.putV, Env.box, Env.bare, dropOwn, dropOwnS, binD, binBD, binBool, binInt, binStr, unD, AOpd.drop, Cell.of, AOp.kind, sameKind, assertD, eqlB, isUndef, takeC, unownAt, fits, layCells, putCells, putD, fillD, partsOf, optLo, optHi, allSize, Option.getD_some, Option.getD_none, runDefers, readRes, readRes1, readRess, Nat.reduceAdd, Nat.reduceSub, Nat.reduceMul, Nat.reduceBEq, Bool.false_and, Bool.true_and, Bool.and_true, Bool.and_false, Nat.zero_add, Nat.add_zero, beq_self_eq_true, Bool.true_beq, Bool.false_beq, Bool.not_true, Bool.not_false, decide_true, decide_false, bindO, List.map_cons, List.map_nil, List.length_cons, List.length_nil, List.append_nil, List.nil_append, List.cons_append, List.isEmpty_nil, List.isEmpty_cons, Nat.reduceLeDiff, Int.reduceBEq, Int.reduceNeg, Nat.le_refl, hx, hm, g, u, SRd_next, hs1, hs2]
  · have hany : anyAt r [32, 41] (0 + w.length) = some w.length := by
      rcases hr with rfl | rfl <;> simp [anyAt, mem8, ifB_true, ifB_false]
    rw [hany] at hx
    have hm : ¬ ((w.length : Int) < 0) := by omega
    generalize w ++ r = l at *
    simp only [a56, sy0, sy1, sy2, sy3, sy4, sy5, clearEnv, adel, mem, initEnv, initSlots, stepOp, wantedA, evalOp, callOf, panicOf, evalV, addr, opd, opds, aget, aset, adel1, lkill, readCells, nth, Env.put, Env.putV, Env.box, Env.bare, dropOwn, dropOwnS, binD, binBD, binBool, binInt, binStr, unD, AOpd.drop, Cell.of, AOp.kind, sameKind, assertD, eqlB, isUndef, takeC, unownAt, fits, layCells, putCells, putD, fillD, partsOf, optLo, optHi, allSize, Option.getD_some, Option.getD_none, runDefers, readRes, readRes1, readRess, Nat.reduceAdd, Nat.reduceSub, Nat.reduceMul, Nat.reduceBEq, Bool.false_and, Bool.true_and, Bool.and_true, Bool.and_false, Nat.zero_add, Nat.add_zero, beq_self_eq_true, Bool.true_beq, Bool.false_beq, Bool.not_true, Bool.not_false, decide_true, decide_false, bindO, List.map_cons, List.map_nil, List.length_cons, List.length_nil, List.append_nil, List.nil_append, List.cons_append, List.isEmpty_nil, List.isEmpty_cons, Nat.reduceLeDiff, Int.reduceBEq, Int.reduceNeg, Nat.le_refl, hx, hm, g, u, SRd_next, hs1, hs2]
theorem rupperT_run : Evly fun n => ∀ s σ, TR n 24 [.str s] σ = some (.ret ⟨false, .bool (upperB s)⟩, σ) := (Evly.all (p := fun _ => True) fun _ => trivial).step 0 fun n _ _ s σ => by rw [TR_lib rfl]; rfl
theorem atoiT_run : Evly fun n => ∀ x, Small' x → ∀ σ, TR n 57 [.str (itoaN x)] σ = some (.ret ⟨false, .tup [.int .i64 x, .niliface]⟩, σ) := (Evly.all (p := fun _ => True) fun _ => trivial).step 0 fun n _ _ x hx σ => by
  rw [TR_lib rfl]
  show bindO (xAtoi [.str (itoaN x)]) _ = _
  have h1 : decide ((itoaN x).length ≤ 281474976710656) = true := decide_eq_true (by have := itoaN_len x; omega)
  simp only [xAtoi, h1, ifB_true, atoi_itoa x hx, bindO, caseO_some]
/-! heads -/
theorem byteB_get' {s : List UInt8} {i : Nat} (h : i < s.length) : byteB s i = (okB s[i].toNat && (i != 0 || firstB s[i].toNat)) := by simp [byteB, h]
theorem digF_bytes : ∀ (k n : Nat) (acc : List UInt8), (∀ b ∈ acc, 48 ≤ b.toNat ∧ b.toNat ≤ 57) → ∀ b ∈ digF k n acc, 48 ≤ b.toNat ∧ b.toNat ≤ 57
  | 0, _, acc, h => by simpa [digF] using h
  | k + 1, n, acc, h => by
    rw [digF]
    have one : ∀ j, j < 10 → 48 ≤ (UInt8.ofNat (48 + j)).toNat ∧ (UInt8.ofNat (48 + j)).toNat ≤ 57 := fun j hj => by
      have e : (UInt8.ofNat (48 + j)).toNat = 48 + j := by
        rw [UInt8.toNat_ofNat']
        exact Nat.mod_eq_of_lt (by omega)
      omega
    by_cases h10 : n < 10
    · rw [decide_eq_true h10, ifB_true]
      intro b hb
      rcases List.mem_cons.1 hb with e | hb
      · rw [e]; exact one n h10
      · exact h b hb
    · rw [decide_eq_false h10, ifB_false]
      refine digF_bytes k _ _ fun b hb => ?_
      rcases List.mem_cons.1 hb with e | hb
      · rw [e]; exact one _ (by omega)
      · exact h b hb
theorem itoaN_bytes (n : Int) : ∀ b ∈ itoaN n, b.toNat = 45 ∨ (48 ≤ b.toNat ∧ b.toNat ≤ 57) := by
  intro b hb
  cases n with
  | ofNat m => exact .inr (digF_bytes 20 m [] (fun _ h => by cases h) b hb)
  | negSucc m =>
    rcases List.mem_cons.1 hb with e | hb
    · rw [e]; exact .inl rfl
    · exact .inr (digF_bytes 20 (m + 1) [] (fun _ h => by cases h) b hb)
/-- A word that may stand at a value's head. -/
structure Word (w : List UInt8) : Prop where
  ne : w ≠ []
  stop : NoStop w
  open_ : ∀ r, cutB 40 (w ++ r) = (w ++ r, false)
  asc : ascii w = true
theorem ascii_all {l : List UInt8} (h : ∀ b ∈ l, b.toNat < 128) : ascii l = true := by
  induction l with
  | nil => rfl
  | cons b l ih =>
    rw [ascii, decide_eq_true (h b (List.mem_cons_self ..)), ifB_true]
    exact ih fun x hx => h x (List.mem_cons_of_mem _ hx)
theorem word_of {w : List UInt8} (hne : w ≠ []) (h : ∀ b ∈ w, b.toNat < 128 ∧ b.toNat ≠ 32 ∧ b.toNat ≠ 41 ∧ b.toNat ≠ 40) : Word w := by
  refine ⟨hne, fun b hb => ?_, fun r => ?_, ascii_all fun b hb => (h b hb).1⟩
  · obtain ⟨_, h1, h2, _⟩ := h b hb
    exact ⟨fun e => h1 (by rw [e]; rfl), fun e => h2 (by rw [e]; rfl)⟩
  · cases w with
    | nil => exact absurd rfl hne
    | cons c w =>
      have hc := (h c (List.mem_cons_self ..)).2.2.2
      have e : (c == 40) = false := by simpa using fun e => hc (by rw [e]; rfl)
      rw [List.cons_append, cutB_cons, e, ifB_false]
theorem upper_bytes {s : List UInt8} (h : upperB s = true) : ∀ b ∈ s, okB b.toNat = true := by
  intro b hb
  unfold upperB at h
  simp only [Bool.and_eq_true] at h
  obtain ⟨i, hi, rfl⟩ := List.getElem_of_mem hb
  have := List.all_eq_true.1 h.2 i (List.mem_range.2 hi)
  rw [byteB_get' hi] at this
  simp only [Bool.and_eq_true] at this
  exact this.1
theorem upper_first {c : UInt8} {s : List UInt8} (h : upperB (c :: s) = true) : 65 ≤ c.toNat ∧ c.toNat ≤ 90 := by
  unfold upperB at h
  simp only [Bool.and_eq_true] at h
  have := List.all_eq_true.1 h.2 0 (List.mem_range.2 (by simp))
  rw [byteB_get' (by simp)] at this
  simp only [Bool.and_eq_true] at this
  have h2 := this.2
  simpa [firstB] using h2
/-- A value's head. -/
inductive Head : Int → Int → List UInt8 → Prop
  | num (n : Int) (h : Small' n) : Head 2 n []
  | fn : Head 3 0 []
  | more : Head 4 0 []
  | con (s : List UInt8) (h : upperB s = true) : Head 1 0 s
theorem head_word {f n : Int} {s : List UInt8} (h : Head f n s) : Word (phead f n s) := by
  cases h with
  | num _ h =>
    refine word_of (itoaN_ne n) fun b hb => ?_
    rcases itoaN_bytes n b hb with e | e <;> omega
  | fn => exact word_of (by simp [phead, ifB]) (by decide)
  | more => exact word_of (by simp [phead, ifB]) (by decide)
  | con _ h =>
    have e : phead 1 0 s = s := rfl
    rw [e]
    refine word_of (upperB_ne h) fun b hb => ?_
    have := upper_bytes h b hb
    unfold okB plainB at this
    simp at this
    omega
theorem not_upper_num (n : Int) : upperB (itoaN n) = false := by
  cases hc : itoaN n with
  | nil => exact absurd hc (itoaN_ne n)
  | cons c r =>
    cases hu : upperB (c :: r) with
    | false => rfl
    | true =>
      have h1 := upper_first hu
      have h2 := itoaN_bytes n c (by rw [hc]; exact List.mem_cons_self ..)
      omega
theorem ne_of_head {c : UInt8} {r : List UInt8} {k : UInt8} {t : List UInt8} (h : c ≠ k) : ((c :: r) == (k :: t)) = false := by
  have : (c :: r) ≠ (k :: t) := fun e => h (by injection e)
  simpa using this
theorem num_ne (n : Int) (k : UInt8) (t : List UInt8) (hk : k.toNat ≠ 45) (hk2 : k.toNat < 48 ∨ 57 < k.toNat) : (itoaN n == (k :: t)) = false := by
  cases hc : itoaN n with
  | nil => exact absurd hc (itoaN_ne n)
  | cons c r =>
    have h2 := itoaN_bytes n c (by rw [hc]; exact List.mem_cons_self ..)
    exact ne_of_head fun e => by rw [e] at h2; omega
theorem upper_ne (s : List UInt8) (h : upperB s = true) (k : UInt8) (t : List UInt8) (hk : k.toNat < 65) : (s == (k :: t)) = false := by
  cases s with
  | nil => exact absurd rfl (upperB_ne h)
  | cons c r =>
    have h2 := upper_first h
    exact ne_of_head fun e => by rw [e] at h2; omega
theorem leaf_run : Evly fun m => ∀ f n s, Head f n s → ∀ r, Stop r → ascii (phead f n s ++ r) = true → (phead f n s ++ r).length < 1000000 → ∀ ts d nx nx', Tops ts nx' →
    TR m 47 [.ptr 2 0] (SRd ts (phead f n s ++ r) d nx) = some (.ret ⟨false, dV (.mk f n s [])⟩, SRd ts r d nx) := by
  refine ((cut_str_run.and word_run).and ((rupperT_run.and atoiT_run).and must_run)).step 0 fun m _ ⟨⟨hcut, hword⟩, ⟨⟨hup, hat⟩, hmust⟩⟩ f n s hh r hr ha hl ts d nx nx' ht => ?_
  have hw := head_word hh
  have hcut := hcut 40 (phead f n s ++ r) (SRd ts (phead f n s ++ r) d nx)
  rw [hw.open_ r] at hcut
  simp only at hcut
  have hword := hword (phead f n s) r hw.stop hr ha hl ts d nx nx' ht
  have g : ∀ l, aget (SRd ts l d nx).objs 2 = some [⟨false, .str l⟩, ⟨false, .int .i64 d⟩] := fun l => SRd_get ht
  have hup := fun s => hup s (SRd ts r d nx)
  have hmust := hmust (SRd ts r d nx)
  have hva : ∀ f n s ks, dV (.mk f n s ks) = .agg [.int .i64 f, .int .i64 n, .str s, dlist kV (ks.map dV)] := fun f n s ks => dV_eq _
  rw [TR_fun (af := a47) rfl rfl, hva]
  cases hh with
  | num _ h =>
    have e : phead 2 n [] = itoaN n := rfl
    rw [e] at hcut hword ⊢
    have hat := hat n h (SRd ts r d nx)
    have hup := hup (itoaN n)
    rw [not_upper_num n] at hup
    have e1 := num_ne n 60 [102, 117, 110, 62] (by decide) (by decide)
    have e2 := num_ne n 46 [46, 46] (by decide) (by decide)
    generalize itoaN n ++ r = l at hcut hword ⊢
    generalize itoaN n = w at hword hat hup e1 e2 ⊢
    simp only [a47, sy0, sy1, sy2, sy3, sy4, sy5, clearEnv, adel, mem, initEnv, initSlots, stepOp, wantedA, evalOp, callOf, panicOf, evalV, addr, opd, opds, aget, aset, adel1, lkill, readCells, nth, Env.put, Env.putV, Env.box, Env.bare, dropOwn, dropOwnS, binD, binBD, binBool, binInt, binStr, unD, AOpd.drop, Cell.of, AOp.kind, sameKind, assertD, eqlB, isUndef, takeC, unownAt, fits, layCells, putCells, putD, fillD, partsOf, optLo, optHi, allSize, Option.getD_some, Option.getD_none, runDefers, readRes, readRes1, readRess, Nat.reduceAdd, Nat.reduceSub, Nat.reduceMul, Nat.reduceBEq, Bool.false_and, Bool.true_and, Bool.and_true, Bool.and_false, Nat.zero_add, Nat.add_zero, beq_self_eq_true, Bool.true_beq, Bool.false_beq, Bool.not_true, Bool.not_false, decide_true, decide_false, bindO, List.map_cons, List.map_nil, List.length_cons, List.length_nil, List.append_nil, List.nil_append, List.cons_append, List.isEmpty_nil, List.isEmpty_cons, Nat.reduceLeDiff, Int.reduceBEq, Int.reduceNeg, Nat.le_refl, g, hcut, hword, e1, e2, hup, hat, hmust]
  | fn =>
    have e : phead 3 0 [] = [60, 102, 117, 110, 62] := rfl
    rw [e] at hcut hword ⊢
    generalize [60, 102, 117, 110, 62] ++ r = l at hcut hword ⊢
    simp only [a47, sy0, sy1, sy2, sy3, sy4, sy5, clearEnv, adel, mem, initEnv, initSlots, stepOp, wantedA, evalOp, callOf, panicOf, evalV, addr, opd, opds, aget, aset, adel1, lkill, readCells, nth, Env.put, Env.putV, Env.box, Env.bare, dropOwn, dropOwnS, binD, binBD, binBool, binInt, binStr, unD, AOpd.drop, Cell.of, AOp.kind, sameKind, assertD, eqlB, isUndef, takeC, unownAt, fits, layCells, putCells, putD, fillD, partsOf, optLo, optHi, allSize, Option.getD_some, Option.getD_none, runDefers, readRes, readRes1, readRess, Nat.reduceAdd, Nat.reduceSub, Nat.reduceMul, Nat.reduceBEq, Bool.false_and, Bool.true_and, Bool.and_true, Bool.and_false, Nat.zero_add, Nat.add_zero, beq_self_eq_true, Bool.true_beq, Bool.false_beq, Bool.not_true, Bool.not_false, decide_true, decide_false, bindO, List.map_cons, List.map_nil, List.length_cons, List.length_nil, List.append_nil, List.nil_append, List.cons_append, List.isEmpty_nil, List.isEmpty_cons, Nat.reduceLeDiff, Int.reduceBEq, Int.reduceNeg, Nat.le_refl, g, hcut, hword]
  | more =>
    have e : phead 4 0 [] = [46, 46, 46] := rfl
    rw [e] at hcut hword ⊢
    have e1 : (([46, 46, 46] : List UInt8) == [60, 102, 117, 110, 62]) = false := rfl
    generalize [46, 46, 46] ++ r = l at hcut hword ⊢
    simp only [a47, sy0, sy1, sy2, sy3, sy4, sy5, clearEnv, adel, mem, initEnv, initSlots, stepOp, wantedA, evalOp, callOf, panicOf, evalV, addr, opd, opds, aget, aset, adel1, lkill, readCells, nth, Env.put, Env.putV, Env.box, Env.bare, dropOwn, dropOwnS, binD, binBD, binBool, binInt, binStr, unD, AOpd.drop, Cell.of, AOp.kind, sameKind, assertD, eqlB, isUndef, takeC, unownAt, fits, layCells, putCells, putD, fillD, partsOf, optLo, optHi, allSize, Option.getD_some, Option.getD_none, runDefers, readRes, readRes1, readRess, Nat.reduceAdd, Nat.reduceSub, Nat.reduceMul, Nat.reduceBEq, Bool.false_and, Bool.true_and, Bool.and_true, Bool.and_false, Nat.zero_add, Nat.add_zero, beq_self_eq_true, Bool.true_beq, Bool.false_beq, Bool.not_true, Bool.not_false, decide_true, decide_false, bindO, List.map_cons, List.map_nil, List.length_cons, List.length_nil, List.append_nil, List.nil_append, List.cons_append, List.isEmpty_nil, List.isEmpty_cons, Nat.reduceLeDiff, Int.reduceBEq, Int.reduceNeg, Nat.le_refl, g, hcut, hword, e1]
  | con _ h =>
    have e : phead 1 0 s = s := rfl
    rw [e] at hcut hword ⊢
    have hup := hup s
    rw [h] at hup
    have e1 := upper_ne s h 60 [102, 117, 110, 62] (by decide)
    have e2 := upper_ne s h 46 [46, 46] (by decide)
    generalize s ++ r = l at hcut hword ⊢
    simp only [a47, sy0, sy1, sy2, sy3, sy4, sy5, clearEnv, adel, mem, initEnv, initSlots, stepOp, wantedA, evalOp, callOf, panicOf, evalV, addr, opd, opds, aget, aset, adel1, lkill, readCells, nth, Env.put, Env.putV, Env.box, Env.bare, dropOwn, dropOwnS, binD, binBD, binBool, binInt, binStr, unD, AOpd.drop, Cell.of, AOp.kind, sameKind, assertD, eqlB, isUndef, takeC, unownAt, fits, layCells, putCells, putD, fillD, partsOf, optLo, optHi, allSize, Option.getD_some, Option.getD_none, runDefers, readRes, readRes1, readRess, Nat.reduceAdd, Nat.reduceSub, Nat.reduceMul, Nat.reduceBEq, Bool.false_and, Bool.true_and, Bool.and_true, Bool.and_false, Nat.zero_add, Nat.add_zero, beq_self_eq_true, Bool.true_beq, Bool.false_beq, Bool.not_true, Bool.not_false, decide_true, decide_false, bindO, List.map_cons, List.map_nil, List.length_cons, List.length_nil, List.append_nil, List.nil_append, List.cons_append, List.isEmpty_nil, List.isEmpty_cons, Nat.reduceLeDiff, Int.reduceBEq, Int.reduceNeg, Nat.le_refl, g, hcut, hword, e1, e2, hup]
end Go.Proofs.YtdoppkjoemlhjaaDoor.Sh

/-
  May a value be told, by the document: as functions on values.
-/
namespace Go.Proofs.YtdoppkjoemlhjaaDoor.Sh
open Go Go.Mx
mutual
def good : V → Bool
  | .mk f n s ks => ifB (f == 2) (s == [] && ks.length == 0) (ifB (f == 3) (s == [] && ks.length == 0 && n == 0) (ifB (f == 4) (s == [] && ks.length == 0 && n == 0) (ifB (f == 1) (n == 0 && upperB s && decide (ks.length ≤ 8) && goods ks) false)))
def goods : List V → Bool
  | [] => true
  | k :: r => good k && goods r
end
mutual
def nested : V → Nat
  | .mk f _ _ ks => ifB (f == 1) (nesteds ks + 1) (nesteds ks)
def nesteds : List V → Nat
  | [] => 0
  | k :: r => max (nested k) (nesteds r)
end
def atG (ks : List V) (i : Nat) : Bool := match ks[i]? with
  | some k => good k
  | none => true
theorem atG_get {ks : List V} {i : Nat} (h : i < ks.length) : atG ks i = good ks[i] := by simp [atG, h]
theorem goods_eq : ∀ l : List V, goods l = l.all good
  | [] => rfl
  | k :: r => by rw [goods, goods_eq r]; rfl
theorem goods_true {ks : List V} (h : ∀ i, 0 ≤ i → i < ks.length → atG ks i = true) : goods ks = true := by
  rw [goods_eq, List.all_eq_true]
  intro k hk
  obtain ⟨i, hi, rfl⟩ := List.getElem_of_mem hk
  have := h i (Nat.zero_le _) hi
  rw [atG_get hi] at this
  exact this
theorem goods_false {ks : List V} {i : Nat} (hi : i < ks.length) (h : atG ks i = false) : goods ks = false := by
  cases hx : goods ks with
  | false => rfl
  | true =>
    rw [goods_eq, List.all_eq_true] at hx
    rw [atG_get hi] at h
    have := hx _ (List.getElem_mem hi)
    rw [this] at h
    cases h
theorem nesteds_take (ks : List V) (i : Nat) (h : i < ks.length) : nesteds (ks.take (i + 1)) = max (nesteds (ks.take i)) (nested ks[i]) := by
  induction ks generalizing i with
  | nil => simp at h
  | cons k r ih =>
    cases i with
    | zero => simp [nesteds]
    | succ i => simp only [List.take_succ_cons, nesteds, ih i (by simpa using h), List.getElem_cons_succ]; omega
mutual
theorem nested_wt : ∀ v : V, nested v ≤ wt v
  | .mk f n s ks => by
    rw [nested, wt]
    have := nesteds_wt ks
    cases f == 1 <;> simp only [ifB_true, ifB_false] <;> omega
theorem nesteds_wt : ∀ l : List V, nesteds l ≤ wts l
  | [] => Nat.le_refl _
  | k :: r => by
    rw [nesteds, wts]
    have := nested_wt k
    have := nesteds_wt r
    omega
end
mutual
theorem told_may : ∀ (v : V) (d : Nat), told v d = (good v && decide (nested v ≤ d))
  | .mk f n s ks, d => by
    have hN : nested (.mk f n s ks) = ifB (f == 1) (nesteds ks + 1) (nesteds ks) := by rw [nested]
    have hbare : ks.length = 0 → f ≠ 1 → nested (.mk f n s ks) ≤ d := fun h0 h1 => by
      rw [hN, show (f == 1) = false by simpa using h1, ifB_false]
      cases ks with
      | nil => simp [nesteds]
      | cons k r => simp at h0
    rw [told, good]
    generalize nested (.mk f n s ks) = N at *
    cases h2 : f == 2 with
    | true =>
      simp only [ifB_true]
      by_cases h0 : ks.length = 0
      · rw [decide_eq_true (hbare h0 (by simp at h2; omega)), Bool.and_true]
      · have : (ks.length == 0) = false := by simpa using h0
        rw [this]; simp
    | false =>
    cases h3 : f == 3 with
    | true =>
      simp only [ifB_true, ifB_false]
      by_cases h0 : ks.length = 0
      · rw [decide_eq_true (hbare h0 (by simp at h3; omega)), Bool.and_true]
      · have : (ks.length == 0) = false := by simpa using h0
        rw [this]; simp
    | false =>
    cases h4 : f == 4 with
    | true =>
      simp only [ifB_true, ifB_false]
      by_cases h0 : ks.length = 0
      · rw [decide_eq_true (hbare h0 (by simp at h4; omega)), Bool.and_true]
      · have : (ks.length == 0) = false := by simpa using h0
        rw [this]; simp
    | false =>
    cases h1 : f == 1 with
    | false => simp only [ifB_false, Bool.false_and]
    | true =>
      rw [h1, ifB_true] at hN
      simp only [ifB_true, ifB_false]
      rw [tolds_may ks (d - 1)]
      cases d with
      | zero =>
        have : decide (N ≤ 0) = false := by simp; omega
        rw [this]; simp
      | succ d =>
        have e : decide (N ≤ d + 1) = decide (nesteds ks ≤ d) := by apply decide_eq_decide.2; omega
        have e2 : (d + 1 != 0) = true := by simp
        rw [e, e2, Nat.add_sub_cancel]
        cases n == 0 <;> cases upperB s <;> cases decide (ks.length ≤ 8) <;> cases goods ks <;> simp
theorem tolds_may : ∀ (l : List V) (d : Nat), tolds l d = (goods l && decide (nesteds l ≤ d))
  | [], d => by simp [tolds, goods, nesteds]
  | k :: r, d => by
    rw [tolds, goods, nesteds, told_may k d, tolds_may r d]
    have e : decide (max (nested k) (nesteds r) ≤ d) = (decide (nested k ≤ d) && decide (nesteds r ≤ d)) := by rw [← Bool.decide_and]; apply decide_eq_decide.2; omega
    rw [e]
    cases good k <;> cases goods r <;> cases decide (nested k ≤ d) <;> simp
end
end Go.Proofs.YtdoppkjoemlhjaaDoor.Sh

