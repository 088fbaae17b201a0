/-
  A value put in print: the builder's writes, and the closure that writes a value.
-/
import Derived.Test.YtdoppkjoemlhjaaDoorShTold
set_option linter.unusedSimpArgs false
set_option linter.unusedVariables false
namespace Go.Proofs.YtdoppkjoemlhjaaDoor.Sh
open Go Go.Mx
def phead (f n : Int) (s : List UInt8) : List UInt8 := ifB (f == 2) (itoaN n) (ifB (f == 3) [60, 102, 117, 110, 62] (ifB (f == 4) [46, 46, 46] s))
mutual
/-- A value in print, within another one or not. -/
def ptext : V → Bool → List UInt8
  | .mk f n s ks, w => ifB (w && (decide (0 < ks.length) || decide (n < 0))) ([40] ++ (phead f n s ++ ptexts ks) ++ [41]) (phead f n s ++ ptexts ks)
def ptexts : List V → List UInt8
  | [] => []
  | k :: r => [32] ++ ptext k true ++ ptexts r
end
abbrev kB : RowK := ⟨5, 1⟩
def SB (c o : Bool) (bs : List UInt8) : Store := { objs := [(1, [⟨false, .fn (.func 28) [] [.ptr 0 0, .ptr 1 0]⟩]), (0, [⟨false, ifB c (.ptr 0 0) .nilp⟩, ⟨o, dlist kB (bytesD bs)⟩])], tys := [(1, 50), (0, 49)], iters := [], next := 2 }
theorem bytesD_len : ∀ s, (bytesD s).length = s.length
  | [] => rfl
  | b :: r => by simp [bytesD, bytesD_len r]
theorem bytesD_app : ∀ s t, bytesD (s ++ t) = bytesD s ++ bytesD t
  | [], _ => rfl
  | b :: r, t => by simp [bytesD, bytesD_app r t]
theorem bytesD_all : ∀ s, ∀ d ∈ bytesD s, d.ok = true ∧ d.cells.length = 1
  | [], d, h => by cases h
  | b :: r, d, h => by
    rcases List.mem_cons.1 h with e | h
    · rw [e]; exact ⟨rfl, rfl⟩
    · exact bytesD_all r d h
theorem bytesOf_bytesD : ∀ s : List UInt8, bytesOf (bytesD s) = some s
  | [] => rfl
  | b :: r => by
    have h1 : (0 : Int) ≤ (b.toNat : Int) := by omega
    have h2 : (b.toNat : Int) < 256 := by have := b.toNat_lt; omega
    rw [bytesD, bytesOf, decide_eq_true h1, decide_eq_true h2, Bool.and_self, ifB_true, bytesOf_bytesD r]
    simp [bindO, caseO]
theorem bytesD_ne {s : List UInt8} (h : bytesD s ≠ []) : s ≠ [] := by
  intro e
  rw [e] at h
  exact h rfl
theorem bapp {o : Bool} {bs t : List UInt8} (ho : bs ≠ [] → o = true) (hl : bs.length + t.length < 1073741824) : appendD kB 1 ⟨o, dlist kB (bytesD bs)⟩ (.list kB (bytesD t)) = some ⟨true, dlist kB (bytesD (bs ++ t))⟩ := by
  rw [bytesD_app]
  exact append_more (fun h => ho (bytesD_ne h)) (bytesD_all t) (by rw [bytesD_len, bytesD_len]; unfold bound; omega) (by rw [bytesD_len, bytesD_len]; unfold bound; omega) rfl
theorem copy_run {c o : Bool} {bs : List UInt8} : Xu Xl 43 [.ptr 0 0] (SB c o bs) = some (.ret ⟨false, .tup []⟩, SB true o bs) := by
  cases c <;> rfl
set_option maxRecDepth 10000
theorem copyP_run : Evly fun n => ∀ c o bs, TP n 43 [.ptr 0 0] (SB c o bs) = some (.ret ⟨false, .tup []⟩, SB true o bs) := (Evly.all (p := fun _ => True) fun _ => trivial).step 0 fun m _ _ c o bs => by rw [TP_lib rfl]; exact copy_run
/-- A call of the program's, deferred or not. -/
def TQ (q : Bool) (n : Nat) : CallF := runQ Γp Rl (Xu Xl) n q
theorem wbyte_run (q : Bool) : Evly fun n => ∀ c o bs (b : UInt8) (x : Int), x = (b.toNat : Int) → (bs ≠ [] → o = true) → bs.length + 1 < 1073741824 → TQ q n 29 [.ptr 0 0, .int .u8 x] (SB c o bs) = some (.ret ⟨false, .niliface⟩, SB true true (bs ++ [b])) := copyP_run.step 0 fun m _ hc c o bs b x hx ho hl => by
  have hc := hc c o bs
  have ha := bapp (o := o) (bs := bs) (t := [b]) ho (by simpa using hl)
  rw [show bytesD [b] = [.int .u8 (b.toNat : Int)] from rfl, ← hx] at ha
  simp only [SB] at hc
  have hx2 : exec (TP m) m a29.body (initEnv [.ptr 0 0, .int .u8 x]) (SB c o bs) = some (.ret, { slots := [(4, ⟨false, .niliface⟩)], locs := [], boxes := [], defers := [] }, SB true true (bs ++ [b])) := by
    simp only [a29, SB, sy0, sy1, sy2, sy3, sy4, sy5, clearEnv, adel, mem, initEnv, initSlots, stepOp, wantedA, evalOp, callOf, panicOf, evalV, addr, opd, opds, aget, aset, adel1, lkill, readCells, nth, Env.put, Env.putV, Env.box, Env.bare, dropOwn, dropOwnS, binD, binBD, binBool, binInt, binStr, unD, AOpd.drop, Cell.of, AOp.kind, sameKind, assertD, eqlB, isUndef, takeC, unownAt, fits, layCells, putCells, putD, fillD, partsOf, optLo, optHi, allSize, Option.getD_some, Option.getD_none, runDefers, readRes, readRes1, readRess, Nat.reduceAdd, Nat.reduceSub, Nat.reduceMul, Nat.reduceBEq, Bool.false_and, Bool.true_and, Bool.and_true, Bool.and_false, Nat.zero_add, Nat.add_zero, beq_self_eq_true, Bool.true_beq, Bool.false_beq, Bool.not_true, Bool.not_false, decide_true, decide_false, bindO, List.map_cons, List.map_nil, List.length_cons, List.length_nil, List.append_nil, List.nil_append, List.cons_append, List.isEmpty_nil, List.isEmpty_cons, Nat.reduceLeDiff, Int.reduceBEq, Int.reduceNeg, Nat.le_refl, hc, ha]
  exact runQ_ret (af := a29) rfl rfl hx2 rfl rfl
theorem wstr_run : Evly fun n => ∀ c o bs t, (bs ≠ [] → o = true) → bs.length + t.length < 1073741824 → TP n 30 [.ptr 0 0, .str t] (SB c o bs) = some (.ret ⟨false, .tup [.int .i64 t.length, .niliface]⟩, SB true true (bs ++ t)) := copyP_run.step 0 fun m _ hc c o bs t ho hl => by
  have hc := hc c o bs
  have ha := bapp (o := o) (bs := bs) (t := t) ho hl
  simp only [SB] at hc
  rw [TP_fun (af := a30) rfl rfl]
  simp only [a30, SB, sy0, sy1, sy2, sy3, sy4, sy5, clearEnv, adel, mem, initEnv, initSlots, stepOp, wantedA, evalOp, callOf, panicOf, evalV, addr, opd, opds, aget, aset, adel1, lkill, readCells, nth, Env.put, Env.putV, Env.box, Env.bare, dropOwn, dropOwnS, binD, binBD, binBool, binInt, binStr, unD, AOpd.drop, Cell.of, AOp.kind, sameKind, assertD, eqlB, isUndef, takeC, unownAt, fits, layCells, putCells, putD, fillD, partsOf, optLo, optHi, allSize, Option.getD_some, Option.getD_none, runDefers, readRes, readRes1, readRess, Nat.reduceAdd, Nat.reduceSub, Nat.reduceMul, Nat.reduceBEq, Bool.false_and, Bool.true_and, Bool.and_true, Bool.and_false, Nat.zero_add, Nat.add_zero, beq_self_eq_true, Bool.true_beq, Bool.false_beq, Bool.not_true, Bool.not_false, decide_true, decide_false, bindO, List.map_cons, List.map_nil, List.length_cons, List.length_nil, List.append_nil, List.nil_append, List.cons_append, List.isEmpty_nil, List.isEmpty_cons, Nat.reduceLeDiff, Int.reduceBEq, Int.reduceNeg, Nat.le_refl, hc, ha]
def Small' (x : Int) : Prop := -9223372036854775808 ≤ x ∧ x ≤ 9223372036854775807
theorem itoaP_run : Evly fun n => ∀ x, Small' x → ∀ σ, TP n 31 [.int .i64 x] σ = some (.ret ⟨false, .str (itoaN x)⟩, σ) := (Evly.all (p := fun _ => True) fun _ => trivial).step 0 fun m _ _ x hx σ => by
  have hi : inI64 x = true := by unfold inI64; rw [decide_eq_true hx.1, decide_eq_true hx.2]; rfl
  rw [TP_lib rfl]
  show bindO (xItoa [.int .i64 x]) _ = _
  simp only [xItoa, hi, ifB_true, bindO, caseO_some]
/-- A value that is put in print: its lists, its numbers. -/
inductive FitN : V → Prop
  | mk (f n : Int) (s : List UInt8) (ks : List V) (h : ks.length < 1048576) (hn : Small' n) (hk : ∀ k ∈ ks, FitN k) : FitN (.mk f n s ks)
theorem FitN.fit {v : V} (h : FitN v) : Fit v := by
  induction h with
  | mk f n s ks h hn hk ih => exact .mk f n s ks h ih
theorem Rl_29 {ds : List D} {m : Option D} {σ : Store} : Rl 29 ds m σ = none := rfl
theorem ptexts_take (ks : List V) (i : Nat) (h : i < ks.length) : ptexts (ks.take (i + 1)) = ptexts (ks.take i) ++ [32] ++ ptext ks[i] true := by
  induction ks generalizing i with
  | nil => simp at h
  | cons k r ih =>
    cases i with
    | zero => simp [ptexts]
    | succ i => simp only [List.take_succ_cons, ptexts, ih i (by simpa using h), List.getElem_cons_succ, List.append_assoc]
theorem ptexts_mono (ks : List V) (i : Nat) (h : i < ks.length) : (ptexts (ks.take i)).length + 1 + (ptext ks[i] true).length ≤ (ptexts ks).length := by
  induction ks generalizing i with
  | nil => simp at h
  | cons k r ih =>
    cases i with
    | zero => simp [ptexts]; omega
    | succ i =>
      have := ih i (by simpa using h)
      simp only [List.take_succ_cons, ptexts, List.getElem_cons_succ, List.length_append]
      omega
section
variable {C : CallF} {n : Nat} {ks : List V} {i : Nat} {bs : List UInt8} {dfr : List (FuncId × List D)}
def E28 (ks : List V) (dfr : List (FuncId × List D)) (i : Nat) : Env := { slots := [(2, ⟨false, .ptr 0 0⟩), (3, ⟨false, .ptr 1 0⟩), (41, ⟨false, dlist kV (ks.map dV)⟩), (42, ⟨false, .int .i64 ks.length⟩), (43, ⟨false, .int .i64 i⟩)], locs := [], boxes := [], defers := dfr }
theorem l28_step (h : i < ks.length) (hl : ks.length < 1048576) (hw : ∀ b (x : Int), x = ((32 : UInt8).toNat : Int) → C 29 [.ptr 0 0, .int .u8 x] (SB true true b) = some (.ret ⟨false, .niliface⟩, SB true true (b ++ [32])) ∨ ¬ b = bs ++ ptexts (ks.take i))
    (hc : C 28 [dV ks[i], .bool true, .ptr 0 0, .ptr 1 0] (SB true true (bs ++ ptexts (ks.take i) ++ [32])) = some (.ret ⟨false, .tup []⟩, SB true true (bs ++ ptexts (ks.take i) ++ [32] ++ ptext ks[i] true))) :
    exec C n a28_l0 (E28 ks dfr i) (SB true true (bs ++ ptexts (ks.take i))) = some (.normal, E28 ks dfr (i + 1), SB true true (bs ++ ptexts (ks.take (i + 1)))) := by
  have hi : ((i : Int) < (ks.length : Int)) := by omega
  have hw2 := (hw (bs ++ ptexts (ks.take i)) 32 rfl).resolve_right (by simp)
  rw [dV_eq ks[i]] at hc
  have he : bs ++ ptexts (ks.take (i + 1)) = bs ++ ptexts (ks.take i) ++ [32] ++ ptext ks[i] true := by
    rw [ptexts_take ks i h]
    simp only [List.append_assoc]
  rw [he]
  simp only [SB, ifB_true] at hc hw2
  simp only [a28_l0, E28, SB, sy0, sy1, sy2, sy3, sy4, sy5, clearEnv, adel, mem, initEnv, initSlots, stepOp, wantedA, evalOp, callOf, panicOf, evalV, addr, opd, opds, aget, aset, adel1, lkill, readCells, nth, Env.put, Env.putV, Env.box, Env.bare, dropOwn, dropOwnS, binD, binBD, binBool, binInt, binStr, unD, AOpd.drop, Cell.of, AOp.kind, sameKind, assertD, eqlB, isUndef, takeC, unownAt, fits, layCells, putCells, putD, fillD, partsOf, optLo, optHi, allSize, Option.getD_some, Option.getD_none, runDefers, readRes, readRes1, readRess, Nat.reduceAdd, Nat.reduceSub, Nat.reduceMul, Nat.reduceBEq, Bool.false_and, Bool.true_and, Bool.and_true, Bool.and_false, Nat.zero_add, Nat.add_zero, beq_self_eq_true, Bool.true_beq, Bool.false_beq, Bool.not_true, Bool.not_false, decide_true, decide_false, bindO, List.map_cons, List.map_nil, List.length_cons, List.length_nil, List.append_nil, List.nil_append, List.cons_append, List.isEmpty_nil, List.isEmpty_cons, Nat.reduceLeDiff, Int.reduceBEq, Int.reduceNeg, Nat.le_refl, kid_nthx _ _ h, kid_row _ _ h, hi, wrap64_succ (i := i) (by omega), hw2, hc]
theorem l28_end : exec C n a28_l0 (E28 ks dfr ks.length) (SB true true (bs ++ ptexts (ks.take ks.length))) = some (.exit 1, { slots := [(2, ⟨false, .ptr 0 0⟩), (3, ⟨false, .ptr 1 0⟩), (41, ⟨false, dlist kV (ks.map dV)⟩), (42, ⟨false, .int .i64 ks.length⟩), (43, ⟨false, .int .i64 ks.length⟩), (44, ⟨false, .bool false⟩)], locs := [], boxes := [], defers := dfr }, SB true true (bs ++ ptexts ks)) := by
  have hi : ¬ ((ks.length : Int) < (ks.length : Int)) := by omega
  rw [List.take_length]
  simp only [a28_l0, E28, SB, sy0, sy1, sy2, sy3, sy4, sy5, clearEnv, adel, mem, initEnv, initSlots, stepOp, wantedA, evalOp, callOf, panicOf, evalV, addr, opd, opds, aget, aset, adel1, lkill, readCells, nth, Env.put, Env.putV, Env.box, Env.bare, dropOwn, dropOwnS, binD, binBD, binBool, binInt, binStr, unD, AOpd.drop, Cell.of, AOp.kind, sameKind, assertD, eqlB, isUndef, takeC, unownAt, fits, layCells, putCells, putD, fillD, partsOf, optLo, optHi, allSize, Option.getD_some, Option.getD_none, runDefers, readRes, readRes1, readRess, Nat.reduceAdd, Nat.reduceSub, Nat.reduceMul, Nat.reduceBEq, Bool.false_and, Bool.true_and, Bool.and_true, Bool.and_false, Nat.zero_add, Nat.add_zero, beq_self_eq_true, Bool.true_beq, Bool.false_beq, Bool.not_true, Bool.not_false, decide_true, decide_false, bindO, List.map_cons, List.map_nil, List.length_cons, List.length_nil, List.append_nil, List.nil_append, List.cons_append, List.isEmpty_nil, List.isEmpty_cons, Nat.reduceLeDiff, Int.reduceBEq, Int.reduceNeg, Nat.le_refl, hi]
end
set_option maxHeartbeats 4000000 in
theorem put_run (v : V) (hf : FitN v) : Evly fun m => ∀ w c o bs, (bs ≠ [] → o = true) → bs.length + (ptext v w).length < 1000000000 → TP m 28 [dV v, .bool w, .ptr 0 0, .ptr 1 0] (SB c o bs) = some (.ret ⟨false, .tup []⟩, SB true true (bs ++ ptext v w)) := by
  induction hf with
  | mk f n s ks hks hn hk ih =>
    have hkids : Evly fun m => ∀ i, i < ks.length → ∀ (h : i < ks.length) bs, bs.length + (ptext ks[i] true).length < 1000000000 → TP m 28 [dV ks[i], .bool true, .ptr 0 0, .ptr 1 0] (SB true true bs) = some (.ret ⟨false, .tup []⟩, SB true true (bs ++ ptext ks[i] true)) :=
      Evly.below _ fun i hi => (ih ks[i] (List.getElem_mem hi)).mono fun n hn _ bs hb => hn true true true bs (fun _ => rfl) hb
    refine (((hkids.and (wbyte_run false)).and (wbyte_run true)).and (wstr_run.and itoaP_run)).step (ks.length + 1) fun m hm ⟨⟨⟨hrun, hwb⟩, hwd⟩, ⟨hws, hit⟩⟩ w c o bs ho hl => ?_
    have hwb : ∀ c o bs (b : UInt8) (x : Int), x = (b.toNat : Int) → (bs ≠ [] → o = true) → bs.length + 1 < 1073741824 → TP m 29 [.ptr 0 0, .int .u8 x] (SB c o bs) = some (.ret ⟨false, .niliface⟩, SB true true (bs ++ [b])) := hwb
    have hwd : ∀ c o bs (b : UInt8) (x : Int), x = (b.toNat : Int) → (bs ≠ [] → o = true) → bs.length + 1 < 1073741824 → TPD m 29 [.ptr 0 0, .int .u8 x] (SB c o bs) = some (.ret ⟨false, .niliface⟩, SB true true (bs ++ [b])) := hwd
    rw [TP_fun (af := a28) rfl rfl]
    have hva : ∀ f n s ks, dV (.mk f n s ks) = .agg [.int .i64 f, .int .i64 n, .str s, dlist kV (ks.map dV)] := fun f n s ks => dV_eq _
    rw [hva]
    have hit := hit n hn
    -- the loop, whatever is deferred
    have loop : ∀ (dfr : List (FuncId × List D)) (b0 : List UInt8), b0.length + (ptexts ks).length < 1000000000 →
        loopN (exec (TP m) m a28_l0) m (E28 ks dfr 0) (SB true true b0) = some (.exit 1, { slots := [(2, ⟨false, .ptr 0 0⟩), (3, ⟨false, .ptr 1 0⟩), (41, ⟨false, dlist kV (ks.map dV)⟩), (42, ⟨false, .int .i64 ks.length⟩), (43, ⟨false, .int .i64 ks.length⟩), (44, ⟨false, .bool false⟩)], locs := [], boxes := [], defers := dfr }, SB true true (b0 ++ ptexts ks)) := fun dfr b0 hb => by
      have := loopN_run (body := exec (TP m) m a28_l0) (E28 ks dfr) (fun i => SB true true (b0 ++ ptexts (ks.take i))) ks.length (r := _) (fun _ _ h => by cases h)
        (fun i hi => by
          have hmono := ptexts_mono ks i hi
          refine l28_step hi hks (fun b x hx => ?_) (hrun i hi hi _ (by simp only [List.length_append, List.length_cons, List.length_nil]; omega))
          by_cases he : b = b0 ++ ptexts (ks.take i)
          · exact .inl (hwb true true b 32 x hx (fun _ => rfl) (by rw [he]; simp only [List.length_append]; omega))
          · exact .inr he) l28_end 0 m (by omega) (by omega)
      simpa only [List.take_zero, ptexts, List.append_nil] using this
    have main : ∀ (t : List UInt8), phead f n s = t → (ptext (.mk f n s ks) w = ifB (w && (decide (0 < ks.length) || decide (n < 0))) ([40] ++ (t ++ ptexts ks) ++ [41]) (t ++ ptexts ks)) := fun t ht => by rw [ptext, ht]
    cases h2 : f == 2 with
    | true =>
      cases w with
      | false =>
        have hm := main (itoaN n) (by unfold phead; simp only [h2, ifB_true, ifB_false])
        simp only [Bool.false_and, ifB_false] at hm
        rw [hm] at hl ⊢
        simp only [List.length_append] at hl
        have k1 := hws c o bs (itoaN n) ho (by omega)
        have k2 := loop [] (bs ++ (itoaN n)) (by simp only [List.length_append]; omega)
        rw [← List.append_assoc]
        simp only [SB, E28, ifB_true, zeroI] at k1 k2
        simp only [a28, SB, sy0, sy1, sy2, sy3, sy4, sy5, clearEnv, adel, mem, initEnv, initSlots, stepOp, wantedA, evalOp, callOf, panicOf, evalV, addr, opd, opds, aget, aset, adel1, lkill, readCells, nth, Env.put, Env.putV, Env.box, Env.bare, dropOwn, dropOwnS, binD, binBD, binBool, binInt, binStr, unD, AOpd.drop, Cell.of, AOp.kind, sameKind, assertD, eqlB, isUndef, takeC, unownAt, fits, layCells, putCells, putD, fillD, partsOf, optLo, optHi, allSize, Option.getD_some, Option.getD_none, runDefers, readRes, readRes1, readRess, Nat.reduceAdd, Nat.reduceSub, Nat.reduceMul, Nat.reduceBEq, Bool.false_and, Bool.true_and, Bool.and_true, Bool.and_false, Nat.zero_add, Nat.add_zero, beq_self_eq_true, Bool.true_beq, Bool.false_beq, Bool.not_true, Bool.not_false, decide_true, decide_false, bindO, List.map_cons, List.map_nil, List.length_cons, List.length_nil, List.append_nil, List.nil_append, List.cons_append, List.isEmpty_nil, List.isEmpty_cons, Nat.reduceLeDiff, Int.reduceBEq, Int.reduceNeg, Nat.le_refl, List.length_map, h2, k1, k2, hit]
      | true =>
        by_cases gk : 0 < ks.length
        · have gk2 : ((ks.length : Int) > 0) := by omega
          have hm := main (itoaN n) (by unfold phead; simp only [h2, ifB_true, ifB_false])
          simp only [decide_eq_true gk, Bool.true_or, Bool.true_and, ifB_true] at hm
          rw [hm] at hl ⊢
          simp only [List.length_append, List.length_cons, List.length_nil] at hl
          have k0 := hwb c o bs 40 40 rfl ho (by omega)
          have k1 := hws true true (bs ++ [40]) (itoaN n) (fun _ => rfl) (by simp only [List.length_append, List.length_cons, List.length_nil]; omega)
          have k2 := loop [(29, [.ptr 0 0, .int .u8 41])] (bs ++ [40] ++ (itoaN n)) (by simp only [List.length_append, List.length_cons, List.length_nil]; omega)
          have k3 := hwd true true (bs ++ [40] ++ (itoaN n) ++ ptexts ks) 41 41 rfl (fun _ => rfl) (by simp only [List.length_append, List.length_cons, List.length_nil]; omega)
          have he : bs ++ ([40] ++ ((itoaN n) ++ ptexts ks) ++ [41]) = bs ++ [40] ++ (itoaN n) ++ ptexts ks ++ [41] := by simp only [List.append_assoc]
          rw [he]
          simp only [SB, E28, ifB_true, zeroI] at k0 k1 k2 k3
          simp only [a28, SB, sy0, sy1, sy2, sy3, sy4, sy5, clearEnv, adel, mem, initEnv, initSlots, stepOp, wantedA, evalOp, callOf, panicOf, evalV, addr, opd, opds, aget, aset, adel1, lkill, readCells, nth, Env.put, Env.putV, Env.box, Env.bare, dropOwn, dropOwnS, binD, binBD, binBool, binInt, binStr, unD, AOpd.drop, Cell.of, AOp.kind, sameKind, assertD, eqlB, isUndef, takeC, unownAt, fits, layCells, putCells, putD, fillD, partsOf, optLo, optHi, allSize, Option.getD_some, Option.getD_none, runDefers, readRes, readRes1, readRess, Nat.reduceAdd, Nat.reduceSub, Nat.reduceMul, Nat.reduceBEq, Bool.false_and, Bool.true_and, Bool.and_true, Bool.and_false, Nat.zero_add, Nat.add_zero, beq_self_eq_true, Bool.true_beq, Bool.false_beq, Bool.not_true, Bool.not_false, decide_true, decide_false, bindO, List.map_cons, List.map_nil, List.length_cons, List.length_nil, List.append_nil, List.nil_append, List.cons_append, List.isEmpty_nil, List.isEmpty_cons, Nat.reduceLeDiff, Int.reduceBEq, Int.reduceNeg, Nat.le_refl, List.length_map, Rl_29, h2, gk2, k0, k1, k2, k3, hit]
        · have gk2 : ¬ ((ks.length : Int) > 0) := by omega
          by_cases gn : n < 0
          · skip
            have hm := main (itoaN n) (by unfold phead; simp only [h2, ifB_true, ifB_false])
            simp only [decide_eq_true gn, Bool.or_true, Bool.true_and, ifB_true] at hm
            rw [hm] at hl ⊢
            simp only [List.length_append, List.length_cons, List.length_nil] at hl
            have k0 := hwb c o bs 40 40 rfl ho (by omega)
            have k1 := hws true true (bs ++ [40]) (itoaN n) (fun _ => rfl) (by simp only [List.length_append, List.length_cons, List.length_nil]; omega)
            have k2 := loop [(29, [.ptr 0 0, .int .u8 41])] (bs ++ [40] ++ (itoaN n)) (by simp only [List.length_append, List.length_cons, List.length_nil]; omega)
            have k3 := hwd true true (bs ++ [40] ++ (itoaN n) ++ ptexts ks) 41 41 rfl (fun _ => rfl) (by simp only [List.length_append, List.length_cons, List.length_nil]; omega)
            have he : bs ++ ([40] ++ ((itoaN n) ++ ptexts ks) ++ [41]) = bs ++ [40] ++ (itoaN n) ++ ptexts ks ++ [41] := by simp only [List.append_assoc]
            rw [he]
            simp only [SB, E28, ifB_true, zeroI] at k0 k1 k2 k3
            simp only [a28, SB, sy0, sy1, sy2, sy3, sy4, sy5, clearEnv, adel, mem, initEnv, initSlots, stepOp, wantedA, evalOp, callOf, panicOf, evalV, addr, opd, opds, aget, aset, adel1, lkill, readCells, nth, Env.put, Env.putV, Env.box, Env.bare, dropOwn, dropOwnS, binD, binBD, binBool, binInt, binStr, unD, AOpd.drop, Cell.of, AOp.kind, sameKind, assertD, eqlB, isUndef, takeC, unownAt, fits, layCells, putCells, putD, fillD, partsOf, optLo, optHi, allSize, Option.getD_some, Option.getD_none, runDefers, readRes, readRes1, readRess, Nat.reduceAdd, Nat.reduceSub, Nat.reduceMul, Nat.reduceBEq, Bool.false_and, Bool.true_and, Bool.and_true, Bool.and_false, Nat.zero_add, Nat.add_zero, beq_self_eq_true, Bool.true_beq, Bool.false_beq, Bool.not_true, Bool.not_false, decide_true, decide_false, bindO, List.map_cons, List.map_nil, List.length_cons, List.length_nil, List.append_nil, List.nil_append, List.cons_append, List.isEmpty_nil, List.isEmpty_cons, Nat.reduceLeDiff, Int.reduceBEq, Int.reduceNeg, Nat.le_refl, List.length_map, Rl_29, h2, gk2, gn, k0, k1, k2, k3, hit]
          · skip
            have hm := main (itoaN n) (by unfold phead; simp only [h2, ifB_true, ifB_false])
            simp only [decide_eq_false gk, decide_eq_false gn, Bool.or_self, Bool.and_false, ifB_false] at hm
            rw [hm] at hl ⊢
            simp only [List.length_append] at hl
            have k1 := hws c o bs (itoaN n) ho (by omega)
            have k2 := loop [] (bs ++ (itoaN n)) (by simp only [List.length_append]; omega)
            rw [← List.append_assoc]
            simp only [SB, E28, ifB_true, zeroI] at k1 k2
            simp only [a28, SB, sy0, sy1, sy2, sy3, sy4, sy5, clearEnv, adel, mem, initEnv, initSlots, stepOp, wantedA, evalOp, callOf, panicOf, evalV, addr, opd, opds, aget, aset, adel1, lkill, readCells, nth, Env.put, Env.putV, Env.box, Env.bare, dropOwn, dropOwnS, binD, binBD, binBool, binInt, binStr, unD, AOpd.drop, Cell.of, AOp.kind, sameKind, assertD, eqlB, isUndef, takeC, unownAt, fits, layCells, putCells, putD, fillD, partsOf, optLo, optHi, allSize, Option.getD_some, Option.getD_none, runDefers, readRes, readRes1, readRess, Nat.reduceAdd, Nat.reduceSub, Nat.reduceMul, Nat.reduceBEq, Bool.false_and, Bool.true_and, Bool.and_true, Bool.and_false, Nat.zero_add, Nat.add_zero, beq_self_eq_true, Bool.true_beq, Bool.false_beq, Bool.not_true, Bool.not_false, decide_true, decide_false, bindO, List.map_cons, List.map_nil, List.length_cons, List.length_nil, List.append_nil, List.nil_append, List.cons_append, List.isEmpty_nil, List.isEmpty_cons, Nat.reduceLeDiff, Int.reduceBEq, Int.reduceNeg, Nat.le_refl, List.length_map, h2, gk2, gn, k1, k2, hit]
    | false =>
    cases h3 : f == 3 with
    | true =>
      cases w with
      | false =>
        have hm := main ([60, 102, 117, 110, 62]) (by unfold phead; simp only [h2, h3, ifB_true, ifB_false])
        simp only [Bool.false_and, ifB_false] at hm
        rw [hm] at hl ⊢
        simp only [List.length_append] at hl
        have k1 := hws c o bs ([60, 102, 117, 110, 62]) ho (by omega)
        have k2 := loop [] (bs ++ ([60, 102, 117, 110, 62])) (by simp only [List.length_append]; omega)
        rw [← List.append_assoc]
        simp only [SB, E28, ifB_true, zeroI] at k1 k2
        simp only [a28, SB, sy0, sy1, sy2, sy3, sy4, sy5, clearEnv, adel, mem, initEnv, initSlots, stepOp, wantedA, evalOp, callOf, panicOf, evalV, addr, opd, opds, aget, aset, adel1, lkill, readCells, nth, Env.put, Env.putV, Env.box, Env.bare, dropOwn, dropOwnS, binD, binBD, binBool, binInt, binStr, unD, AOpd.drop, Cell.of, AOp.kind, sameKind, assertD, eqlB, isUndef, takeC, unownAt, fits, layCells, putCells, putD, fillD, partsOf, optLo, optHi, allSize, Option.getD_some, Option.getD_none, runDefers, readRes, readRes1, readRess, Nat.reduceAdd, Nat.reduceSub, Nat.reduceMul, Nat.reduceBEq, Bool.false_and, Bool.true_and, Bool.and_true, Bool.and_false, Nat.zero_add, Nat.add_zero, beq_self_eq_true, Bool.true_beq, Bool.false_beq, Bool.not_true, Bool.not_false, decide_true, decide_false, bindO, List.map_cons, List.map_nil, List.length_cons, List.length_nil, List.append_nil, List.nil_append, List.cons_append, List.isEmpty_nil, List.isEmpty_cons, Nat.reduceLeDiff, Int.reduceBEq, Int.reduceNeg, Nat.le_refl, List.length_map, h2, h3, k1, k2]
      | true =>
        by_cases gk : 0 < ks.length
        · have gk2 : ((ks.length : Int) > 0) := by omega
          have hm := main ([60, 102, 117, 110, 62]) (by unfold phead; simp only [h2, h3, ifB_true, ifB_false])
          simp only [decide_eq_true gk, Bool.true_or, Bool.true_and, ifB_true] at hm
          rw [hm] at hl ⊢
          simp only [List.length_append, List.length_cons, List.length_nil] at hl
          have k0 := hwb c o bs 40 40 rfl ho (by omega)
          have k1 := hws true true (bs ++ [40]) ([60, 102, 117, 110, 62]) (fun _ => rfl) (by simp only [List.length_append, List.length_cons, List.length_nil]; omega)
          have k2 := loop [(29, [.ptr 0 0, .int .u8 41])] (bs ++ [40] ++ ([60, 102, 117, 110, 62])) (by simp only [List.length_append, List.length_cons, List.length_nil]; omega)
          have k3 := hwd true true (bs ++ [40] ++ ([60, 102, 117, 110, 62]) ++ ptexts ks) 41 41 rfl (fun _ => rfl) (by simp only [List.length_append, List.length_cons, List.length_nil]; omega)
          have he : bs ++ ([40] ++ (([60, 102, 117, 110, 62]) ++ ptexts ks) ++ [41]) = bs ++ [40] ++ ([60, 102, 117, 110, 62]) ++ ptexts ks ++ [41] := by simp only [List.append_assoc]
          rw [he]
          simp only [SB, E28, ifB_true, zeroI] at k0 k1 k2 k3
          simp only [a28, SB, sy0, sy1, sy2, sy3, sy4, sy5, clearEnv, adel, mem, initEnv, initSlots, stepOp, wantedA, evalOp, callOf, panicOf, evalV, addr, opd, opds, aget, aset, adel1, lkill, readCells, nth, Env.put, Env.putV, Env.box, Env.bare, dropOwn, dropOwnS, binD, binBD, binBool, binInt, binStr, unD, AOpd.drop, Cell.of, AOp.kind, sameKind, assertD, eqlB, isUndef, takeC, unownAt, fits, layCells, putCells, putD, fillD, partsOf, optLo, optHi, allSize, Option.getD_some, Option.getD_none, runDefers, readRes, readRes1, readRess, Nat.reduceAdd, Nat.reduceSub, Nat.reduceMul, Nat.reduceBEq, Bool.false_and, Bool.true_and, Bool.and_true, Bool.and_false, Nat.zero_add, Nat.add_zero, beq_self_eq_true, Bool.true_beq, Bool.false_beq, Bool.not_true, Bool.not_false, decide_true, decide_false, bindO, List.map_cons, List.map_nil, List.length_cons, List.length_nil, List.append_nil, List.nil_append, List.cons_append, List.isEmpty_nil, List.isEmpty_cons, Nat.reduceLeDiff, Int.reduceBEq, Int.reduceNeg, Nat.le_refl, List.length_map, Rl_29, h2, h3, gk2, k0, k1, k2, k3]
        · have gk2 : ¬ ((ks.length : Int) > 0) := by omega
          by_cases gn : n < 0
          · skip
            have hm := main ([60, 102, 117, 110, 62]) (by unfold phead; simp only [h2, h3, ifB_true, ifB_false])
            simp only [decide_eq_true gn, Bool.or_true, Bool.true_and, ifB_true] at hm
            rw [hm] at hl ⊢
            simp only [List.length_append, List.length_cons, List.length_nil] at hl
            have k0 := hwb c o bs 40 40 rfl ho (by omega)
            have k1 := hws true true (bs ++ [40]) ([60, 102, 117, 110, 62]) (fun _ => rfl) (by simp only [List.length_append, List.length_cons, List.length_nil]; omega)
            have k2 := loop [(29, [.ptr 0 0, .int .u8 41])] (bs ++ [40] ++ ([60, 102, 117, 110, 62])) (by simp only [List.length_append, List.length_cons, List.length_nil]; omega)
            have k3 := hwd true true (bs ++ [40] ++ ([60, 102, 117, 110, 62]) ++ ptexts ks) 41 41 rfl (fun _ => rfl) (by simp only [List.length_append, List.length_cons, List.length_nil]; omega)
            have he : bs ++ ([40] ++ (([60, 102, 117, 110, 62]) ++ ptexts ks) ++ [41]) = bs ++ [40] ++ ([60, 102, 117, 110, 62]) ++ ptexts ks ++ [41] := by simp only [List.append_assoc]
            rw [he]
            simp only [SB, E28, ifB_true, zeroI] at k0 k1 k2 k3
            simp only [a28, SB, sy0, sy1, sy2, sy3, sy4, sy5, clearEnv, adel, mem, initEnv, initSlots, stepOp, wantedA, evalOp, callOf, panicOf, evalV, addr, opd, opds, aget, aset, adel1, lkill, readCells, nth, Env.put, Env.putV, Env.box, Env.bare, dropOwn, dropOwnS, binD, binBD, binBool, binInt, binStr, unD, AOpd.drop, Cell.of, AOp.kind, sameKind, assertD, eqlB, isUndef, takeC, unownAt, fits, layCells, putCells, putD, fillD, partsOf, optLo, optHi, allSize, Option.getD_some, Option.getD_none, runDefers, readRes, readRes1, readRess, Nat.reduceAdd, Nat.reduceSub, Nat.reduceMul, Nat.reduceBEq, Bool.false_and, Bool.true_and, Bool.and_true, Bool.and_false, Nat.zero_add, Nat.add_zero, beq_self_eq_true, Bool.true_beq, Bool.false_beq, Bool.not_true, Bool.not_false, decide_true, decide_false, bindO, List.map_cons, List.map_nil, List.length_cons, List.length_nil, List.append_nil, List.nil_append, List.cons_append, List.isEmpty_nil, List.isEmpty_cons, Nat.reduceLeDiff, Int.reduceBEq, Int.reduceNeg, Nat.le_refl, List.length_map, Rl_29, h2, h3, gk2, gn, k0, k1, k2, k3]
          · skip
            have hm := main ([60, 102, 117, 110, 62]) (by unfold phead; simp only [h2, h3, ifB_true, ifB_false])
            simp only [decide_eq_false gk, decide_eq_false gn, Bool.or_self, Bool.and_false, ifB_false] at hm
            rw [hm] at hl ⊢
            simp only [List.length_append] at hl
            have k1 := hws c o bs ([60, 102, 117, 110, 62]) ho (by omega)
            have k2 := loop [] (bs ++ ([60, 102, 117, 110, 62])) (by simp only [List.length_append]; omega)
            rw [← List.append_assoc]
            simp only [SB, E28, ifB_true, zeroI] at k1 k2
            simp only [a28, SB, sy0, sy1, sy2, sy3, sy4, sy5, clearEnv, adel, mem, initEnv, initSlots, stepOp, wantedA, evalOp, callOf, panicOf, evalV, addr, opd, opds, aget, aset, adel1, lkill, readCells, nth, Env.put, Env.putV, Env.box, Env.bare, dropOwn, dropOwnS, binD, binBD, binBool, binInt, binStr, unD, AOpd.drop, Cell.of, AOp.kind, sameKind, assertD, eqlB, isUndef, takeC, unownAt, fits, layCells, putCells, putD, fillD, partsOf, optLo, optHi, allSize, Option.getD_some, Option.getD_none, runDefers, readRes, readRes1, readRess, Nat.reduceAdd, Nat.reduceSub, Nat.reduceMul, Nat.reduceBEq, Bool.false_and, Bool.true_and, Bool.and_true, Bool.and_false, Nat.zero_add, Nat.add_zero, beq_self_eq_true, Bool.true_beq, Bool.false_beq, Bool.not_true, Bool.not_false, decide_true, decide_false, bindO, List.map_cons, List.map_nil, List.length_cons, List.length_nil, List.append_nil, List.nil_append, List.cons_append, List.isEmpty_nil, List.isEmpty_cons, Nat.reduceLeDiff, Int.reduceBEq, Int.reduceNeg, Nat.le_refl, List.length_map, h2, h3, gk2, gn, k1, k2]
    | false =>
    cases h4 : f == 4 with
    | true =>
      cases w with
      | false =>
        have hm := main ([46, 46, 46]) (by unfold phead; simp only [h2, h3, h4, ifB_true, ifB_false])
        simp only [Bool.false_and, ifB_false] at hm
        rw [hm] at hl ⊢
        simp only [List.length_append] at hl
        have k1 := hws c o bs ([46, 46, 46]) ho (by omega)
        have k2 := loop [] (bs ++ ([46, 46, 46])) (by simp only [List.length_append]; omega)
        rw [← List.append_assoc]
        simp only [SB, E28, ifB_true, zeroI] at k1 k2
        simp only [a28, SB, sy0, sy1, sy2, sy3, sy4, sy5, clearEnv, adel, mem, initEnv, initSlots, stepOp, wantedA, evalOp, callOf, panicOf, evalV, addr, opd, opds, aget, aset, adel1, lkill, readCells, nth, Env.put, Env.putV, Env.box, Env.bare, dropOwn, dropOwnS, binD, binBD, binBool, binInt, binStr, unD, AOpd.drop, Cell.of, AOp.kind, sameKind, assertD, eqlB, isUndef, takeC, unownAt, fits, layCells, putCells, putD, fillD, partsOf, optLo, optHi, allSize, Option.getD_some, Option.getD_none, runDefers, readRes, readRes1, readRess, Nat.reduceAdd, Nat.reduceSub, Nat.reduceMul, Nat.reduceBEq, Bool.false_and, Bool.true_and, Bool.and_true, Bool.and_false, Nat.zero_add, Nat.add_zero, beq_self_eq_true, Bool.true_beq, Bool.false_beq, Bool.not_true, Bool.not_false, decide_true, decide_false, bindO, List.map_cons, List.map_nil, List.length_cons, List.length_nil, List.append_nil, List.nil_append, List.cons_append, List.isEmpty_nil, List.isEmpty_cons, Nat.reduceLeDiff, Int.reduceBEq, Int.reduceNeg, Nat.le_refl, List.length_map, h2, h3, h4, k1, k2]
      | true =>
        by_cases gk : 0 < ks.length
        · have gk2 : ((ks.length : Int) > 0) := by omega
          have hm := main ([46, 46, 46]) (by unfold phead; simp only [h2, h3, h4, ifB_true, ifB_false])
          simp only [decide_eq_true gk, Bool.true_or, Bool.true_and, ifB_true] at hm
          rw [hm] at hl ⊢
          simp only [List.length_append, List.length_cons, List.length_nil] at hl
          have k0 := hwb c o bs 40 40 rfl ho (by omega)
          have k1 := hws true true (bs ++ [40]) ([46, 46, 46]) (fun _ => rfl) (by simp only [List.length_append, List.length_cons, List.length_nil]; omega)
          have k2 := loop [(29, [.ptr 0 0, .int .u8 41])] (bs ++ [40] ++ ([46, 46, 46])) (by simp only [List.length_append, List.length_cons, List.length_nil]; omega)
          have k3 := hwd true true (bs ++ [40] ++ ([46, 46, 46]) ++ ptexts ks) 41 41 rfl (fun _ => rfl) (by simp only [List.length_append, List.length_cons, List.length_nil]; omega)
          have he : bs ++ ([40] ++ (([46, 46, 46]) ++ ptexts ks) ++ [41]) = bs ++ [40] ++ ([46, 46, 46]) ++ ptexts ks ++ [41] := by simp only [List.append_assoc]
          rw [he]
          simp only [SB, E28, ifB_true, zeroI] at k0 k1 k2 k3
          simp only [a28, SB, sy0, sy1, sy2, sy3, sy4, sy5, clearEnv, adel, mem, initEnv, initSlots, stepOp, wantedA, evalOp, callOf, panicOf, evalV, addr, opd, opds, aget, aset, adel1, lkill, readCells, nth, Env.put, Env.putV, Env.box, Env.bare, dropOwn, dropOwnS, binD, binBD, binBool, binInt, binStr, unD, AOpd.drop, Cell.of, AOp.kind, sameKind, assertD, eqlB, isUndef, takeC, unownAt, fits, layCells, putCells, putD, fillD, partsOf, optLo, optHi, allSize, Option.getD_some, Option.getD_none, runDefers, readRes, readRes1, readRess, Nat.reduceAdd, Nat.reduceSub, Nat.reduceMul, Nat.reduceBEq, Bool.false_and, Bool.true_and, Bool.and_true, Bool.and_false, Nat.zero_add, Nat.add_zero, beq_self_eq_true, Bool.true_beq, Bool.false_beq, Bool.not_true, Bool.not_false, decide_true, decide_false, bindO, List.map_cons, List.map_nil, List.length_cons, List.length_nil, List.append_nil, List.nil_append, List.cons_append, List.isEmpty_nil, List.isEmpty_cons, Nat.reduceLeDiff, Int.reduceBEq, Int.reduceNeg, Nat.le_refl, List.length_map, Rl_29, h2, h3, h4, gk2, k0, k1, k2, k3]
        · have gk2 : ¬ ((ks.length : Int) > 0) := by omega
          by_cases gn : n < 0
          · skip
            have hm := main ([46, 46, 46]) (by unfold phead; simp only [h2, h3, h4, ifB_true, ifB_false])
            simp only [decide_eq_true gn, Bool.or_true, Bool.true_and, ifB_true] at hm
            rw [hm] at hl ⊢
            simp only [List.length_append, List.length_cons, List.length_nil] at hl
            have k0 := hwb c o bs 40 40 rfl ho (by omega)
            have k1 := hws true true (bs ++ [40]) ([46, 46, 46]) (fun _ => rfl) (by simp only [List.length_append, List.length_cons, List.length_nil]; omega)
            have k2 := loop [(29, [.ptr 0 0, .int .u8 41])] (bs ++ [40] ++ ([46, 46, 46])) (by simp only [List.length_append, List.length_cons, List.length_nil]; omega)
            have k3 := hwd true true (bs ++ [40] ++ ([46, 46, 46]) ++ ptexts ks) 41 41 rfl (fun _ => rfl) (by simp only [List.length_append, List.length_cons, List.length_nil]; omega)
            have he : bs ++ ([40] ++ (([46, 46, 46]) ++ ptexts ks) ++ [41]) = bs ++ [40] ++ ([46, 46, 46]) ++ ptexts ks ++ [41] := by simp only [List.append_assoc]
            rw [he]
            simp only [SB, E28, ifB_true, zeroI] at k0 k1 k2 k3
            simp only [a28, SB, sy0, sy1, sy2, sy3, sy4, sy5, clearEnv, adel, mem, initEnv, initSlots, stepOp, wantedA, evalOp, callOf, panicOf, evalV, addr, opd, opds, aget, aset, adel1, lkill, readCells, nth, Env.put, Env.putV, Env.box, Env.bare, dropOwn, dropOwnS, binD, binBD, binBool, binInt, binStr, unD, AOpd.drop, Cell.of, AOp.kind, sameKind, assertD, eqlB, isUndef, takeC, unownAt, fits, layCells, putCells, putD, fillD, partsOf, optLo, optHi, allSize, Option.getD_some, Option.getD_none, runDefers, readRes, readRes1, readRess, Nat.reduceAdd, Nat.reduceSub, Nat.reduceMul, Nat.reduceBEq, Bool.false_and, Bool.true_and, Bool.and_true, Bool.and_false, Nat.zero_add, Nat.add_zero, beq_self_eq_true, Bool.true_beq, Bool.false_beq, Bool.not_true, Bool.not_false, decide_true, decide_false, bindO, List.map_cons, List.map_nil, List.length_cons, List.length_nil, List.append_nil, List.nil_append, List.cons_append, List.isEmpty_nil, List.isEmpty_cons, Nat.reduceLeDiff, Int.reduceBEq, Int.reduceNeg, Nat.le_refl, List.length_map, Rl_29, h2, h3, h4, gk2, gn, k0, k1, k2, k3]
          · skip
            have hm := main ([46, 46, 46]) (by unfold phead; simp only [h2, h3, h4, ifB_true, ifB_false])
            simp only [decide_eq_false gk, decide_eq_false gn, Bool.or_self, Bool.and_false, ifB_false] at hm
            rw [hm] at hl ⊢
            simp only [List.length_append] at hl
            have k1 := hws c o bs ([46, 46, 46]) ho (by omega)
            have k2 := loop [] (bs ++ ([46, 46, 46])) (by simp only [List.length_append]; omega)
            rw [← List.append_assoc]
            simp only [SB, E28, ifB_true, zeroI] at k1 k2
            simp only [a28, SB, sy0, sy1, sy2, sy3, sy4, sy5, clearEnv, adel, mem, initEnv, initSlots, stepOp, wantedA, evalOp, callOf, panicOf, evalV, addr, opd, opds, aget, aset, adel1, lkill, readCells, nth, Env.put, Env.putV, Env.box, Env.bare, dropOwn, dropOwnS, binD, binBD, binBool, binInt, binStr, unD, AOpd.drop, Cell.of, AOp.kind, sameKind, assertD, eqlB, isUndef, takeC, unownAt, fits, layCells, putCells, putD, fillD, partsOf, optLo, optHi, allSize, Option.getD_some, Option.getD_none, runDefers, readRes, readRes1, readRess, Nat.reduceAdd, Nat.reduceSub, Nat.reduceMul, Nat.reduceBEq, Bool.false_and, Bool.true_and, Bool.and_true, Bool.and_false, Nat.zero_add, Nat.add_zero, beq_self_eq_true, Bool.true_beq, Bool.false_beq, Bool.not_true, Bool.not_false, decide_true, decide_false, bindO, List.map_cons, List.map_nil, List.length_cons, List.length_nil, List.append_nil, List.nil_append, List.cons_append, List.isEmpty_nil, List.isEmpty_cons, Nat.reduceLeDiff, Int.reduceBEq, Int.reduceNeg, Nat.le_refl, List.length_map, h2, h3, h4, gk2, gn, k1, k2]
    | false =>
    cases w with
    | false =>
      have hm := main (s) (by unfold phead; simp only [h2, h3, h4, ifB_true, ifB_false])
      simp only [Bool.false_and, ifB_false] at hm
      rw [hm] at hl ⊢
      simp only [List.length_append] at hl
      have k1 := hws c o bs (s) ho (by omega)
      have k2 := loop [] (bs ++ (s)) (by simp only [List.length_append]; omega)
      rw [← List.append_assoc]
      simp only [SB, E28, ifB_true, zeroI] at k1 k2
      simp only [a28, SB, sy0, sy1, sy2, sy3, sy4, sy5, clearEnv, adel, mem, initEnv, initSlots, stepOp, wantedA, evalOp, callOf, panicOf, evalV, addr, opd, opds, aget, aset, adel1, lkill, readCells, nth, Env.put, Env.putV, Env.box, Env.bare, dropOwn, dropOwnS, binD, binBD, binBool, binInt, binStr, unD, AOpd.drop, Cell.of, AOp.kind, sameKind, assertD, eqlB, isUndef, takeC, unownAt, fits, layCells, putCells, putD, fillD, partsOf, optLo, optHi, allSize, Option.getD_some, Option.getD_none, runDefers, readRes, readRes1, readRess, Nat.reduceAdd, Nat.reduceSub, Nat.reduceMul, Nat.reduceBEq, Bool.false_and, Bool.true_and, Bool.and_true, Bool.and_false, Nat.zero_add, Nat.add_zero, beq_self_eq_true, Bool.true_beq, Bool.false_beq, Bool.not_true, Bool.not_false, decide_true, decide_false, bindO, List.map_cons, List.map_nil, List.length_cons, List.length_nil, List.append_nil, List.nil_append, List.cons_append, List.isEmpty_nil, List.isEmpty_cons, Nat.reduceLeDiff, Int.reduceBEq, Int.reduceNeg, Nat.le_refl, List.length_map, h2, h3, h4, k1, k2]
    | true =>
      by_cases gk : 0 < ks.length
      · have gk2 : ((ks.length : Int) > 0) := by omega
        have hm := main (s) (by unfold phead; simp only [h2, h3, h4, ifB_true, ifB_false])
        simp only [decide_eq_true gk, Bool.true_or, Bool.true_and, ifB_true] at hm
        rw [hm] at hl ⊢
        simp only [List.length_append, List.length_cons, List.length_nil] at hl
        have k0 := hwb c o bs 40 40 rfl ho (by omega)
        have k1 := hws true true (bs ++ [40]) (s) (fun _ => rfl) (by simp only [List.length_append, List.length_cons, List.length_nil]; omega)
        have k2 := loop [(29, [.ptr 0 0, .int .u8 41])] (bs ++ [40] ++ (s)) (by simp only [List.length_append, List.length_cons, List.length_nil]; omega)
        have k3 := hwd true true (bs ++ [40] ++ (s) ++ ptexts ks) 41 41 rfl (fun _ => rfl) (by simp only [List.length_append, List.length_cons, List.length_nil]; omega)
        have he : bs ++ ([40] ++ ((s) ++ ptexts ks) ++ [41]) = bs ++ [40] ++ (s) ++ ptexts ks ++ [41] := by simp only [List.append_assoc]
        rw [he]
        simp only [SB, E28, ifB_true, zeroI] at k0 k1 k2 k3
        simp only [a28, SB, sy0, sy1, sy2, sy3, sy4, sy5, clearEnv, adel, mem, initEnv, initSlots, stepOp, wantedA, evalOp, callOf, panicOf, evalV, addr, opd, opds, aget, aset, adel1, lkill, readCells, nth, Env.put, Env.putV, Env.box, Env.bare, dropOwn, dropOwnS, binD, binBD, binBool, binInt, binStr, unD, AOpd.drop, Cell.of, AOp.kind, sameKind, assertD, eqlB, isUndef, takeC, unownAt, fits, layCells, putCells, putD, fillD, partsOf, optLo, optHi, allSize, Option.getD_some, Option.getD_none, runDefers, readRes, readRes1, readRess, Nat.reduceAdd, Nat.reduceSub, Nat.reduceMul, Nat.reduceBEq, Bool.false_and, Bool.true_and, Bool.and_true, Bool.and_false, Nat.zero_add, Nat.add_zero, beq_self_eq_true, Bool.true_beq, Bool.false_beq, Bool.not_true, Bool.not_false, decide_true, decide_false, bindO, List.map_cons, List.map_nil, List.length_cons, List.length_nil, List.append_nil, List.nil_append, List.cons_append, List.isEmpty_nil, List.isEmpty_cons, Nat.reduceLeDiff, Int.reduceBEq, Int.reduceNeg, Nat.le_refl, List.length_map, Rl_29, h2, h3, h4, gk2, k0, k1, k2, k3]
      · have gk2 : ¬ ((ks.length : Int) > 0) := by omega
        by_cases gn : n < 0
        · skip
          have hm := main (s) (by unfold phead; simp only [h2, h3, h4, ifB_true, ifB_false])
          simp only [decide_eq_true gn, Bool.or_true, Bool.true_and, ifB_true] at hm
          rw [hm] at hl ⊢
          simp only [List.length_append, List.length_cons, List.length_nil] at hl
          have k0 := hwb c o bs 40 40 rfl ho (by omega)
          have k1 := hws true true (bs ++ [40]) (s) (fun _ => rfl) (by simp only [List.length_append, List.length_cons, List.length_nil]; omega)
          have k2 := loop [(29, [.ptr 0 0, .int .u8 41])] (bs ++ [40] ++ (s)) (by simp only [List.length_append, List.length_cons, List.length_nil]; omega)
          have k3 := hwd true true (bs ++ [40] ++ (s) ++ ptexts ks) 41 41 rfl (fun _ => rfl) (by simp only [List.length_append, List.length_cons, List.length_nil]; omega)
          have he : bs ++ ([40] ++ ((s) ++ ptexts ks) ++ [41]) = bs ++ [40] ++ (s) ++ ptexts ks ++ [41] := by simp only [List.append_assoc]
          rw [he]
          simp only [SB, E28, ifB_true, zeroI] at k0 k1 k2 k3
          simp only [a28, SB, sy0, sy1, sy2, sy3, sy4, sy5, clearEnv, adel, mem, initEnv, initSlots, stepOp, wantedA, evalOp, callOf, panicOf, evalV, addr, opd, opds, aget, aset, adel1, lkill, readCells, nth, Env.put, Env.putV, Env.box, Env.bare, dropOwn, dropOwnS, binD, binBD, binBool, binInt, binStr, unD, AOpd.drop, Cell.of, AOp.kind, sameKind, assertD, eqlB, isUndef, takeC, unownAt, fits, layCells, putCells, putD, fillD, partsOf, optLo, optHi, allSize, Option.getD_some, Option.getD_none, runDefers, readRes, readRes1, readRess, Nat.reduceAdd, Nat.reduceSub, Nat.reduceMul, Nat.reduceBEq, Bool.false_and, Bool.true_and, Bool.and_true, Bool.and_false, Nat.zero_add, Nat.add_zero, beq_self_eq_true, Bool.true_beq, Bool.false_beq, Bool.not_true, Bool.not_false, decide_true, decide_false, bindO, List.map_cons, List.map_nil, List.length_cons, List.length_nil, List.append_nil, List.nil_append, List.cons_append, List.isEmpty_nil, List.isEmpty_cons, Nat.reduceLeDiff, Int.reduceBEq, Int.reduceNeg, Nat.le_refl, List.length_map, Rl_29, h2, h3, h4, gk2, gn, k0, k1, k2, k3]
        · skip
          have hm := main (s) (by unfold phead; simp only [h2, h3, h4, ifB_true, ifB_false])
          simp only [decide_eq_false gk, decide_eq_false gn, Bool.or_self, Bool.and_false, ifB_false] at hm
          rw [hm] at hl ⊢
          simp only [List.length_append] at hl
          have k1 := hws c o bs (s) ho (by omega)
          have k2 := loop [] (bs ++ (s)) (by simp only [List.length_append]; omega)
          rw [← List.append_assoc]
          simp only [SB, E28, ifB_true, zeroI] at k1 k2
          simp only [a28, SB, sy0, sy1, sy2, sy3, sy4, sy5, clearEnv, adel, mem, initEnv, initSlots, stepOp, wantedA, evalOp, callOf, panicOf, evalV, addr, opd, opds, aget, aset, adel1, lkill, readCells, nth, Env.put, Env.putV, Env.box, Env.bare, dropOwn, dropOwnS, binD, binBD, binBool, binInt, binStr, unD, AOpd.drop, Cell.of, AOp.kind, sameKind, assertD, eqlB, isUndef, takeC, unownAt, fits, layCells, putCells, putD, fillD, partsOf, optLo, optHi, allSize, Option.getD_some, Option.getD_none, runDefers, readRes, readRes1, readRess, Nat.reduceAdd, Nat.reduceSub, Nat.reduceMul, Nat.reduceBEq, Bool.false_and, Bool.true_and, Bool.and_true, Bool.and_false, Nat.zero_add, Nat.add_zero, beq_self_eq_true, Bool.true_beq, Bool.false_beq, Bool.not_true, Bool.not_false, decide_true, decide_false, bindO, List.map_cons, List.map_nil, List.length_cons, List.length_nil, List.append_nil, List.nil_append, List.cons_append, List.isEmpty_nil, List.isEmpty_cons, Nat.reduceLeDiff, Int.reduceBEq, Int.reduceNeg, Nat.le_refl, List.length_map, h2, h3, h4, gk2, gn, k1, k2]
end Go.Proofs.YtdoppkjoemlhjaaDoor.Sh

/-
  A value's print: the program's function, at every store.
-/
namespace Go.Proofs.YtdoppkjoemlhjaaDoor.Sh
open Go Go.Mx
def pprint (v : V) : List UInt8 := ifB (told v 40) (ptext v false) []
theorem digF_ne : ∀ (k n : Nat) (acc : List UInt8), acc ≠ [] → digF k n acc ≠ []
  | 0, _, acc, h => h
  | k + 1, n, acc, _ => by
    rw [digF]
    cases decide (n < 10) with
    | true => simp [ifB_true]
    | false => rw [ifB_false]; exact digF_ne k _ _ (by simp)
theorem digN_ne (n : Nat) : digN n ≠ [] := by
  unfold digN
  rw [digF]
  cases decide (n < 10) with
  | true => simp [ifB_true]
  | false => rw [ifB_false]; exact digF_ne _ _ _ (by simp)
theorem itoaN_ne (n : Int) : itoaN n ≠ [] := by
  cases n with
  | ofNat m => exact digN_ne m
  | negSucc m => simp [itoaN]
theorem upperB_ne {s : List UInt8} (h : upperB s = true) : s ≠ [] := by
  intro e
  rw [e] at h
  simp [upperB] at h
theorem told_head (f n : Int) (s : List UInt8) (ks : List V) (d : Nat) (h : told (.mk f n s ks) d = true) : phead f n s ≠ [] := by
  rw [told] at h
  unfold phead
  cases h2 : f == 2 with
  | true => rw [ifB_true]; exact itoaN_ne n
  | false =>
    rw [ifB_false]
    cases h3 : f == 3 with
    | true => simp [ifB_true]
    | false =>
      rw [ifB_false]
      cases h4 : f == 4 with
      | true => simp [ifB_true]
      | false =>
        rw [ifB_false]
        rw [h2, h3, h4] at h
        simp only [ifB_false] at h
        cases h1 : f == 1 with
        | false => rw [h1] at h; cases h
        | true =>
          rw [h1] at h
          simp only [ifB_true, Bool.and_eq_true] at h
          exact upperB_ne h.1.1.2
theorem ptext_ne (v : V) (w : Bool) (d : Nat) (h : told v d = true) : ptext v w ≠ [] := by
  cases v with
  | mk f n s ks =>
    have := told_head f n s ks d h
    rw [ptext]
    cases (w && (decide (0 < ks.length) || decide (n < 0))) with
    | true => rw [ifB_true]; simp
    | false => rw [ifB_false]; simp [this]
def σ2 : Store := { objs := [], tys := [], iters := [], next := 2 }
set_option maxRecDepth 10000
theorem string_run (s : List UInt8) (h : s ≠ []) : Xu Xl 32 [.ptr 0 0] (SB true true s) = some (.ret ⟨false, .str s⟩, SB true false s) := by
  cases s with
  | nil => exact absurd rfl h
  | cons b r =>
    have hb := bytesOf_bytesD (b :: r)
    have hd : dlist kB (bytesD (b :: r)) = .list kB (bytesD (b :: r)) := rfl
    have he : (bytesD (b :: r)).isEmpty = false := rfl
    have hk : isByteRow kB = true := rfl
    have h49 : ((49 : Nat) == 49) = true := rfl
    show xString [.ptr 0 0] (SB true true (b :: r)) = _
    simp only [xString, SB, bindO, hd, he, hk, hb, h49, aget, aset, Nat.reduceBEq, Bool.and_self, Bool.not_false, ifB_true, ifB_false, caseO_some, Bool.and_true]
theorem print_run (v : V) (hf : FitN v) (hl : told v 40 = true → (ptext v false).length < 1000000000) : Evly fun n => TP n 12 [dV v] σ0 = some (.ret ⟨false, .str (pprint v)⟩, ifB (told v 40) σ2 σ0) := by
  refine ((told_run v hf.fit 40 (by omega)).and ((put_run v hf).and ((Evly.all (p := fun _ => True) fun _ => trivial).step (q := fun n => ∀ s, s ≠ [] → TP n 32 [.ptr 0 0] (SB true true s) = some (.ret ⟨false, .str s⟩, SB true false s)) 0 fun m _ _ s hs => by rw [TP_lib rfl]; exact string_run s hs))).step 0 fun m _ ⟨ht, hp, hs⟩ => ?_
  have ht : TP m 27 [dV v, .int .i64 40] σ0 = some (.ret ⟨false, .bool (told v 40)⟩, σ0) := ht σ0
  rw [TP_fun (af := a12) rfl rfl]
  unfold pprint
  cases htold : told v 40 with
  | false =>
    rw [htold] at ht
    rw [dV_eq] at ht ⊢
    simp only [σ0] at ht
    simp only [a12, σ0, sy0, sy1, sy2, sy3, sy4, sy5, clearEnv, adel, mem, initEnv, initSlots, stepOp, wantedA, evalOp, callOf, panicOf, evalV, addr, opd, opds, aget, aset, adel1, lkill, readCells, nth, Env.put, Env.putV, Env.box, Env.bare, dropOwn, dropOwnS, binD, binBD, binBool, binInt, binStr, unD, AOpd.drop, Cell.of, AOp.kind, sameKind, assertD, eqlB, isUndef, takeC, unownAt, fits, layCells, putCells, putD, fillD, partsOf, optLo, optHi, allSize, Option.getD_some, Option.getD_none, runDefers, readRes, readRes1, readRess, Nat.reduceAdd, Nat.reduceSub, Nat.reduceMul, Nat.reduceBEq, Bool.false_and, Bool.true_and, Bool.and_true, Bool.and_false, Nat.zero_add, Nat.add_zero, beq_self_eq_true, Bool.true_beq, Bool.false_beq, Bool.not_true, Bool.not_false, decide_true, decide_false, bindO, List.map_cons, List.map_nil, List.length_cons, List.length_nil, List.append_nil, List.nil_append, List.cons_append, List.isEmpty_nil, List.isEmpty_cons, Nat.reduceLeDiff, Int.reduceBEq, Int.reduceNeg, Nat.le_refl, ht]
    rfl
  | true =>
    rw [htold] at ht
    have hp := hp false false false [] (fun h => absurd rfl h) (by simpa using hl htold)
    have hs := hs (ptext v false) (ptext_ne v false 40 htold)
    rw [dV_eq] at ht hp ⊢
    simp only [σ0] at ht
    simp only [SB, bytesD, dlist_nil, ifB_false, ifB_true, List.nil_append] at hp hs
    simp only [a12, σ0, sy0, sy1, sy2, sy3, sy4, sy5, clearEnv, adel, mem, initEnv, initSlots, stepOp, wantedA, evalOp, callOf, panicOf, evalV, addr, opd, opds, aget, aset, adel1, lkill, readCells, nth, Env.put, Env.putV, Env.box, Env.bare, dropOwn, dropOwnS, binD, binBD, binBool, binInt, binStr, unD, AOpd.drop, Cell.of, AOp.kind, sameKind, assertD, eqlB, isUndef, takeC, unownAt, fits, layCells, putCells, putD, fillD, partsOf, optLo, optHi, allSize, Option.getD_some, Option.getD_none, runDefers, readRes, readRes1, readRess, Nat.reduceAdd, Nat.reduceSub, Nat.reduceMul, Nat.reduceBEq, Bool.false_and, Bool.true_and, Bool.and_true, Bool.and_false, Nat.zero_add, Nat.add_zero, beq_self_eq_true, Bool.true_beq, Bool.false_beq, Bool.not_true, Bool.not_false, decide_true, decide_false, bindO, List.map_cons, List.map_nil, List.length_cons, List.length_nil, List.append_nil, List.nil_append, List.cons_append, List.isEmpty_nil, List.isEmpty_cons, Nat.reduceLeDiff, Int.reduceBEq, Int.reduceNeg, Nat.le_refl, ht, hp, hs]
    rfl
theorem noPtrL_dVs : ∀ l : List V, (∀ v ∈ l, noPtr (dV v) = true) → noPtrL (l.map dV) = true
  | [], _ => rfl
  | v :: l, h => by
    simp only [List.map_cons, noPtrL, h v (List.mem_cons_self ..), Bool.true_and]
    exact noPtrL_dVs l fun x hx => h x (List.mem_cons_of_mem _ hx)
theorem noPtr_dV (v : V) (hf : Fit v) : noPtr (dV v) = true := by
  induction hf with
  | mk f n s ks h hk ih =>
    rw [dV_eq]
    have := noPtrL_dVs ks ih
    have h2 : noPtr (dlist kV (ks.map dV)) = true := by
      cases hks : ks.map dV with
      | nil => rfl
      | cons a l => rw [hks] at this; exact this
    simp only [noPtr, noPtrL, V.kids, h2, Bool.and_self]
theorem print_ok (v : V) (hf : FitN v) (hl : told v 40 = true → (ptext v false).length < 1000000000) (σ : Store) : CallOK Tryd.prog κ 12 [dV v] σ (.ret ⟨false, .str (pprint v)⟩) σ := by
  obtain ⟨n, hn⟩ := print_run v hf hl
  exact frame_rule (TP_sound n 12 [dV v] σ0 _ _ (hn n (Nat.le_refl _))) (by simp only [noPtrL, noPtr_dV v hf.fit, Bool.and_self]) rfl σ
end Go.Proofs.YtdoppkjoemlhjaaDoor.Sh

/-
  How much a value weighs: a bound on its lists, its nesting, its print.
-/
namespace Go.Proofs.YtdoppkjoemlhjaaDoor.Sh
open Go Go.Mx
mutual
def wt : V → Nat
  | .mk _ _ s ks => 30 + s.length + wts ks
def wts : List V → Nat
  | [] => 0
  | k :: r => wt k + wts r
end
theorem wt_mem : ∀ {l : List V} {k : V}, k ∈ l → wt k ≤ wts l
  | a :: l, k, h => by
    rw [wts]
    rcases List.mem_cons.1 h with e | h
    · rw [e]; omega
    · have := wt_mem h; omega
theorem wts_len : ∀ l : List V, l.length ≤ wts l
  | [] => Nat.le_refl _
  | a :: l => by
    cases a with
    | mk f n s ks =>
      rw [wts, wt]
      have := wts_len l
      simp only [List.length_cons]
      omega
theorem wts_append : ∀ l m : List V, wts (l ++ m) = wts l + wts m
  | [], m => by simp [wts]
  | a :: l, m => by simp only [List.cons_append, wts, wts_append l m]; omega
theorem wts_take_drop (l : List V) (i : Nat) : wts (l.take i) + wts (l.drop i) = wts l := by
  rw [← wts_append, List.take_append_drop]
mutual
theorem fit_wt : ∀ v : V, wt v < 1000000 → Fit v
  | .mk f n s ks, h => by
    rw [wt] at h
    have := wts_len ks
    exact .mk f n s ks (by omega) (fits_wt ks (by omega))
theorem fits_wt : ∀ l : List V, wts l < 1000000 → ∀ k ∈ l, Fit k
  | [], _, k, hk => by cases hk
  | a :: l, h, k, hk => by
    rw [wts] at h
    rcases List.mem_cons.1 hk with e | hk
    · rw [e]; exact fit_wt a (by omega)
    · exact fits_wt l (by omega) k hk
end
/-- All numbers are a machine's. -/
inductive Nums : V → Prop
  | mk (f n : Int) (s : List UInt8) (ks : List V) (hn : Small' n) (hk : ∀ k ∈ ks, Nums k) : Nums (.mk f n s ks)
theorem fitN_of {v : V} (h : Nums v) (hw : wt v < 1000000) : FitN v := by
  induction h with
  | mk f n s ks hn hk ih =>
    rw [wt] at hw
    have := wts_len ks
    exact .mk f n s ks (by omega) hn fun k hk' => ih k hk' (by have := wt_mem hk'; omega)
theorem digF_len : ∀ (k n : Nat) (acc : List UInt8), (digF k n acc).length ≤ k + acc.length
  | 0, _, acc => by simp [digF]
  | k + 1, n, acc => by
    rw [digF]
    cases decide (n < 10) with
    | true => simp only [ifB_true, List.length_cons]; omega
    | false =>
      have := digF_len k (n / 10) (UInt8.ofNat (48 + n % 10) :: acc)
      simp only [ifB_false, List.length_cons] at this ⊢
      omega
theorem itoaN_len (n : Int) : (itoaN n).length ≤ 21 := by
  cases n with
  | ofNat m => have := digF_len 20 m []; simp only [itoaN, digN, List.length_nil] at this ⊢; omega
  | negSucc m => have := digF_len 20 (m + 1) []; simp only [itoaN, digN, List.length_cons, List.length_nil] at this ⊢; omega
theorem phead_len (f n : Int) (s : List UInt8) : (phead f n s).length ≤ 21 + s.length := by
  unfold phead
  have := itoaN_len n
  cases f == 2 <;> cases f == 3 <;> cases f == 4 <;> simp only [ifB_true, ifB_false, List.length_cons, List.length_nil] <;> omega
mutual
theorem ptext_len : ∀ (v : V) (w : Bool), (ptext v w).length + 1 ≤ wt v
  | .mk f n s ks, w => by
    rw [ptext, wt]
    have h1 := phead_len f n s
    have h2 := ptexts_len ks
    cases (w && (decide (0 < ks.length) || decide (n < 0))) <;> simp only [ifB_true, ifB_false, List.length_append, List.length_cons, List.length_nil] <;> omega
theorem ptexts_len : ∀ l : List V, (ptexts l).length ≤ wts l
  | [] => Nat.le_refl _
  | k :: r => by
    rw [ptexts, wts]
    have h1 := ptext_len k true
    have h2 := ptexts_len r
    simp only [List.length_append, List.length_cons, List.length_nil]
    omega
end
end Go.Proofs.YtdoppkjoemlhjaaDoor.Sh

/-
  Prints, served from without.
-/
namespace Go.Proofs.YtdoppkjoemlhjaaDoor.Sh
open Go Go.Mx
theorem map_inj {l l' : List V} (h : ∀ v ∈ l, ∀ w, dV v = dV w → v = w) (e : l.map dV = l'.map dV) : l = l' := by
  induction l generalizing l' with
  | nil =>
    cases l' with
    | nil => rfl
    | cons b r => simp at e
  | cons a l ih =>
    cases l' with
    | nil => simp at e
    | cons b r =>
      simp only [List.map_cons, List.cons.injEq] at e
      rw [h a (List.mem_cons_self ..) b e.1, ih (fun v hv => h v (List.mem_cons_of_mem _ hv)) e.2]
theorem dlist_inj {k : RowK} {a b : List D} (h : dlist k a = dlist k b) : a = b := by
  cases a <;> cases b <;> simp_all [dlist]
theorem dV_inj (v : V) (hf : Fit v) : ∀ w, dV v = dV w → v = w := by
  induction hf with
  | mk f n s ks h hk ih =>
    intro w e
    cases w with
    | mk f' n' s' ks' =>
      rw [dV_eq, dV_eq] at e
      simp only [V.form, V.n, V.name, V.kids, D.agg.injEq, List.cons.injEq, D.int.injEq, D.str.injEq, true_and, and_true] at e
      obtain ⟨e1, e2, e3, e4⟩ := e
      rw [e1, e2, e3, map_inj ih (dlist_inj e4)]
/-- A value whose print is not too long. -/
def Printable (v : V) : Prop := FitN v ∧ (told v 40 = true → (ptext v false).length < 1000000000)
open Classical in
noncomputable def xPrint (ds : List D) : Option (List UInt8) := if h : ∃ v, Printable v ∧ ds = [dV v] then some (pprint (Classical.choose h)) else none
theorem xPrint_dV {v : V} (h : Printable v) : xPrint [dV v] = some (pprint v) := by
  have hx : ∃ w, Printable w ∧ [dV v] = [dV w] := ⟨v, h, rfl⟩
  unfold xPrint
  rw [dif_pos hx]
  have hs := Classical.choose_spec hx
  have : v = Classical.choose hx := dV_inj v h.1.fit _ (by simpa using hs.2)
  rw [← this]
theorem printable_of {v : V} (h : Nums v) (hw : wt v < 1000000) : Printable v :=
  ⟨fitN_of h hw, fun _ => by have := ptext_len v false; omega⟩
/-- Upper names and prints, served. -/
noncomputable def Xq : CallF := fun f ds σ => match f with
  | 12 => bindO (xPrint ds) fun s => some (.ret ⟨false, .str s⟩, σ)
  | f => Xu Xl f ds σ
theorem Xq_sound : CSound Tryd.prog κ Xq := by
  intro f ds σ out σ' h
  unfold Xq at h
  split at h
  · obtain ⟨s, h1, h2⟩ := bindO_some h
    cases h2
    unfold xPrint at h1
    split at h1
    · rename_i hx
      cases h1
      obtain ⟨k1, k2⟩ := Classical.choose_spec hx
      generalize Classical.choose hx = v at k1 k2
      rw [k2]
      exact print_ok v k1.1 k1.2 σ
    · cases h1
  · exact Xu_sound Xl_sound _ _ _ _ _ h
end Go.Proofs.YtdoppkjoemlhjaaDoor.Sh

