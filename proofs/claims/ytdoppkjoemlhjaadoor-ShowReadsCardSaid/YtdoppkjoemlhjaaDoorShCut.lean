/-
  Whether two values are the same, whether one tells less: the program's functions and the document's are one function.
-/
import Derived.Test.YtdoppkjoemlhjaaDoorShV
import Derived.Test.YtdoppkjoemlhjaaDoorShRun
set_option linter.unusedSimpArgs false
set_option linter.unusedVariables false
namespace Go.Proofs.YtdoppkjoemlhjaaDoor.Sh
open Go Go.Mx
mutual
/-- Are two the same, but where the first one is left out? -/
def pairB (out : V → Bool) : V → V → Bool
  | .mk f n s ks, b => out (.mk f n s ks) || (f == b.form && n == b.n && s == b.name && ks.length == b.kids.length && pairBs out ks b.kids)
def pairBs (out : V → Bool) : List V → List V → Bool
  | a :: xs, b :: ys => pairB out a b && pairBs out xs ys
  | _, _ => true
end
def none4 (_ : V) : Bool := false
def more4 (v : V) : Bool := v.form == 4
theorem pairBs_iff (out : V → Bool) : ∀ xs ys : List V, xs.length = ys.length → ((∀ i (h : i < xs.length) (h' : i < ys.length), pairB out xs[i] ys[i] = true) ↔ pairBs out xs ys = true)
  | [], [], _ => by simp [pairBs]
  | a :: xs, b :: ys, hl => by
    simp only [pairBs, Bool.and_eq_true]
    rw [← pairBs_iff out xs ys (by simpa using hl)]
    constructor
    · intro h
      exact ⟨h 0 (by simp) (by simp), fun i h1 h2 => h (i + 1) (by simpa using h1) (by simpa using h2)⟩
    · rintro ⟨h1, h2⟩ i k1 k2
      cases i with
      | zero => exact h1
      | succ i => exact h2 i (by simpa using k1) (by simpa using k2)
/-- Is the number's pair so? -/
def atB (out : V → Bool) (xs ys : List V) (i : Nat) : Bool := match xs[i]?, ys[i]? with
  | some a, some b => pairB out a b
  | _, _ => true
theorem atB_get (out : V → Bool) (xs ys : List V) (i : Nat) (h : i < xs.length) (h' : i < ys.length) : atB out xs ys i = pairB out xs[i] ys[i] := by
  simp [atB, h, h']
theorem pairBs_false {out : V → Bool} {xs ys : List V} {i : Nat} (h : i < xs.length) (h' : i < ys.length) (hl : xs.length = ys.length) (hp : atB out xs ys i = false) : pairBs out xs ys = false := by
  cases hx : pairBs out xs ys with
  | false => rfl
  | true =>
    rw [atB_get out xs ys i h h', (pairBs_iff out xs ys hl).2 hx i h h'] at hp
    cases hp
theorem pairBs_true {out : V → Bool} {xs ys : List V} (hl : xs.length = ys.length) (hp : ∀ i, 0 ≤ i → i < xs.length → atB out xs ys i = true) : pairBs out xs ys = true :=
  (pairBs_iff out xs ys hl).1 fun i h h' => by rw [← atB_get out xs ys i h h']; exact hp i (Nat.zero_le _) h
def bx (v : V) : List Cell := [⟨false, .int .i64 v.form⟩, ⟨false, .int .i64 v.n⟩, ⟨false, .str v.name⟩, ⟨false, dlist kV (v.kids.map dV)⟩]
set_option maxRecDepth 10000
section
variable {C : CallF} {n : Nat} {a b : V} {i : Nat} {σ : Store}
def E17 (a b : V) (i : Nat) : Env := { slots := [(5, ⟨false, .int .i64 i⟩)], locs := [(2, (2, 0)), (3, (3, 0))], boxes := [(2, bx a), (3, bx b)], defers := [] }
theorem l17_step (ha : i < a.kids.length) (hb : i < b.kids.length) (hl : a.kids.length < 1048576) (hc : C 17 [dV a.kids[i], dV b.kids[i]] σ = some (.ret ⟨false, .bool true⟩, σ)) : exec C n a17_l0 (E17 a b i) σ = some (.normal, E17 a b (i + 1), σ) := by
  have hi : ((i : Int) < (a.kids.length : Int)) := by omega
  simp only [a17_l0, E17, bx, sy0, sy1, sy2, sy3, sy4, sy5, clearEnv, adel, mem, initEnv, initSlots, stepOp, wantedA, evalOp, callOf, panicOf, evalV, addr, opd, opds, aget, aset, adel1, lkill, readCells, nth, Env.put, Env.putV, Env.box, Env.bare, dropOwn, dropOwnS, binD, binBD, binBool, binInt, binStr, unD, AOpd.drop, Cell.of, AOp.kind, sameKind, assertD, eqlB, isUndef, takeC, unownAt, fits, layCells, putCells, putD, fillD, partsOf, optLo, optHi, allSize, Option.getD_some, Option.getD_none, runDefers, readRes, readRes1, readRess, Nat.reduceAdd, Nat.reduceSub, Nat.reduceMul, Nat.reduceBEq, Bool.false_and, Bool.true_and, Bool.and_true, Bool.and_false, Nat.zero_add, Nat.add_zero, beq_self_eq_true, Bool.true_beq, Bool.false_beq, Bool.not_true, Bool.not_false, decide_true, decide_false, bindO, List.map_cons, List.map_nil, List.length_cons, List.length_nil, List.append_nil, List.nil_append, List.cons_append, List.isEmpty_nil, List.isEmpty_cons, Nat.reduceLeDiff, Int.reduceBEq, Int.reduceNeg, Nat.le_refl, List.length_map, kid_nth _ _ ha, kid_nth _ _ hb, kid_row _ _ ha, kid_row _ _ hb, agg?_dV, cells_dV, hi, wrap64_succ (i := i) (by omega), hc]
theorem l17_stop (ha : i < a.kids.length) (hb : i < b.kids.length) (hl : a.kids.length < 1048576) (hc : C 17 [dV a.kids[i], dV b.kids[i]] σ = some (.ret ⟨false, .bool false⟩, σ)) : exec C n a17_l0 (E17 a b i) σ = some (.ret, { slots := [(4, ⟨false, .bool false⟩)], locs := [], boxes := [], defers := [] }, σ) := by
  have hi : ((i : Int) < (a.kids.length : Int)) := by omega
  simp only [a17_l0, E17, bx, sy0, sy1, sy2, sy3, sy4, sy5, clearEnv, adel, mem, initEnv, initSlots, stepOp, wantedA, evalOp, callOf, panicOf, evalV, addr, opd, opds, aget, aset, adel1, lkill, readCells, nth, Env.put, Env.putV, Env.box, Env.bare, dropOwn, dropOwnS, binD, binBD, binBool, binInt, binStr, unD, AOpd.drop, Cell.of, AOp.kind, sameKind, assertD, eqlB, isUndef, takeC, unownAt, fits, layCells, putCells, putD, fillD, partsOf, optLo, optHi, allSize, Option.getD_some, Option.getD_none, runDefers, readRes, readRes1, readRess, Nat.reduceAdd, Nat.reduceSub, Nat.reduceMul, Nat.reduceBEq, Bool.false_and, Bool.true_and, Bool.and_true, Bool.and_false, Nat.zero_add, Nat.add_zero, beq_self_eq_true, Bool.true_beq, Bool.false_beq, Bool.not_true, Bool.not_false, decide_true, decide_false, bindO, List.map_cons, List.map_nil, List.length_cons, List.length_nil, List.append_nil, List.nil_append, List.cons_append, List.isEmpty_nil, List.isEmpty_cons, Nat.reduceLeDiff, Int.reduceBEq, Int.reduceNeg, Nat.le_refl, List.length_map, kid_nth _ _ ha, kid_nth _ _ hb, kid_row _ _ ha, kid_row _ _ hb, agg?_dV, cells_dV, hi, wrap64_succ (i := i) (by omega), hc]
theorem l17_end : exec C n a17_l0 (E17 a b a.kids.length) σ = some (.exit 0, { E17 a b a.kids.length with slots := [(5, ⟨false, .int .i64 a.kids.length⟩), (39, ⟨false, .bool false⟩)] }, σ) := by
  have hi : ¬ ((a.kids.length : Int) < (a.kids.length : Int)) := by omega
  simp only [a17_l0, E17, bx, sy0, sy1, sy2, sy3, sy4, sy5, clearEnv, adel, mem, initEnv, initSlots, stepOp, wantedA, evalOp, callOf, panicOf, evalV, addr, opd, opds, aget, aset, adel1, lkill, readCells, nth, Env.put, Env.putV, Env.box, Env.bare, dropOwn, dropOwnS, binD, binBD, binBool, binInt, binStr, unD, AOpd.drop, Cell.of, AOp.kind, sameKind, assertD, eqlB, isUndef, takeC, unownAt, fits, layCells, putCells, putD, fillD, partsOf, optLo, optHi, allSize, Option.getD_some, Option.getD_none, runDefers, readRes, readRes1, readRess, Nat.reduceAdd, Nat.reduceSub, Nat.reduceMul, Nat.reduceBEq, Bool.false_and, Bool.true_and, Bool.and_true, Bool.and_false, Nat.zero_add, Nat.add_zero, beq_self_eq_true, Bool.true_beq, Bool.false_beq, Bool.not_true, Bool.not_false, decide_true, decide_false, bindO, List.map_cons, List.map_nil, List.length_cons, List.length_nil, List.append_nil, List.nil_append, List.cons_append, List.isEmpty_nil, List.isEmpty_cons, Nat.reduceLeDiff, Int.reduceBEq, Int.reduceNeg, Nat.le_refl, List.length_map, hi]
end
theorem same_run (a : V) (hf : Fit a) : ∀ b, Evly fun n => ∀ σ, T n 17 [dV a, dV b] σ = some (.ret ⟨false, .bool (pairB none4 a b)⟩, σ) := by
  induction hf with
  | mk f n s ks hks hk ih =>
    intro b
    have hkids : Evly fun m => ∀ i, i < ks.length → ∀ (h : i < ks.length) (h' : i < b.kids.length) σ, T m 17 [dV ks[i], dV b.kids[i]] σ = some (.ret ⟨false, .bool (pairB none4 ks[i] b.kids[i])⟩, σ) :=
      Evly.below _ fun i hi => by
        by_cases h' : i < b.kids.length
        · exact (ih ks[i] (List.getElem_mem hi) b.kids[i]).mono fun n hn _ _ σ => hn σ
        · exact .all fun n _ k => absurd k h'
    refine hkids.step (ks.length + 1) fun m hm hrun σ => ?_
    rw [T_fun (af := a17) rfl rfl]
    have hva : ∀ f n s ks, dV (.mk f n s ks) = .agg [.int .i64 f, .int .i64 n, .str s, dlist kV (ks.map dV)] := fun f n s ks => dV_eq _
    rw [hva, dV_eq b]
    cases h1 : f == b.form with
    | false =>
      have g1 : (f != b.form) = true := by simp [bne, h1]
      simp only [pairB, none4, h1, Bool.false_and, Bool.or_self, a17, sy0, sy1, sy2, sy3, sy4, sy5, clearEnv, adel, mem, initEnv, initSlots, stepOp, wantedA, evalOp, callOf, panicOf, evalV, addr, opd, opds, aget, aset, adel1, lkill, readCells, nth, Env.put, Env.putV, Env.box, Env.bare, dropOwn, dropOwnS, binD, binBD, binBool, binInt, binStr, unD, AOpd.drop, Cell.of, AOp.kind, sameKind, assertD, eqlB, isUndef, takeC, unownAt, fits, layCells, putCells, putD, fillD, partsOf, optLo, optHi, allSize, Option.getD_some, Option.getD_none, runDefers, readRes, readRes1, readRess, Nat.reduceAdd, Nat.reduceSub, Nat.reduceMul, Nat.reduceBEq, Bool.false_and, Bool.true_and, Bool.and_true, Bool.and_false, Nat.zero_add, Nat.add_zero, beq_self_eq_true, Bool.true_beq, Bool.false_beq, Bool.not_true, Bool.not_false, decide_true, decide_false, bindO, List.map_cons, List.map_nil, List.length_cons, List.length_nil, List.append_nil, List.nil_append, List.cons_append, List.isEmpty_nil, List.isEmpty_cons, Nat.reduceLeDiff, Int.reduceBEq, Int.reduceNeg, Nat.le_refl, g1]
    | true =>
      have g1 : (f != b.form) = false := by simp [bne, h1]
      cases h2 : n == b.n with
      | false =>
        have g2 : (n != b.n) = true := by simp [bne, h2]
        simp only [pairB, none4, h1, h2, Bool.and_false, Bool.or_self, a17, sy0, sy1, sy2, sy3, sy4, sy5, clearEnv, adel, mem, initEnv, initSlots, stepOp, wantedA, evalOp, callOf, panicOf, evalV, addr, opd, opds, aget, aset, adel1, lkill, readCells, nth, Env.put, Env.putV, Env.box, Env.bare, dropOwn, dropOwnS, binD, binBD, binBool, binInt, binStr, unD, AOpd.drop, Cell.of, AOp.kind, sameKind, assertD, eqlB, isUndef, takeC, unownAt, fits, layCells, putCells, putD, fillD, partsOf, optLo, optHi, allSize, Option.getD_some, Option.getD_none, runDefers, readRes, readRes1, readRess, Nat.reduceAdd, Nat.reduceSub, Nat.reduceMul, Nat.reduceBEq, Bool.false_and, Bool.true_and, Bool.and_true, Bool.and_false, Nat.zero_add, Nat.add_zero, beq_self_eq_true, Bool.true_beq, Bool.false_beq, Bool.not_true, Bool.not_false, decide_true, decide_false, bindO, List.map_cons, List.map_nil, List.length_cons, List.length_nil, List.append_nil, List.nil_append, List.cons_append, List.isEmpty_nil, List.isEmpty_cons, Nat.reduceLeDiff, Int.reduceBEq, Int.reduceNeg, Nat.le_refl, g1, g2]
      | true =>
        have g2 : (n != b.n) = false := by simp [bne, h2]
        cases h3 : s == b.name with
        | false => simp only [pairB, none4, h1, h2, h3, Bool.and_false, Bool.or_self, a17, sy0, sy1, sy2, sy3, sy4, sy5, clearEnv, adel, mem, initEnv, initSlots, stepOp, wantedA, evalOp, callOf, panicOf, evalV, addr, opd, opds, aget, aset, adel1, lkill, readCells, nth, Env.put, Env.putV, Env.box, Env.bare, dropOwn, dropOwnS, binD, binBD, binBool, binInt, binStr, unD, AOpd.drop, Cell.of, AOp.kind, sameKind, assertD, eqlB, isUndef, takeC, unownAt, fits, layCells, putCells, putD, fillD, partsOf, optLo, optHi, allSize, Option.getD_some, Option.getD_none, runDefers, readRes, readRes1, readRess, Nat.reduceAdd, Nat.reduceSub, Nat.reduceMul, Nat.reduceBEq, Bool.false_and, Bool.true_and, Bool.and_true, Bool.and_false, Nat.zero_add, Nat.add_zero, beq_self_eq_true, Bool.true_beq, Bool.false_beq, Bool.not_true, Bool.not_false, decide_true, decide_false, bindO, List.map_cons, List.map_nil, List.length_cons, List.length_nil, List.append_nil, List.nil_append, List.cons_append, List.isEmpty_nil, List.isEmpty_cons, Nat.reduceLeDiff, Int.reduceBEq, Int.reduceNeg, Nat.le_refl, g1, g2]
        | true =>
          cases h4 : ks.length == b.kids.length with
          | false =>
            have g4 : (((ks.length : Nat) : Int) != ((b.kids.length : Nat) : Int)) = true := by
              simp at h4
              simp [bne]
              omega
            simp only [pairB, none4, h1, h2, h3, h4, Bool.and_false, Bool.or_self, a17, sy0, sy1, sy2, sy3, sy4, sy5, clearEnv, adel, mem, initEnv, initSlots, stepOp, wantedA, evalOp, callOf, panicOf, evalV, addr, opd, opds, aget, aset, adel1, lkill, readCells, nth, Env.put, Env.putV, Env.box, Env.bare, dropOwn, dropOwnS, binD, binBD, binBool, binInt, binStr, unD, AOpd.drop, Cell.of, AOp.kind, sameKind, assertD, eqlB, isUndef, takeC, unownAt, fits, layCells, putCells, putD, fillD, partsOf, optLo, optHi, allSize, Option.getD_some, Option.getD_none, runDefers, readRes, readRes1, readRess, Nat.reduceAdd, Nat.reduceSub, Nat.reduceMul, Nat.reduceBEq, Bool.false_and, Bool.true_and, Bool.and_true, Bool.and_false, Nat.zero_add, Nat.add_zero, beq_self_eq_true, Bool.true_beq, Bool.false_beq, Bool.not_true, Bool.not_false, decide_true, decide_false, bindO, List.map_cons, List.map_nil, List.length_cons, List.length_nil, List.append_nil, List.nil_append, List.cons_append, List.isEmpty_nil, List.isEmpty_cons, Nat.reduceLeDiff, Int.reduceBEq, Int.reduceNeg, Nat.le_refl, g1, g2, List.length_map, g4]
          | true =>
            have h4' : ks.length = b.kids.length := by simpa using h4
            have g4 : (((ks.length : Nat) : Int) != ((b.kids.length : Nat) : Int)) = false := by
              rw [h4']
              simp
            have hloop := loopN_until (body := exec (T m) m a17_l0) (E17 (.mk f n s ks) b) (fun _ => σ) ks.length (atB none4 ks b.kids) (stop := fun _ => (.ret, { slots := [(4, ⟨false, .bool false⟩)], locs := [], boxes := [], defers := [] }, σ)) (fun _ _ h => by cases h) (fun _ _ _ h => by cases h)
              (fun i hi hp => l17_step (a := .mk f n s ks) hi (by omega) hks (by
                rw [atB_get none4 ks b.kids i hi (by omega)] at hp
                have := hrun i hi hi (by omega) σ
                rw [hp] at this
                exact this))
              (fun i hi hp => l17_stop (a := .mk f n s ks) hi (by omega) hks (by
                rw [atB_get none4 ks b.kids i hi (by omega)] at hp
                have := hrun i hi hi (by omega) σ
                rw [hp] at this
                exact this))
              l17_end m 0 (by omega) (by omega)
            simp only [E17, bx, form_mk, n_mk, name_mk, kids_mk, zeroI] at hloop
            rcases hloop with ⟨i, _, hi, hp, _, hrest⟩ | ⟨hp, hrest⟩
            · have hv := pairBs_false hi (by omega) h4' hp
              simp only [pairB, none4, h1, h2, h3, h4, hv, Bool.and_false, Bool.or_self, a17, sy0, sy1, sy2, sy3, sy4, sy5, clearEnv, adel, mem, initEnv, initSlots, stepOp, wantedA, evalOp, callOf, panicOf, evalV, addr, opd, opds, aget, aset, adel1, lkill, readCells, nth, Env.put, Env.putV, Env.box, Env.bare, dropOwn, dropOwnS, binD, binBD, binBool, binInt, binStr, unD, AOpd.drop, Cell.of, AOp.kind, sameKind, assertD, eqlB, isUndef, takeC, unownAt, fits, layCells, putCells, putD, fillD, partsOf, optLo, optHi, allSize, Option.getD_some, Option.getD_none, runDefers, readRes, readRes1, readRess, Nat.reduceAdd, Nat.reduceSub, Nat.reduceMul, Nat.reduceBEq, Bool.false_and, Bool.true_and, Bool.and_true, Bool.and_false, Nat.zero_add, Nat.add_zero, beq_self_eq_true, Bool.true_beq, Bool.false_beq, Bool.not_true, Bool.not_false, decide_true, decide_false, bindO, List.map_cons, List.map_nil, List.length_cons, List.length_nil, List.append_nil, List.nil_append, List.cons_append, List.isEmpty_nil, List.isEmpty_cons, Nat.reduceLeDiff, Int.reduceBEq, Int.reduceNeg, Nat.le_refl, g1, g2, List.length_map, g4, hrest]
            · have hv := pairBs_true h4' hp
              simp only [pairB, none4, h1, h2, h3, h4, hv, Bool.and_self, Bool.or_true, a17, sy0, sy1, sy2, sy3, sy4, sy5, clearEnv, adel, mem, initEnv, initSlots, stepOp, wantedA, evalOp, callOf, panicOf, evalV, addr, opd, opds, aget, aset, adel1, lkill, readCells, nth, Env.put, Env.putV, Env.box, Env.bare, dropOwn, dropOwnS, binD, binBD, binBool, binInt, binStr, unD, AOpd.drop, Cell.of, AOp.kind, sameKind, assertD, eqlB, isUndef, takeC, unownAt, fits, layCells, putCells, putD, fillD, partsOf, optLo, optHi, allSize, Option.getD_some, Option.getD_none, runDefers, readRes, readRes1, readRess, Nat.reduceAdd, Nat.reduceSub, Nat.reduceMul, Nat.reduceBEq, Bool.false_and, Bool.true_and, Bool.and_true, Bool.and_false, Nat.zero_add, Nat.add_zero, beq_self_eq_true, Bool.true_beq, Bool.false_beq, Bool.not_true, Bool.not_false, decide_true, decide_false, bindO, List.map_cons, List.map_nil, List.length_cons, List.length_nil, List.append_nil, List.nil_append, List.cons_append, List.isEmpty_nil, List.isEmpty_cons, Nat.reduceLeDiff, Int.reduceBEq, Int.reduceNeg, Nat.le_refl, g1, g2, List.length_map, g4, hrest]
end Go.Proofs.YtdoppkjoemlhjaaDoor.Sh

/-
  What is cut: the document's function and the program's are one.
-/
namespace Go.Proofs.YtdoppkjoemlhjaaDoor.Sh
open Go Go.Mx
mutual
def cut : V → Int → V
  | .mk f n s ks, d => ifB (decide (d ≤ 0)) (.mk 4 0 [] []) (.mk f n s (cuts ks (d - 1)))
def cuts : List V → Int → List V
  | [], _ => []
  | k :: r, d => cut k d :: cuts r d
end
theorem cuts_eq (d : Int) : ∀ l : List V, cuts l d = l.map (fun k => cut k d)
  | [] => rfl
  | k :: r => by simp [cuts, cuts_eq d r]
set_option maxRecDepth 10000
section
variable {C : CallF} {n : Nat} {v : V} {d : Int} {i : Nat} {σ : Store} {out : List V}
def E20 (v : V) (d : Int) (out : List V) (i : Nat) : Env := { slots := [(1, ⟨false, .int .i64 d⟩), (6, ⟨false, .int .i64 i⟩)], locs := [(2, 2, 0), (4, 4, 0), (5, 5, 0)], boxes := [(2, bx v), (4, [⟨false, .int .i64 0⟩, ⟨false, .int .i64 0⟩, ⟨false, .str []⟩, ⟨false, .nils⟩]), (5, [⟨false, .int .i64 v.form⟩, ⟨false, .int .i64 v.n⟩, ⟨false, .str v.name⟩, ⟨ow i, dlist kV ((out.take i).map dV)⟩])], defers := [] }
theorem l20_step (h : i < v.kids.length) (ho : i < out.length) (hl : v.kids.length < 1048576) (hlo : out.length < 1048576) (hd : 0 < d) (hd2 : d ≤ 9223372036854775807) (hc : C 20 [dV v.kids[i], .int .i64 (d - 1)] σ = some (.ret ⟨false, dV out[i]⟩, σ)) : exec C n a20_l0 (E20 v d out i) σ = some (.normal, E20 v d out (i + 1), σ) := by
  have hi : ((i : Int) < (v.kids.length : Int)) := by omega
  rw [dV_eq v.kids[i]] at hc
  have ha := app_take out i ho hlo
  simp only [a20_l0, E20, bx, sy0, sy1, sy2, sy3, sy4, sy5, clearEnv, adel, mem, initEnv, initSlots, stepOp, wantedA, evalOp, callOf, panicOf, evalV, addr, opd, opds, aget, aset, adel1, lkill, readCells, nth, Env.put, Env.putV, Env.box, Env.bare, dropOwn, dropOwnS, binD, binBD, binBool, binInt, binStr, unD, AOpd.drop, Cell.of, AOp.kind, sameKind, assertD, eqlB, isUndef, takeC, unownAt, fits, layCells, putCells, putD, fillD, partsOf, optLo, optHi, allSize, Option.getD_some, Option.getD_none, runDefers, readRes, readRes1, readRess, Nat.reduceAdd, Nat.reduceSub, Nat.reduceMul, Nat.reduceBEq, Bool.false_and, Bool.true_and, Bool.and_true, Bool.and_false, Nat.zero_add, Nat.add_zero, beq_self_eq_true, Bool.true_beq, Bool.false_beq, Bool.not_true, Bool.not_false, decide_true, decide_false, bindO, List.map_cons, List.map_nil, List.length_cons, List.length_nil, List.append_nil, List.nil_append, List.cons_append, List.isEmpty_nil, List.isEmpty_cons, Nat.reduceLeDiff, Int.reduceBEq, Int.reduceNeg, Nat.le_refl, List.length_map, kid_nthx _ _ h, kid_row _ _ h, hi, wrap64_succ (i := i) (by omega), wrap64 (n := d - 1) (by omega) (by omega), hc, ok_dV, cells_dV, ha]
theorem l20_end : exec C n a20_l0 (E20 v d out v.kids.length) σ = some (.exit 0, { E20 v d out v.kids.length with slots := [(1, ⟨false, .int .i64 d⟩), (6, ⟨false, .int .i64 v.kids.length⟩), (21, ⟨false, .bool false⟩)] }, σ) := by
  have hi : ¬ ((v.kids.length : Int) < (v.kids.length : Int)) := by omega
  simp only [a20_l0, E20, bx, sy0, sy1, sy2, sy3, sy4, sy5, clearEnv, adel, mem, initEnv, initSlots, stepOp, wantedA, evalOp, callOf, panicOf, evalV, addr, opd, opds, aget, aset, adel1, lkill, readCells, nth, Env.put, Env.putV, Env.box, Env.bare, dropOwn, dropOwnS, binD, binBD, binBool, binInt, binStr, unD, AOpd.drop, Cell.of, AOp.kind, sameKind, assertD, eqlB, isUndef, takeC, unownAt, fits, layCells, putCells, putD, fillD, partsOf, optLo, optHi, allSize, Option.getD_some, Option.getD_none, runDefers, readRes, readRes1, readRess, Nat.reduceAdd, Nat.reduceSub, Nat.reduceMul, Nat.reduceBEq, Bool.false_and, Bool.true_and, Bool.and_true, Bool.and_false, Nat.zero_add, Nat.add_zero, beq_self_eq_true, Bool.true_beq, Bool.false_beq, Bool.not_true, Bool.not_false, decide_true, decide_false, bindO, List.map_cons, List.map_nil, List.length_cons, List.length_nil, List.append_nil, List.nil_append, List.cons_append, List.isEmpty_nil, List.isEmpty_cons, Nat.reduceLeDiff, Int.reduceBEq, Int.reduceNeg, Nat.le_refl, List.length_map, hi]
def E23 (v : V) (d : Int) (out : List V) (i : Nat) : Env := { slots := [(1, ⟨false, .int .i64 d⟩), (14, ⟨false, dlist kV (v.kids.map dV)⟩), (15, ⟨false, .int .i64 v.kids.length⟩), (16, ⟨false, .int .i64 i⟩)], locs := [(2, 2, 0), (4, 4, 0)], boxes := [(2, [⟨false, .int .i64 v.form⟩, ⟨false, .int .i64 v.n⟩, ⟨false, .str v.name⟩, ⟨ow i, dlist kV ((out.take i).map dV)⟩]), (4, [⟨false, .int .i64 0⟩, ⟨false, .int .i64 0⟩, ⟨false, .str []⟩, ⟨false, .nils⟩])], defers := [] }
theorem l23_step (h : i < v.kids.length) (ho : i < out.length) (hl : v.kids.length < 1048576) (hlo : out.length < 1048576) (hd : 0 < d) (hd2 : d ≤ 9223372036854775807) (hc : C 23 [dV v.kids[i], .int .i64 (d - 1)] σ = some (.ret ⟨false, dV out[i]⟩, σ)) : exec C n a23_l0 (E23 v d out i) σ = some (.normal, E23 v d out (i + 1), σ) := by
  have hi : ((i : Int) < (v.kids.length : Int)) := by omega
  rw [dV_eq v.kids[i]] at hc
  have ha := app_take out i ho hlo
  simp only [a23_l0, E23, bx, sy0, sy1, sy2, sy3, sy4, sy5, clearEnv, adel, mem, initEnv, initSlots, stepOp, wantedA, evalOp, callOf, panicOf, evalV, addr, opd, opds, aget, aset, adel1, lkill, readCells, nth, Env.put, Env.putV, Env.box, Env.bare, dropOwn, dropOwnS, binD, binBD, binBool, binInt, binStr, unD, AOpd.drop, Cell.of, AOp.kind, sameKind, assertD, eqlB, isUndef, takeC, unownAt, fits, layCells, putCells, putD, fillD, partsOf, optLo, optHi, allSize, Option.getD_some, Option.getD_none, runDefers, readRes, readRes1, readRess, Nat.reduceAdd, Nat.reduceSub, Nat.reduceMul, Nat.reduceBEq, Bool.false_and, Bool.true_and, Bool.and_true, Bool.and_false, Nat.zero_add, Nat.add_zero, beq_self_eq_true, Bool.true_beq, Bool.false_beq, Bool.not_true, Bool.not_false, decide_true, decide_false, bindO, List.map_cons, List.map_nil, List.length_cons, List.length_nil, List.append_nil, List.nil_append, List.cons_append, List.isEmpty_nil, List.isEmpty_cons, Nat.reduceLeDiff, Int.reduceBEq, Int.reduceNeg, Nat.le_refl, List.length_map, kid_nthx _ _ h, kid_row _ _ h, hi, wrap64_succ (i := i) (by omega), wrap64 (n := d - 1) (by omega) (by omega), hc, ok_dV, cells_dV, ha]
theorem l23_end : exec C n a23_l0 (E23 v d out v.kids.length) σ = some (.exit 0, { E23 v d out v.kids.length with slots := [(1, ⟨false, .int .i64 d⟩), (14, ⟨false, dlist kV (v.kids.map dV)⟩), (15, ⟨false, .int .i64 v.kids.length⟩), (16, ⟨false, .int .i64 v.kids.length⟩), (17, ⟨false, .bool false⟩)] }, σ) := by
  have hi : ¬ ((v.kids.length : Int) < (v.kids.length : Int)) := by omega
  simp only [a23_l0, E23, bx, sy0, sy1, sy2, sy3, sy4, sy5, clearEnv, adel, mem, initEnv, initSlots, stepOp, wantedA, evalOp, callOf, panicOf, evalV, addr, opd, opds, aget, aset, adel1, lkill, readCells, nth, Env.put, Env.putV, Env.box, Env.bare, dropOwn, dropOwnS, binD, binBD, binBool, binInt, binStr, unD, AOpd.drop, Cell.of, AOp.kind, sameKind, assertD, eqlB, isUndef, takeC, unownAt, fits, layCells, putCells, putD, fillD, partsOf, optLo, optHi, allSize, Option.getD_some, Option.getD_none, runDefers, readRes, readRes1, readRess, Nat.reduceAdd, Nat.reduceSub, Nat.reduceMul, Nat.reduceBEq, Bool.false_and, Bool.true_and, Bool.and_true, Bool.and_false, Nat.zero_add, Nat.add_zero, beq_self_eq_true, Bool.true_beq, Bool.false_beq, Bool.not_true, Bool.not_false, decide_true, decide_false, bindO, List.map_cons, List.map_nil, List.length_cons, List.length_nil, List.append_nil, List.nil_append, List.cons_append, List.isEmpty_nil, List.isEmpty_cons, Nat.reduceLeDiff, Int.reduceBEq, Int.reduceNeg, Nat.le_refl, List.length_map, hi]
end
theorem cut_run (v : V) (hf : Fit v) : ∀ d, d ≤ 9223372036854775807 → Evly fun n => ∀ σ, T n 20 [dV v, .int .i64 d] σ = some (.ret ⟨false, dV (cut v d)⟩, σ) := by
  induction hf with
  | mk f n s ks hks hk ih =>
    intro d hd
    have hkids : Evly fun m => ∀ i, i < ks.length → ∀ (h : i < ks.length) σ, T m 20 [dV ks[i], .int .i64 (d - 1)] σ = some (.ret ⟨false, dV (cut ks[i] (d - 1))⟩, σ) :=
      Evly.below _ fun i hi => (ih ks[i] (List.getElem_mem hi) (d - 1) (by omega)).mono fun n hn _ σ => hn σ
    refine hkids.step (ks.length + 1) fun m hm hrun σ => ?_
    rw [T_fun (af := a20) rfl rfl]
    have hva : ∀ f n s ks, dV (.mk f n s ks) = .agg [.int .i64 f, .int .i64 n, .str s, dlist kV (ks.map dV)] := fun f n s ks => dV_eq _
    rw [hva]
    by_cases h0 : d ≤ 0
    · simp only [cut, h0, a20, sy0, sy1, sy2, sy3, sy4, sy5, clearEnv, adel, mem, initEnv, initSlots, stepOp, wantedA, evalOp, callOf, panicOf, evalV, addr, opd, opds, aget, aset, adel1, lkill, readCells, nth, Env.put, Env.putV, Env.box, Env.bare, dropOwn, dropOwnS, binD, binBD, binBool, binInt, binStr, unD, AOpd.drop, Cell.of, AOp.kind, sameKind, assertD, eqlB, isUndef, takeC, unownAt, fits, layCells, putCells, putD, fillD, partsOf, optLo, optHi, allSize, Option.getD_some, Option.getD_none, runDefers, readRes, readRes1, readRess, Nat.reduceAdd, Nat.reduceSub, Nat.reduceMul, Nat.reduceBEq, Bool.false_and, Bool.true_and, Bool.and_true, Bool.and_false, Nat.zero_add, Nat.add_zero, beq_self_eq_true, Bool.true_beq, Bool.false_beq, Bool.not_true, Bool.not_false, decide_true, decide_false, bindO, List.map_cons, List.map_nil, List.length_cons, List.length_nil, List.append_nil, List.nil_append, List.cons_append, List.isEmpty_nil, List.isEmpty_cons, Nat.reduceLeDiff, Int.reduceBEq, Int.reduceNeg, Nat.le_refl, hva]
    · have hlen : (cuts ks (d - 1)).length = ks.length := by rw [cuts_eq]; simp
      have hloop := loopN_run (body := exec (T m) m a20_l0) (E20 (.mk f n s ks) d (cuts ks (d - 1))) (fun _ => σ) ks.length (r := _) (fun _ _ h => by cases h)
        (fun i hi => l20_step (v := .mk f n s ks) hi (by omega) hks (by omega) (by omega) hd (by
          have := hrun i hi hi σ
          simp only [cuts_eq, List.getElem_map]
          exact this)) l20_end 0 m (by omega) (by omega)
      have ht : List.take ks.length (cuts ks (d - 1)) = cuts ks (d - 1) := by rw [← hlen, List.take_length]
      simp only [E20, bx, form_mk, n_mk, name_mk, kids_mk, zeroI, ow, List.take_zero, List.map_nil, dlist_nil, ht] at hloop
      simp only [cut, h0, a20, sy0, sy1, sy2, sy3, sy4, sy5, clearEnv, adel, mem, initEnv, initSlots, stepOp, wantedA, evalOp, callOf, panicOf, evalV, addr, opd, opds, aget, aset, adel1, lkill, readCells, nth, Env.put, Env.putV, Env.box, Env.bare, dropOwn, dropOwnS, binD, binBD, binBool, binInt, binStr, unD, AOpd.drop, Cell.of, AOp.kind, sameKind, assertD, eqlB, isUndef, takeC, unownAt, fits, layCells, putCells, putD, fillD, partsOf, optLo, optHi, allSize, Option.getD_some, Option.getD_none, runDefers, readRes, readRes1, readRess, Nat.reduceAdd, Nat.reduceSub, Nat.reduceMul, Nat.reduceBEq, Bool.false_and, Bool.true_and, Bool.and_true, Bool.and_false, Nat.zero_add, Nat.add_zero, beq_self_eq_true, Bool.true_beq, Bool.false_beq, Bool.not_true, Bool.not_false, decide_true, decide_false, bindO, List.map_cons, List.map_nil, List.length_cons, List.length_nil, List.append_nil, List.nil_append, List.cons_append, List.isEmpty_nil, List.isEmpty_cons, Nat.reduceLeDiff, Int.reduceBEq, Int.reduceNeg, Nat.le_refl, hva, hloop, List.length_map]
theorem pcut_run (v : V) (hf : Fit v) : ∀ d, d ≤ 9223372036854775807 → Evly fun n => ∀ σ, T n 23 [dV v, .int .i64 d] σ = some (.ret ⟨false, dV (cut v d)⟩, σ) := by
  induction hf with
  | mk f n s ks hks hk ih =>
    intro d hd
    have hkids : Evly fun m => ∀ i, i < ks.length → ∀ (h : i < ks.length) σ, T m 23 [dV ks[i], .int .i64 (d - 1)] σ = some (.ret ⟨false, dV (cut ks[i] (d - 1))⟩, σ) :=
      Evly.below _ fun i hi => (ih ks[i] (List.getElem_mem hi) (d - 1) (by omega)).mono fun n hn _ σ => hn σ
    refine hkids.step (ks.length + 1) fun m hm hrun σ => ?_
    rw [T_fun (af := a23) rfl rfl]
    have hva : ∀ f n s ks, dV (.mk f n s ks) = .agg [.int .i64 f, .int .i64 n, .str s, dlist kV (ks.map dV)] := fun f n s ks => dV_eq _
    rw [hva]
    by_cases h0 : d ≤ 0
    · simp only [cut, h0, a23, sy0, sy1, sy2, sy3, sy4, sy5, clearEnv, adel, mem, initEnv, initSlots, stepOp, wantedA, evalOp, callOf, panicOf, evalV, addr, opd, opds, aget, aset, adel1, lkill, readCells, nth, Env.put, Env.putV, Env.box, Env.bare, dropOwn, dropOwnS, binD, binBD, binBool, binInt, binStr, unD, AOpd.drop, Cell.of, AOp.kind, sameKind, assertD, eqlB, isUndef, takeC, unownAt, fits, layCells, putCells, putD, fillD, partsOf, optLo, optHi, allSize, Option.getD_some, Option.getD_none, runDefers, readRes, readRes1, readRess, Nat.reduceAdd, Nat.reduceSub, Nat.reduceMul, Nat.reduceBEq, Bool.false_and, Bool.true_and, Bool.and_true, Bool.and_false, Nat.zero_add, Nat.add_zero, beq_self_eq_true, Bool.true_beq, Bool.false_beq, Bool.not_true, Bool.not_false, decide_true, decide_false, bindO, List.map_cons, List.map_nil, List.length_cons, List.length_nil, List.append_nil, List.nil_append, List.cons_append, List.isEmpty_nil, List.isEmpty_cons, Nat.reduceLeDiff, Int.reduceBEq, Int.reduceNeg, Nat.le_refl, hva]
    · have hlen : (cuts ks (d - 1)).length = ks.length := by rw [cuts_eq]; simp
      have hloop := loopN_run (body := exec (T m) m a23_l0) (E23 (.mk f n s ks) d (cuts ks (d - 1))) (fun _ => σ) ks.length (r := _) (fun _ _ h => by cases h)
        (fun i hi => l23_step (v := .mk f n s ks) hi (by omega) hks (by omega) (by omega) hd (by
          have := hrun i hi hi σ
          simp only [cuts_eq, List.getElem_map]
          exact this)) l23_end 0 m (by omega) (by omega)
      have ht : List.take ks.length (cuts ks (d - 1)) = cuts ks (d - 1) := by rw [← hlen, List.take_length]
      simp only [E23, bx, form_mk, n_mk, name_mk, kids_mk, zeroI, ow, List.take_zero, List.map_nil, dlist_nil, ht] at hloop
      simp only [cut, h0, a23, sy0, sy1, sy2, sy3, sy4, sy5, clearEnv, adel, mem, initEnv, initSlots, stepOp, wantedA, evalOp, callOf, panicOf, evalV, addr, opd, opds, aget, aset, adel1, lkill, readCells, nth, Env.put, Env.putV, Env.box, Env.bare, dropOwn, dropOwnS, binD, binBD, binBool, binInt, binStr, unD, AOpd.drop, Cell.of, AOp.kind, sameKind, assertD, eqlB, isUndef, takeC, unownAt, fits, layCells, putCells, putD, fillD, partsOf, optLo, optHi, allSize, Option.getD_some, Option.getD_none, runDefers, readRes, readRes1, readRess, Nat.reduceAdd, Nat.reduceSub, Nat.reduceMul, Nat.reduceBEq, Bool.false_and, Bool.true_and, Bool.and_true, Bool.and_false, Nat.zero_add, Nat.add_zero, beq_self_eq_true, Bool.true_beq, Bool.false_beq, Bool.not_true, Bool.not_false, decide_true, decide_false, bindO, List.map_cons, List.map_nil, List.length_cons, List.length_nil, List.append_nil, List.nil_append, List.cons_append, List.isEmpty_nil, List.isEmpty_cons, Nat.reduceLeDiff, Int.reduceBEq, Int.reduceNeg, Nat.le_refl, hva, hloop, List.length_map]
theorem fit_cut (v : V) (hf : Fit v) : ∀ d, Fit (cut v d) := by
  induction hf with
  | mk f n s ks hks hk ih =>
    intro d
    rw [cut]
    by_cases h0 : d ≤ 0
    · rw [decide_eq_true h0, ifB_true]
      exact .mk _ _ _ _ (by simp) (fun k h => by cases h)
    · rw [decide_eq_false h0, ifB_false]
      refine .mk _ _ _ _ (by rw [cuts_eq]; simpa using hks) fun k h => ?_
      rw [cuts_eq] at h
      obtain ⟨x, hx, rfl⟩ := List.mem_map.1 h
      exact ih x hx _
end Go.Proofs.YtdoppkjoemlhjaaDoor.Sh

