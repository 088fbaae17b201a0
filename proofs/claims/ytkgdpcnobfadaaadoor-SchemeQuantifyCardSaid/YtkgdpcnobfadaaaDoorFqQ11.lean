/-
  The program's Quantify, run: the names of the variables.
-/
import Derived.Test.YtkgdpcnobfadaaaDoorFqQ5
import Derived.Test.YtkgdpcnobfadaaaDoorFqQ7
set_option linter.unusedSimpArgs false
set_option linter.unusedVariables false
namespace Go.Fu
open Go Go.Mx
set_option maxRecDepth 10000
theorem same_bump (σ : Store) (k : Nat) : sameStore σ (bump σ k) = true := sameStore_refl σ
/-- A scheme as it is filled. -/
def xB (v p : D) : List Cell := [⟨false, v⟩, ⟨false, .nils⟩, ⟨false, p⟩, ⟨false, .int .i64 0⟩, ⟨false, .int .i64 0⟩, ⟨false, .str []⟩, ⟨false, .nils⟩]
def nmA (ms : List Nat) (i : Nat) : D := match i with
  | 0 => .nils
  | i + 1 => .arr k_string (2 * i + 2) 0 (i + 1)
def jkA (ms : List Nat) : Nat → Objs
  | 0 => [(1, xB .nils .nils), (0, [⟨false, dNs ms⟩])]
  | i + 1 => (1, xB (.arr k_string (2 * i + 2) 0 (i + 1)) .nils) :: jkA ms i
def tyA : Nat → List (Nat × Ty)
  | 0 => [(1, ⟨t_api_Scheme, 0⟩), (0, ⟨t_L_int, 0⟩)]
  | i + 1 => (2 * i + 2, ⟨k_string.el, k_string.sz⟩) :: tyA i
def stA (ms : List Nat) : Nat → Store
  | 0 => { objs := [(1, xB .nils .nils), (0, [⟨false, dNs ms⟩])], tys := [(1, ⟨t_api_Scheme, 0⟩), (0, ⟨t_L_int, 0⟩)], oth := [], next := 2 }
  | i + 1 => { objs := (1, xB (.arr k_string (2 * i + 2) 0 (i + 1)) .nils) :: (2 * i + 2, cellsOf (((ms.map tn).take (i + 1)).map D.str)) :: jkA ms i, tys := (2 * i + 2, ⟨k_string.el, k_string.sz⟩) :: tyA i, oth := [], next := 2 * i + 4 }
theorem jkA_adel (ms : List Nat) (n : Nat) (h : 2 ≤ n) : ∀ i, adel1 (jkA ms i) n = jkA ms i
  | 0 => by
    have h0 : ((0 : Nat) == n) = false := by simp; omega
    have h1 : ((1 : Nat) == n) = false := by simp; omega
    simp only [jkA, adel1, h0, h1, ifB]
  | i + 1 => by
    have h1 : ((1 : Nat) == n) = false := by simp; omega
    simp only [jkA, adel1, h1, ifB, jkA_adel ms n h i]
theorem jkA_one (ms : List Nat) : ∀ i, adel1 (jkA ms i) 1 = [(0, [⟨false, dNs ms⟩])]
  | 0 => rfl
  | i + 1 => by simp only [jkA, adel1, ifB, beq_self_eq_true, jkA_one ms i]
theorem jkA_zero (ms : List Nat) : ∀ i, aget (jkA ms i) 0 = some [⟨false, dNs ms⟩]
  | 0 => rfl
  | i + 1 => by
    have h1 : ((1 : Nat) == 0) = false := rfl
    simp only [jkA, aget, h1, ifB, jkA_zero ms i]
section
variable {C : CallF} {n : Nat}
def EA (ms : List Nat) (ps : List Pr) (t : Tp) (i : Nat) : Env := { slots := [(1, ⟨false, dPs ps⟩), (3, ⟨false, .ptr 0 0⟩), (7, ⟨false, .ptr 1 0⟩), (13, ⟨false, dNs ms⟩), (14, ⟨false, .int .i64 ms.length⟩), (15, ⟨false, .int .i64 i⟩)], locs := [(5, 5, 0), (6, 6, 0)], boxes := [(5, bT t), (6, xB .nils .nils)], defers := [] }
theorem lA_step0 (ms : List Nat) (ps : List Pr) (t : Tp) (h : 0 < ms.length) (hl : ms.length < 100) (hc : C n_strconv_Itoa [.int .i64 (ms[0] : Int)] (stA ms 0) = some (.ret ⟨false, .str [UInt8.ofNat (48 + ms[0])]⟩, stA ms 0)) : exec C n a_scheme_Quantify_l0 (EA ms ps t 0) (stA ms 0) = some (.normal, EA ms ps t 1, stA ms 1) := by
  have hi : ((0 : Int) < (ms.length : Int)) := by omega
  have hx : indexD 1 (dNs ms) 0 = some (.eptr (.int .i64 (ms[0] : Int))) := idx_N ms 0 h
  have w1 : IntKind.i64.wrap (0 + 1) = 1 := by decide
  have ha : ∀ σ, appendAD σ k_string 16 .nils [.str (tn ms[0])] = _ := fun σ => appendAD_nil (σ := σ) (k := k_string) (by_ := 16) (y := .str (tn ms[0])) rfl rfl (by decide)
  have hy : (((ms.map tn).take 1).map D.str) = [.str (tn ms[0])] := by
    cases ms with
    | nil => simp at h
    | cons a r => rfl
  simp only [tn, k_string_sz] at ha hy
  simp only [stA, xB, k_string_sz] at hc
  simp only [a_scheme_Quantify_l0, EA, stA, jkA, tyA, xB, bT, sy0, sy1, sy2, sy3, sy4, sy5, caseO_none, caseO_some, ifB_false, ifB_true, clearEnv, adel, mem, initEnv, initSlots, stepOp, wantedA, evalOp, callOf, panicOf, evalV, addr, opd, opds, aget, aset, adel1, lkill, lfree, readCells, nth, Env.put, Env.putV, Env.box, Env.bare, dropOwn, dropOwnS, binD, binBD, binBool, binInt, binStr, unD, mmD, AOpd.drop, Cell.of, AOp.kind, stableOf, sameKind, assertD, eqlB, isUndef, takeC, unownAt, fits, layCells, putCells, putD, fillD, partsOf, optLo, optHi, allSize, Option.getD_some, Option.getD_none, runDefers, readRes, readRes1, readRess, Nat.reduceAdd, Nat.reduceSub, Nat.reduceMul, Nat.reduceBEq, Nat.ble, Bool.false_and, Bool.true_and, Bool.and_true, Bool.and_false, Bool.or_true, Bool.true_or, Bool.or_false, Bool.false_or, Nat.zero_add, Nat.add_zero, beq_self_eq_true, Bool.true_beq, Bool.false_beq, Bool.not_true, Bool.not_false, decide_true, decide_false, bindO, List.map_cons, List.map_nil, List.length_cons, List.length_nil, List.append_nil, List.nil_append, List.cons_append, List.isEmpty_nil, List.isEmpty_cons, List.all_nil, List.all_cons, Nat.reduceLeDiff, Int.reduceBEq, Int.reduceBNe, Int.reduceLE, Int.reduceLT, Int.reduceGE, Int.reduceGT, Int.reduceNeg, Nat.le_refl, k_api_Type_sz, k_api_Type_ag, k_api_Type_same, k_api_Pred_sz, k_api_Pred_ag, k_api_Pred_same, k_string_sz, k_string_ag, k_string_same, k_int_sz, k_int_ag, k_int_same, k_api_Kind_sz, k_api_Kind_ag, k_api_Kind_same, nat1, nat2, nat3, nat4, nat5, nat6, nat7, nat8, idxL, zeroI, lit1, lit2, lit3, lit4, lit5, lit6, lit7, lit8, memE, memOp, listOf_list, hi, hx, hc, ha, hy, w1]
theorem lA_step1 (ms : List Nat) (ps : List Pr) (t : Tp) (i : Nat) (h : i + 1 < ms.length) (hl : ms.length < 100) (hc : C n_strconv_Itoa [.int .i64 (ms[i + 1] : Int)] (stA ms (i + 1)) = some (.ret ⟨false, .str [UInt8.ofNat (48 + ms[i + 1])]⟩, stA ms (i + 1))) : exec C n a_scheme_Quantify_l0 (EA ms ps t (i + 1)) (stA ms (i + 1)) = some (.normal, EA ms ps t (i + 2), stA ms (i + 2)) := by
  have hi : ((((i + 1 : Nat)) : Int) < (ms.length : Int)) := by omega
  have hx : indexD 1 (dNs ms) (i + 1) = some (.eptr (.int .i64 (ms[i + 1] : Int))) := idx_N ms (i + 1) h
  have w1 := wrap64_succ (i := i + 1) (by omega)
  have hlen : (((ms.map tn).take (i + 1)).map D.str).length = i + 1 := by simp; omega
  have h' : i + 1 < (ms.map tn).length := by simpa using h
  have hq : ((((ms.map tn).take (i + 1)).map D.str) ++ [D.str (tn ms[i + 1])]) = (((ms.map tn).take (i + 2)).map D.str) := by
    rw [← take_snoc _ _ h']
    simp
  have g0 : ((2 * i + 2 : Nat) == 0) = false := by simp
  have g1 : ((1 : Nat) == 2 * i + 2) = false := by simp
  have ha := appendAD_arr (σ := { objs := (1, xB (.arr k_string (2 * i + 2) 0 (i + 1)) .nils) :: (2 * i + 2, cellsOf (((ms.map tn).take (i + 1)).map D.str)) :: jkA ms i, tys := (2 * i + 2, ⟨k_string.el, k_string.sz⟩) :: tyA i, oth := [], next := 2 * i + 4 })
    (k := k_string) (by_ := 16) (id := 2 * i + 2) (ds := ((ms.map tn).take (i + 1)).map D.str) (y := .str (tn ms[i + 1])) (os := (1, xB (.arr k_string (2 * i + 2) 0 (i + 1)) .nils) :: jkA ms i)
    (by simp only [aget, g1, ifB_false, beq_self_eq_true, ifB_true]) (by simp only [aget, beq_self_eq_true, ifB_true]) (by simp only [adel1, g1, ifB_false, beq_self_eq_true, ifB_true, jkA_adel ms (2 * i + 2) (by omega) i])
    (fun d hd => by obtain ⟨x, _, rfl⟩ := List.mem_map.1 hd; rfl) rfl rfl (by rw [hlen]; simp [bound]; omega) (by rw [hlen]; simp [bound]; omega)
  rw [hq, hlen] at ha
  have g4 : ((2 * i + 4 : Nat) == 1) = false := by simp
  have g5 : Nat.ble 1 (2 * i + 4) = true := by rw [Nat.ble_eq]; omega
  have e2 : 2 * (i + 1) + 2 = 2 * i + 4 := by omega
  have e3 : 2 * (i + 1) + 4 = 2 * i + 4 + 2 := by omega
  simp only [tn, xB, k_string_sz] at ha
  simp only [stA, xB, k_string_sz] at hc
  simp only [a_scheme_Quantify_l0, EA, stA, jkA, tyA, xB, bT, sy0, sy1, sy2, sy3, sy4, sy5, caseO_none, caseO_some, ifB_false, ifB_true, clearEnv, adel, mem, initEnv, initSlots, stepOp, wantedA, evalOp, callOf, panicOf, evalV, addr, opd, opds, aget, aset, adel1, lkill, lfree, readCells, nth, Env.put, Env.putV, Env.box, Env.bare, dropOwn, dropOwnS, binD, binBD, binBool, binInt, binStr, unD, mmD, AOpd.drop, Cell.of, AOp.kind, stableOf, sameKind, assertD, eqlB, isUndef, takeC, unownAt, fits, layCells, putCells, putD, fillD, partsOf, optLo, optHi, allSize, Option.getD_some, Option.getD_none, runDefers, readRes, readRes1, readRess, Nat.reduceAdd, Nat.reduceSub, Nat.reduceMul, Nat.reduceBEq, Nat.ble, Bool.false_and, Bool.true_and, Bool.and_true, Bool.and_false, Bool.or_true, Bool.true_or, Bool.or_false, Bool.false_or, Nat.zero_add, Nat.add_zero, beq_self_eq_true, Bool.true_beq, Bool.false_beq, Bool.not_true, Bool.not_false, decide_true, decide_false, bindO, List.map_cons, List.map_nil, List.length_cons, List.length_nil, List.append_nil, List.nil_append, List.cons_append, List.isEmpty_nil, List.isEmpty_cons, List.all_nil, List.all_cons, Nat.reduceLeDiff, Int.reduceBEq, Int.reduceBNe, Int.reduceLE, Int.reduceLT, Int.reduceGE, Int.reduceGT, Int.reduceNeg, Nat.le_refl, k_api_Type_sz, k_api_Type_ag, k_api_Type_same, k_api_Pred_sz, k_api_Pred_ag, k_api_Pred_same, k_string_sz, k_string_ag, k_string_same, k_int_sz, k_int_ag, k_int_same, k_api_Kind_sz, k_api_Kind_ag, k_api_Kind_same, nat1, nat2, nat3, nat4, nat5, nat6, nat7, nat8, idxL, zeroI, lit1, lit2, lit3, lit4, lit5, lit6, lit7, lit8, memE, memOp, listOf_list, hi, hx, hc, ha, w1, g4, g5, e2, e3]
end
end Go.Fu

/-
  The program's Quantify, run: the predicates.
-/
namespace Go.Fu
open Go Go.Mx
set_option maxRecDepth 10000
theorem qf_run (ms : List Nat) (hl : ms.length < 100) (t : Tp) : Evly fun n => ∀ σ p, WF σ → aget σ.objs 0 = some [⟨false, dNs ms⟩] → aget σ.objs 1 = some (xB (dSs (ms.map tn)) p) →
    T n n_scheme_Quantify_1 [dT t, .ptr 0 0, .ptr 1 0] σ = some (.ret ⟨false, dT (varT ms t)⟩, bump σ (cnt t)) :=
  (svar_run ms hl t).step 4 fun m hm h σ p hw h0 h1 => by
  have hv := h σ hw
  rw [T_fun (af := a_scheme_Quantify_1) rfl rfl]
  rw [dT_eq t, dT_eq (varT ms t)] at hv
  rw [dT_eq t, dT_eq (varT ms t)]
  simp only [cT, bump, xB] at hv h1 ⊢
  simp only [a_scheme_Quantify_1, sy0, sy1, sy2, sy3, sy4, sy5, caseO_none, caseO_some, ifB_false, ifB_true, clearEnv, adel, mem, initEnv, initSlots, stepOp, wantedA, evalOp, callOf, panicOf, evalV, addr, opd, opds, aget, aset, adel1, lkill, lfree, readCells, nth, Env.put, Env.putV, Env.box, Env.bare, dropOwn, dropOwnS, binD, binBD, binBool, binInt, binStr, unD, mmD, AOpd.drop, Cell.of, AOp.kind, stableOf, sameKind, assertD, eqlB, isUndef, takeC, unownAt, fits, layCells, putCells, putD, fillD, partsOf, optLo, optHi, allSize, Option.getD_some, Option.getD_none, runDefers, readRes, readRes1, readRess, Nat.reduceAdd, Nat.reduceSub, Nat.reduceMul, Nat.reduceBEq, Nat.ble, Bool.false_and, Bool.true_and, Bool.and_true, Bool.and_false, Bool.or_true, Bool.true_or, Bool.or_false, Bool.false_or, Nat.zero_add, Nat.add_zero, beq_self_eq_true, Bool.true_beq, Bool.false_beq, Bool.not_true, Bool.not_false, decide_true, decide_false, bindO, List.map_cons, List.map_nil, List.length_cons, List.length_nil, List.append_nil, List.nil_append, List.cons_append, List.isEmpty_nil, List.isEmpty_cons, List.all_nil, List.all_cons, Nat.reduceLeDiff, Int.reduceBEq, Int.reduceBNe, Int.reduceLE, Int.reduceLT, Int.reduceGE, Int.reduceGT, Int.reduceNeg, Nat.le_refl, k_api_Type_sz, k_api_Type_ag, k_api_Type_same, k_api_Pred_sz, k_api_Pred_ag, k_api_Pred_same, k_string_sz, k_string_ag, k_string_same, k_int_sz, k_int_ag, k_int_same, k_api_Kind_sz, k_api_Kind_ag, k_api_Kind_same, nat1, nat2, nat3, nat4, nat5, nat6, nat7, nat8, idxL, zeroI, lit1, lit2, lit3, lit4, lit5, lit6, lit7, lit8, memE, memOp, h0, h1, hv]
def idB (N0 : Nat) (c : Nat → Nat) : Nat → Nat
  | 0 => N0 + c 0
  | i + 1 => idB N0 c i + 2 + c (i + 1)
theorem idB_le (N0 : Nat) (c : Nat → Nat) : ∀ i, N0 ≤ idB N0 c i
  | 0 => Nat.le_add_right _ _
  | i + 1 => by have := idB_le N0 c i; simp only [idB]; omega
def tyB (ty0 : List (Nat × Ty)) (N0 : Nat) (c : Nat → Nat) : Nat → List (Nat × Ty)
  | 0 => ty0
  | i + 1 => (idB N0 c i, ⟨k_api_Pred.el, k_api_Pred.sz⟩) :: tyB ty0 N0 c i
def jkB (v : D) (ms : List Nat) (N0 : Nat) (c : Nat → Nat) : Nat → Objs
  | 0 => [(0, [⟨false, dNs ms⟩]), (1, xB v .nils)]
  | i + 1 => (1, xB v (.arr k_api_Pred (idB N0 c i) 0 (i + 1))) :: jkB v ms N0 c i
def stB (v : D) (ms : List Nat) (ps : List Pr) (ty0 : List (Nat × Ty)) (N0 : Nat) (c : Nat → Nat) : Nat → Store
  | 0 => { objs := [(0, [⟨false, dNs ms⟩]), (1, xB v .nils)], tys := ty0, oth := [], next := N0 }
  | i + 1 => { objs := (1, xB v (.arr k_api_Pred (idB N0 c i) 0 (i + 1))) :: (idB N0 c i, cellsOf ((ps.take (i + 1)).map dP)) :: jkB v ms N0 c i, tys := (idB N0 c i, ⟨k_api_Pred.el, k_api_Pred.sz⟩) :: tyB ty0 N0 c i, oth := [], next := idB N0 c i + 2 }
theorem jkB_adel (v : D) (ms : List Nat) (N0 : Nat) (c : Nat → Nat) (n : Nat) (h : 2 ≤ n) : ∀ i, adel1 (jkB v ms N0 c i) n = jkB v ms N0 c i
  | 0 => by
    have h0 : ((0 : Nat) == n) = false := beq_false_of_ne (by omega)
    have h1 : ((1 : Nat) == n) = false := beq_false_of_ne (by omega)
    simp only [jkB, adel1, h0, h1, ifB]
  | i + 1 => by
    have h1 : ((1 : Nat) == n) = false := beq_false_of_ne (by omega)
    simp only [jkB, adel1, h1, ifB, jkB_adel v ms N0 c n h i]
theorem jkB_one (v : D) (ms : List Nat) (N0 : Nat) (c : Nat → Nat) : ∀ i, adel1 (jkB v ms N0 c i) 1 = [(0, [⟨false, dNs ms⟩])]
  | 0 => rfl
  | i + 1 => by simp only [jkB, adel1, ifB, beq_self_eq_true, jkB_one v ms N0 c i]
theorem jkB_zero (v : D) (ms : List Nat) (N0 : Nat) (c : Nat → Nat) : ∀ i, aget (jkB v ms N0 c i) 0 = some [⟨false, dNs ms⟩]
  | 0 => rfl
  | i + 1 => by
    have h1 : ((1 : Nat) == 0) = false := rfl
    simp only [jkB, aget, h1, ifB, jkB_zero v ms N0 c i]
theorem jkB_lt (v : D) (ms : List Nat) (N0 : Nat) (c : Nat → Nat) : ∀ i, ∀ p ∈ jkB v ms N0 c i, p.1 < 2
  | 0, p, h => by
    simp only [jkB, List.mem_cons, List.not_mem_nil, or_false] at h
    rcases h with rfl | rfl <;> simp only <;> omega
  | i + 1, p, h => by
    simp only [jkB, List.mem_cons] at h
    rcases h with rfl | h
    · simp only; omega
    · exact jkB_lt v ms N0 c i p h
theorem idB_mono (N0 : Nat) (c : Nat → Nat) (i : Nat) : idB N0 c i < idB N0 c (i + 1) := by
  simp only [idB]; omega
theorem tyB_lt (ty0 : List (Nat × Ty)) (N0 : Nat) (c : Nat → Nat) (h : ∀ p ∈ ty0, p.1 < N0) : ∀ i, ∀ p ∈ tyB ty0 N0 c i, p.1 < idB N0 c i
  | 0, p, hp => by have := h p hp; have := idB_le N0 c 0; omega
  | i + 1, p, hp => by
    simp only [tyB, List.mem_cons] at hp
    have := idB_mono N0 c i
    rcases hp with rfl | hp
    · exact this
    · have := tyB_lt ty0 N0 c h i p hp; omega
theorem wf_stB (v : D) (ms : List Nat) (ps : List Pr) (ty0 : List (Nat × Ty)) (N0 : Nat) (c : Nat → Nat) (hN : 2 ≤ N0) (h : ∀ p ∈ ty0, p.1 < N0) : ∀ i, WF (stB v ms ps ty0 N0 c i)
  | 0 => by
    refine ⟨fun p hp => ?_, fun p hp => h p hp, fun p hp => ?_⟩
    · have := jkB_lt v ms N0 c 0 p hp
      show p.1 < N0
      omega
    · simp [stB] at hp
  | i + 1 => by
    have hi := idB_le N0 c i
    refine ⟨fun p hp => ?_, fun p hp => ?_, fun p hp => ?_⟩
    · simp only [stB, List.mem_cons] at hp ⊢
      rcases hp with rfl | rfl | hp
      · simp only; omega
      · simp only; omega
      · have := jkB_lt v ms N0 c i p hp; omega
    · simp only [stB, List.mem_cons] at hp ⊢
      rcases hp with rfl | hp
      · simp only; omega
      · have := tyB_lt ty0 N0 c h i p hp; omega
    · simp [stB] at hp
theorem stB_one (v : D) (ms : List Nat) (ps : List Pr) (ty0 : List (Nat × Ty)) (N0 : Nat) (c : Nat → Nat) : ∀ i, ∃ p, aget (stB v ms ps ty0 N0 c i).objs 1 = some (xB v p)
  | 0 => ⟨.nils, rfl⟩
  | i + 1 => ⟨_, rfl⟩
theorem stB_zero (v : D) (ms : List Nat) (ps : List Pr) (ty0 : List (Nat × Ty)) (N0 : Nat) (c : Nat → Nat) (hN : 2 ≤ N0) : ∀ i, aget (stB v ms ps ty0 N0 c i).objs 0 = some [⟨false, dNs ms⟩]
  | 0 => rfl
  | i + 1 => by
    have hi := idB_le N0 c i
    have h1 : ((1 : Nat) == 0) = false := rfl
    have h2 : (idB N0 c i == 0) = false := beq_false_of_ne (by omega)
    simp only [stB, aget, h1, h2, ifB, jkB_zero]
section
variable {C : CallF} {n : Nat}
def EB (ps : List Pr) (t : Tp) (i : Nat) : Env := { slots := [(7, ⟨false, .ptr 1 0⟩), (10, ⟨false, .fn (.func n_scheme_Quantify_1) [] [.ptr 0 0, .ptr 1 0]⟩), (29, ⟨false, dPs ps⟩), (30, ⟨false, .int .i64 ps.length⟩), (31, ⟨false, .int .i64 i⟩)], locs := [(5, 5, 0), (6, 6, 0)], boxes := [(5, bT t), (6, xB .nils .nils)], defers := [] }
theorem lB_step0 (v : D) (ms : List Nat) (ps qs : List Pr) (t : Tp) (ty0 : List (Nat × Ty)) (N0 : Nat) (c : Nat → Nat) (hN : 2 ≤ N0) (h : 0 < ps.length) (hq : 0 < qs.length) (hl : ps.length < 100) (hcl : ps[0].cls = qs[0].cls)
    (hc : C n_scheme_Quantify_1 [dT ps[0].ty, .ptr 0 0, .ptr 1 0] (stB v ms qs ty0 N0 c 0) = some (.ret ⟨false, dT qs[0].ty⟩, bump (stB v ms qs ty0 N0 c 0) (c 0))) :
    exec C n a_scheme_Quantify_l1 (EB ps t 0) (stB v ms qs ty0 N0 c 0) = some (.normal, EB ps t 1, stB v ms qs ty0 N0 c 1) := by
  have hi : ((0 : Int) < (ps.length : Int)) := by omega
  have hx : indexD 5 (dPs ps) 0 = some (.eptr (dP ps[0])) := idx_P ps 0 h
  have w1 : IntKind.i64.wrap (0 + 1) = 1 := by decide
  have hs := same_bump (stB v ms qs ty0 N0 c 0) (c 0)
  have ha : ∀ σ, appendAD σ k_api_Pred 72 .nils [dP qs[0]] = _ := fun σ => appendAD_nil (σ := σ) (k := k_api_Pred) (by_ := 72) (y := dP qs[0]) (ok_dP _) (cells_dP _) (by decide)
  have hy : ((qs.take 1).map dP) = [dP qs[0]] := by
    cases qs with
    | nil => simp at hq
    | cons a r => rfl
  have g1 : (N0 + c 0 == 1) = false := beq_false_of_ne (by omega)
  have g2 : (N0 + c 0 == 0) = false := beq_false_of_ne (by omega)
  have g5 : Nat.ble 1 (N0 + c 0) = true := by rw [Nat.ble_eq]; omega
  rw [dT_eq, dT_eq] at hc
  simp only [dP, cT] at hx ha hy
  simp only [cT, stB, bump, xB] at hc hs
  simp only [a_scheme_Quantify_l1, EB, stB, jkB, tyB, idB, xB, bT, sy0, sy1, sy2, sy3, sy4, sy5, caseO_none, caseO_some, ifB_false, ifB_true, clearEnv, adel, mem, initEnv, initSlots, stepOp, wantedA, evalOp, callOf, panicOf, evalV, addr, opd, opds, aget, aset, adel1, lkill, lfree, readCells, nth, Env.put, Env.putV, Env.box, Env.bare, dropOwn, dropOwnS, binD, binBD, binBool, binInt, binStr, unD, mmD, AOpd.drop, Cell.of, AOp.kind, stableOf, sameKind, assertD, eqlB, isUndef, takeC, unownAt, fits, layCells, putCells, putD, fillD, partsOf, optLo, optHi, allSize, Option.getD_some, Option.getD_none, runDefers, readRes, readRes1, readRess, Nat.reduceAdd, Nat.reduceSub, Nat.reduceMul, Nat.reduceBEq, Nat.ble, Bool.false_and, Bool.true_and, Bool.and_true, Bool.and_false, Bool.or_true, Bool.true_or, Bool.or_false, Bool.false_or, Nat.zero_add, Nat.add_zero, beq_self_eq_true, Bool.true_beq, Bool.false_beq, Bool.not_true, Bool.not_false, decide_true, decide_false, bindO, List.map_cons, List.map_nil, List.length_cons, List.length_nil, List.append_nil, List.nil_append, List.cons_append, List.isEmpty_nil, List.isEmpty_cons, List.all_nil, List.all_cons, Nat.reduceLeDiff, Int.reduceBEq, Int.reduceBNe, Int.reduceLE, Int.reduceLT, Int.reduceGE, Int.reduceGT, Int.reduceNeg, Nat.le_refl, k_api_Type_sz, k_api_Type_ag, k_api_Type_same, k_api_Pred_sz, k_api_Pred_ag, k_api_Pred_same, k_string_sz, k_string_ag, k_string_same, k_int_sz, k_int_ag, k_int_same, k_api_Kind_sz, k_api_Kind_ag, k_api_Kind_same, nat1, nat2, nat3, nat4, nat5, nat6, nat7, nat8, idxL, zeroI, lit1, lit2, lit3, lit4, lit5, lit6, lit7, lit8, memE, memOp, listOf_list, callX_retW, Mx.part, hi, hx, hc, hs, ha, hy, hcl, w1, g1, g2, g5]
theorem lB_step1 (v : D) (ms : List Nat) (ps qs : List Pr) (t : Tp) (ty0 : List (Nat × Ty)) (N0 : Nat) (c : Nat → Nat) (i : Nat) (hN : 2 ≤ N0) (h : i + 1 < ps.length) (hq : i + 1 < qs.length) (hl : ps.length < 100) (hcl : ps[i + 1].cls = qs[i + 1].cls)
    (hc : C n_scheme_Quantify_1 [dT ps[i + 1].ty, .ptr 0 0, .ptr 1 0] (stB v ms qs ty0 N0 c (i + 1)) = some (.ret ⟨false, dT qs[i + 1].ty⟩, bump (stB v ms qs ty0 N0 c (i + 1)) (c (i + 1)))) :
    exec C n a_scheme_Quantify_l1 (EB ps t (i + 1)) (stB v ms qs ty0 N0 c (i + 1)) = some (.normal, EB ps t (i + 2), stB v ms qs ty0 N0 c (i + 2)) := by
  have hi : ((((i + 1 : Nat)) : Int) < (ps.length : Int)) := by omega
  have hx : indexD 5 (dPs ps) (i + 1) = some (.eptr (dP ps[i + 1])) := idx_P ps (i + 1) h
  have w1 := wrap64_succ (i := i + 1) (by omega)
  have hs := same_bump (stB v ms qs ty0 N0 c (i + 1)) (c (i + 1))
  have hlen : ((qs.take (i + 1)).map dP).length = i + 1 := by simp; omega
  have hql : i + 1 ≤ qs.length := by omega
  have hqq : ((qs.take (i + 1)).map dP ++ [dP qs[i + 1]]) = ((qs.take (i + 2)).map dP) := by
    have := take_snoc (qs.map dP) (i + 1) (by simpa using hq)
    rw [List.getElem_map] at this
    rw [List.map_take, List.map_take]
    exact this
  have hid := idB_le N0 c i
  have g1 : ((1 : Nat) == idB N0 c i) = false := beq_false_of_ne (by omega)
  have g2 : (idB N0 c i == 1) = false := beq_false_of_ne (by omega)
  have g3 : (idB N0 c i == 0) = false := beq_false_of_ne (by omega)
  have ha := fun hb => appendAD_arr (σ := { objs := (1, xB v (.arr k_api_Pred (idB N0 c i) 0 (i + 1))) :: (idB N0 c i, cellsOf ((qs.take (i + 1)).map dP)) :: jkB v ms N0 c i, tys := (idB N0 c i, ⟨k_api_Pred.el, k_api_Pred.sz⟩) :: tyB ty0 N0 c i, oth := [], next := idB N0 c i + 2 + c (i + 1) })
    (k := k_api_Pred) (by_ := 72) (id := idB N0 c i) (ds := (qs.take (i + 1)).map dP) (y := dP qs[i + 1]) (os := (1, xB v (.arr k_api_Pred (idB N0 c i) 0 (i + 1))) :: jkB v ms N0 c i)
    (by simp only [aget, g1, ifB_false, beq_self_eq_true, ifB_true]) (by simp only [aget, beq_self_eq_true, ifB_true]) (by simp only [adel1, g1, ifB_false, beq_self_eq_true, ifB_true, jkB_adel v ms N0 c (idB N0 c i) (by omega) i])
    (fun d hd => by obtain ⟨x, _, rfl⟩ := List.mem_map.1 hd; exact cells_dP _) (ok_dP _) (cells_dP _) hb (by rw [hlen]; simp [bound]; omega)
  have ha := ha (by rw [hlen]; simp [bound]; omega)
  rw [hqq, hlen] at ha
  have hb2 : idB N0 c (i + 1) = idB N0 c i + 2 + c (i + 1) := rfl
  have g4 : (idB N0 c i + 2 + c (i + 1) == 1) = false := beq_false_of_ne (by omega)
  have g6 : (idB N0 c i + 2 + c (i + 1) == 0) = false := beq_false_of_ne (by omega)
  have g5 : Nat.ble 1 (idB N0 c i + 2 + c (i + 1)) = true := by rw [Nat.ble_eq]; omega
  rw [dT_eq, dT_eq] at hc
  have hdp : dP qs[i + 1] = .agg (.str qs[i + 1].cls :: cT qs[i + 1].ty) := rfl
  rw [hdp] at ha
  simp only [dP, cT] at hx
  simp only [cT, xB, k_api_Pred_sz] at ha
  simp only [cT, stB, bump, xB, k_api_Pred_sz] at hc hs
  simp only [a_scheme_Quantify_l1, EB, stB, jkB, tyB, hb2, xB, bT, sy0, sy1, sy2, sy3, sy4, sy5, caseO_none, caseO_some, ifB_false, ifB_true, clearEnv, adel, mem, initEnv, initSlots, stepOp, wantedA, evalOp, callOf, panicOf, evalV, addr, opd, opds, aget, aset, adel1, lkill, lfree, readCells, nth, Env.put, Env.putV, Env.box, Env.bare, dropOwn, dropOwnS, binD, binBD, binBool, binInt, binStr, unD, mmD, AOpd.drop, Cell.of, AOp.kind, stableOf, sameKind, assertD, eqlB, isUndef, takeC, unownAt, fits, layCells, putCells, putD, fillD, partsOf, optLo, optHi, allSize, Option.getD_some, Option.getD_none, runDefers, readRes, readRes1, readRess, Nat.reduceAdd, Nat.reduceSub, Nat.reduceMul, Nat.reduceBEq, Nat.ble, Bool.false_and, Bool.true_and, Bool.and_true, Bool.and_false, Bool.or_true, Bool.true_or, Bool.or_false, Bool.false_or, Nat.zero_add, Nat.add_zero, beq_self_eq_true, Bool.true_beq, Bool.false_beq, Bool.not_true, Bool.not_false, decide_true, decide_false, bindO, List.map_cons, List.map_nil, List.length_cons, List.length_nil, List.append_nil, List.nil_append, List.cons_append, List.isEmpty_nil, List.isEmpty_cons, List.all_nil, List.all_cons, Nat.reduceLeDiff, Int.reduceBEq, Int.reduceBNe, Int.reduceLE, Int.reduceLT, Int.reduceGE, Int.reduceGT, Int.reduceNeg, Nat.le_refl, k_api_Type_sz, k_api_Type_ag, k_api_Type_same, k_api_Pred_sz, k_api_Pred_ag, k_api_Pred_same, k_string_sz, k_string_ag, k_string_same, k_int_sz, k_int_ag, k_int_same, k_api_Kind_sz, k_api_Kind_ag, k_api_Kind_same, nat1, nat2, nat3, nat4, nat5, nat6, nat7, nat8, idxL, zeroI, lit1, lit2, lit3, lit4, lit5, lit6, lit7, lit8, memE, memOp, listOf_list, callX_retW, Mx.part, hi, hx, hc, hs, ha, hcl, w1, g1, g2, g3, g4, g5, g6]
end
end Go.Fu

/-
  The program's Quantify, run.
-/
namespace Go.Fu
open Go Go.Mx
set_option maxRecDepth 10000
theorem freezeD_nils {n : Nat} {os : Objs} : freezeD (n + 1) .nils os = some (.nils, os) := rfl
theorem trunc0 (σ : Store) : σ.trunc 0 = { objs := [], tys := [], oth := [], next := σ.next } := by
  simp [Store.trunc]
theorem freezes_obj {e : Env} {σ : Store} {s id : Nat} {cs cs' : List Cell} {os' : Objs} (h0 : aget e.slots s = some ⟨false, .ptr id 0⟩) (h1 : aget σ.objs id = some cs) (h2 : freezeC cs (adel1 σ.objs id) = some (cs', os')) :
    freezes [.obj s] e σ = some (e, { objs := aset os' id cs', tys := σ.tys, oth := σ.oth, next := σ.next }) := by
  simp only [freezes, freeze1, h0, bindO, caseO_some, h1, h2]
theorem freezeC_nil {os : Objs} : freezeC [] os = some ([], os) := rfl
theorem freezeC_cons {c : Cell} {r : List Cell} {os : Objs} : freezeC (c :: r) os = bindO (freezeD 40 c.d os) fun x => bindO (freezeC r x.2) fun y => some (⟨c.keeps, x.1⟩ :: y.1, y.2) := rfl
theorem keeps_false {d : D} : Cell.keeps ⟨false, d⟩ = false := by
  unfold Cell.keeps
  split <;> rfl
theorem stA_tys (ms : List Nat) (i : Nat) : (stA ms i).tys = tyA i := by cases i <;> rfl
theorem stA_next (ms : List Nat) (i : Nat) : (stA ms i).next = 2 * i + 2 := by cases i <;> rfl
theorem stA_oth (ms : List Nat) (i : Nat) : (stA ms i).oth = [] := by cases i <;> rfl
theorem dlist_take_all (ms : List Nat) : (ms.map tn).take ms.length = ms.map tn := List.take_of_length_le (by simp)
theorem frz_A (ms : List Nat) (e : Env) (h : aget e.slots 7 = some ⟨false, .ptr 1 0⟩) : freezes [.obj 7] e (stA ms ms.length) = some (e, { objs := [(0, [⟨false, dNs ms⟩]), (1, xB (dSs (ms.map tn)) .nils)], tys := tyA ms.length, oth := [], next := 2 * ms.length + 2 }) := by
  have key : ∃ cs, aget (stA ms ms.length).objs 1 = some cs ∧ freezeC cs (adel1 (stA ms ms.length).objs 1) = some (xB (dSs (ms.map tn)) .nils, [(0, [⟨false, dNs ms⟩])]) := by
    have hall := dlist_take_all ms
    generalize hk : ms.length = k at *
    cases k with
    | zero =>
      have : ms = [] := List.length_eq_zero_iff.1 hk
      subst this
      exact ⟨_, rfl, rfl⟩
    | succ i =>
      refine ⟨_, rfl, ?_⟩
      have g0 : (0 == 2 * i + 2) = false := beq_false_of_ne (by omega)
      have g1 : (2 * i + 2 == 1) = false := beq_false_of_ne (by omega)
      have hd : adel1 (stA ms (i + 1)).objs 1 = [(2 * i + 2, cellsOf ((ms.map tn).map D.str)), (0, [⟨false, dNs ms⟩])] := by
        simp only [stA, adel1, g1, ifB, beq_self_eq_true, jkA_one, hall]
      rw [hd]
      have hr := freezeD_row (k := k_string) (id := 2 * i + 2) (n := 39) (ds := (ms.map tn).map D.str) (os := [(2 * i + 2, cellsOf ((ms.map tn).map D.str)), (0, [⟨false, dNs ms⟩])]) (os' := [(0, [⟨false, dNs ms⟩])])
        (by simp only [aget, beq_self_eq_true, ifB]) (by simp only [adel1, beq_self_eq_true, ifB, g0]) rfl (fun d hd => by obtain ⟨x, _, rfl⟩ := List.mem_map.1 hd; exact ⟨rfl, rfl⟩) (fun d hd => by obtain ⟨x, _, rfl⟩ := List.mem_map.1 hd; rfl)
      simp only [List.length_map, hk] at hr
      have hds : dSs (ms.map tn) = .list k_string ((ms.map tn).map D.str) := by
        cases ms with
        | nil => simp at hk
        | cons a r => rfl
      simp only [xB, freezeC_cons, freezeC_nil, hr, freezeD_nils, freezeD_int, freezeD_str, bindO, caseO_some, keeps_false, hds]
  obtain ⟨cs, h1, h2⟩ := key
  rw [freezes_obj h h1 h2, stA_tys, stA_next, stA_oth]
  rfl
def xT (v p : D) (u : Tp) : List Cell := ⟨false, v⟩ :: ⟨false, .nils⟩ :: ⟨false, p⟩ :: bT u
theorem stB_tys (v : D) (ms : List Nat) (ps : List Pr) (ty0 : List (Nat × Ty)) (N0 : Nat) (c : Nat → Nat) (i : Nat) : (stB v ms ps ty0 N0 c i).oth = [] := by cases i <;> rfl
/-- What stands for the predicates. -/
def prB (ps : List Pr) (N0 : Nat) (c : Nat → Nat) : Nat → D
  | 0 => .nils
  | i + 1 => .arr k_api_Pred (idB N0 c i) 0 (i + 1)
theorem stB_get (v : D) (ms : List Nat) (ps : List Pr) (ty0 : List (Nat × Ty)) (N0 : Nat) (c : Nat → Nat) (i : Nat) : aget (stB v ms ps ty0 N0 c i).objs 1 = some (xB v (prB ps N0 c i)) := by cases i <;> rfl
theorem frz_B (l : List (List UInt8)) (ms : List Nat) (ps : List Pr) (u : Tp) (ty0 : List (Nat × Ty)) (N0 : Nat) (c : Nat → Nat) (hN : 2 ≤ N0) (tys : List (Nat × Ty)) (nx : Nat) (e : Env) (h : aget e.slots 7 = some ⟨false, .ptr 1 0⟩) :
    freezes [.obj 7] e { objs := aset (stB (dSs l) ms ps ty0 N0 c ps.length).objs 1 (xT (dSs l) (prB ps N0 c ps.length) u), tys := tys, oth := [], next := nx } =
      some (e, { objs := [(0, [⟨false, dNs ms⟩]), (1, xT (dSs l) (dPs ps) u)], tys := tys, oth := [], next := nx }) := by
  have key : aget (aset (stB (dSs l) ms ps ty0 N0 c ps.length).objs 1 (xT (dSs l) (prB ps N0 c ps.length) u)) 1 = some (xT (dSs l) (prB ps N0 c ps.length) u) ∧
      freezeC (xT (dSs l) (prB ps N0 c ps.length) u) (adel1 (aset (stB (dSs l) ms ps ty0 N0 c ps.length).objs 1 (xT (dSs l) (prB ps N0 c ps.length) u)) 1) = some (xT (dSs l) (dPs ps) u, [(0, [⟨false, dNs ms⟩])]) := by
    have hall : ps.take ps.length = ps := List.take_of_length_le (by simp)
    generalize hk : ps.length = k at *
    cases k with
    | zero =>
      have : ps = [] := List.length_eq_zero_iff.1 hk
      subst this
      refine ⟨rfl, ?_⟩
      have hd : adel1 (aset (stB (dSs l) ms [] ty0 N0 c 0).objs 1 (xT (dSs l) (prB [] N0 c 0) u)) 1 = [(0, [⟨false, dNs ms⟩])] := rfl
      rw [hd]
      simp only [xT, bT, prB, dSs, dPs, List.map_nil, dlist_nil, freezeC_cons, freezeC_nil, freezeD_dlist, freezeD_nils, freezeD_int, freezeD_str, bindO, caseO_some, keeps_false]
    | succ i =>
      have hid := idB_le N0 c i
      have g0 : (0 == idB N0 c i) = false := beq_false_of_ne (by omega)
      have g1 : (idB N0 c i == 1) = false := beq_false_of_ne (by omega)
      refine ⟨rfl, ?_⟩
      have hd : adel1 (aset (stB (dSs l) ms ps ty0 N0 c (i + 1)).objs 1 (xT (dSs l) (prB ps N0 c (i + 1)) u)) 1 = [(idB N0 c i, cellsOf (ps.map dP)), (0, [⟨false, dNs ms⟩])] := by
        simp only [stB, aset, adel1, g1, ifB, beq_self_eq_true, jkB_one, hall]
      rw [hd]
      have hr := freezeD_row (k := k_api_Pred) (id := idB N0 c i) (n := 39) (ds := ps.map dP) (os := [(idB N0 c i, cellsOf (ps.map dP)), (0, [⟨false, dNs ms⟩])]) (os' := [(0, [⟨false, dNs ms⟩])])
        (by simp only [aget, beq_self_eq_true, ifB]) (by simp only [adel1, beq_self_eq_true, ifB, g0]) rfl (fun d hd => by obtain ⟨x, _, rfl⟩ := List.mem_map.1 hd; exact ⟨rfl, rfl⟩)
        (fun d hd => by
          obtain ⟨x, _, rfl⟩ := List.mem_map.1 hd
          simp only [dP, cT, freezeD_agg, freezeL, freezeD_str, freezeD_int, freezeD_dlist, bindO, caseO_some])
      simp only [List.length_map, hk] at hr
      have hds : dPs ps = .list k_api_Pred (ps.map dP) := by
        cases ps with
        | nil => simp at hk
        | cons a r => rfl
      have hl : dSs l = dlist k_string (l.map D.str) := rfl
      simp only [xT, bT, prB, hl, freezeC_cons, freezeC_nil, hr, freezeD_dlist, freezeD_nils, freezeD_int, freezeD_str, bindO, caseO_some, keeps_false, hds]
  rw [freezes_obj h key.1 key.2]
  rfl
theorem lA_end {C : CallF} {n : Nat} (ms : List Nat) (ps : List Pr) (t : Tp) (σ : Store) : exec C n a_scheme_Quantify_l0 (EA ms ps t ms.length) σ = some (.exit 0, { EA ms ps t ms.length with slots := [(1, ⟨false, dPs ps⟩), (3, ⟨false, .ptr 0 0⟩), (7, ⟨false, .ptr 1 0⟩), (13, ⟨false, dNs ms⟩), (14, ⟨false, .int .i64 ms.length⟩), (15, ⟨false, .int .i64 ms.length⟩), (16, ⟨false, .bool false⟩)] }, σ) := by
  have hi : ¬ ((ms.length : Int) < (ms.length : Int)) := by omega
  simp only [a_scheme_Quantify_l0, EA, xB, bT, sy0, sy1, sy2, sy3, sy4, sy5, caseO_none, caseO_some, ifB_false, ifB_true, clearEnv, adel, mem, initEnv, initSlots, stepOp, wantedA, evalOp, callOf, panicOf, evalV, addr, opd, opds, aget, aset, adel1, lkill, lfree, readCells, nth, Env.put, Env.putV, Env.box, Env.bare, dropOwn, dropOwnS, binD, binBD, binBool, binInt, binStr, unD, mmD, AOpd.drop, Cell.of, AOp.kind, stableOf, sameKind, assertD, eqlB, isUndef, takeC, unownAt, fits, layCells, putCells, putD, fillD, partsOf, optLo, optHi, allSize, Option.getD_some, Option.getD_none, runDefers, readRes, readRes1, readRess, Nat.reduceAdd, Nat.reduceSub, Nat.reduceMul, Nat.reduceBEq, Nat.ble, Bool.false_and, Bool.true_and, Bool.and_true, Bool.and_false, Bool.or_true, Bool.true_or, Bool.or_false, Bool.false_or, Nat.zero_add, Nat.add_zero, beq_self_eq_true, Bool.true_beq, Bool.false_beq, Bool.not_true, Bool.not_false, decide_true, decide_false, bindO, List.map_cons, List.map_nil, List.length_cons, List.length_nil, List.append_nil, List.nil_append, List.cons_append, List.isEmpty_nil, List.isEmpty_cons, List.all_nil, List.all_cons, Nat.reduceLeDiff, Int.reduceBEq, Int.reduceBNe, Int.reduceLE, Int.reduceLT, Int.reduceGE, Int.reduceGT, Int.reduceNeg, Nat.le_refl, k_api_Type_sz, k_api_Type_ag, k_api_Type_same, k_api_Pred_sz, k_api_Pred_ag, k_api_Pred_same, k_string_sz, k_string_ag, k_string_same, k_int_sz, k_int_ag, k_int_same, k_api_Kind_sz, k_api_Kind_ag, k_api_Kind_same, nat1, nat2, nat3, nat4, nat5, nat6, nat7, nat8, idxL, hi]
theorem lB_end {C : CallF} {n : Nat} (ps : List Pr) (t : Tp) (σ : Store) : exec C n a_scheme_Quantify_l1 (EB ps t ps.length) σ = some (.exit 2, { EB ps t ps.length with slots := [(7, ⟨false, .ptr 1 0⟩), (10, ⟨false, .fn (.func n_scheme_Quantify_1) [] [.ptr 0 0, .ptr 1 0]⟩), (29, ⟨false, dPs ps⟩), (30, ⟨false, .int .i64 ps.length⟩), (31, ⟨false, .int .i64 ps.length⟩), (32, ⟨false, .bool false⟩)] }, σ) := by
  have hi : ¬ ((ps.length : Int) < (ps.length : Int)) := by omega
  simp only [a_scheme_Quantify_l1, EB, xB, bT, sy0, sy1, sy2, sy3, sy4, sy5, caseO_none, caseO_some, ifB_false, ifB_true, clearEnv, adel, mem, initEnv, initSlots, stepOp, wantedA, evalOp, callOf, panicOf, evalV, addr, opd, opds, aget, aset, adel1, lkill, lfree, readCells, nth, Env.put, Env.putV, Env.box, Env.bare, dropOwn, dropOwnS, binD, binBD, binBool, binInt, binStr, unD, mmD, AOpd.drop, Cell.of, AOp.kind, stableOf, sameKind, assertD, eqlB, isUndef, takeC, unownAt, fits, layCells, putCells, putD, fillD, partsOf, optLo, optHi, allSize, Option.getD_some, Option.getD_none, runDefers, readRes, readRes1, readRess, Nat.reduceAdd, Nat.reduceSub, Nat.reduceMul, Nat.reduceBEq, Nat.ble, Bool.false_and, Bool.true_and, Bool.and_true, Bool.and_false, Bool.or_true, Bool.true_or, Bool.or_false, Bool.false_or, Nat.zero_add, Nat.add_zero, beq_self_eq_true, Bool.true_beq, Bool.false_beq, Bool.not_true, Bool.not_false, decide_true, decide_false, bindO, List.map_cons, List.map_nil, List.length_cons, List.length_nil, List.append_nil, List.nil_append, List.cons_append, List.isEmpty_nil, List.isEmpty_cons, List.all_nil, List.all_cons, Nat.reduceLeDiff, Int.reduceBEq, Int.reduceBNe, Int.reduceLE, Int.reduceLT, Int.reduceGE, Int.reduceGT, Int.reduceNeg, Nat.le_refl, k_api_Type_sz, k_api_Type_ag, k_api_Type_same, k_api_Pred_sz, k_api_Pred_ag, k_api_Pred_same, k_string_sz, k_string_ag, k_string_same, k_int_sz, k_int_ag, k_int_same, k_api_Kind_sz, k_api_Kind_ag, k_api_Kind_same, nat1, nat2, nat3, nat4, nat5, nat6, nat7, nat8, idxL, hi]
end Go.Fu

/-
  The program's Quantify is the document's.
-/
namespace Go.Fu
open Go Go.Mx
set_option maxRecDepth 10000
def cB (ps : List Pr) (i : Nat) : Nat := match ps[i]? with
  | some p => cnt p.ty
  | none => 0
theorem cB_get (ps : List Pr) (i : Nat) (h : i < ps.length) : cB ps i = cnt ps[i].ty := by
  unfold cB
  rw [List.getElem?_eq_getElem h]
/-- The store behind the predicates. -/
def stE (ms : List Nat) (ps : List Pr) : Store := stB (dSs (ms.map tn)) ms (ps.map (varP ms)) (tyA ms.length) (2 * ms.length + 2) (cB ps) ps.length
theorem tyA_lt : ∀ i, ∀ p ∈ tyA i, p.1 < 2 * i + 2
  | 0, p, h => by
    simp only [tyA, List.mem_cons, List.not_mem_nil, or_false] at h
    rcases h with rfl | rfl <;> simp only <;> omega
  | i + 1, p, h => by
    simp only [tyA, List.mem_cons] at h
    rcases h with rfl | h
    · simp only; omega
    · have := tyA_lt i p h; omega
theorem squant_run (ms : List Nat) (ps : List Pr) (t : Tp) (hms : ∀ m ∈ ms, m < 6) (hl : ms.length < 100) (hp : ps.length < 100) : Evly fun n => T n n_scheme_Quantify [dNs ms, dPs ps, dT t] σ0 = some (.ret ⟨false, .agg (dSs (ms.map tn) :: .nils :: dPs (ps.map (varP ms)) :: cT (varT ms t))⟩, bump σ0 ((stE ms ps).next + cnt t)) := by
  have hk : Evly fun n => ∀ i, i < ps.length → ∀ (h : i < ps.length) σ p, WF σ → aget σ.objs 0 = some [⟨false, dNs ms⟩] → aget σ.objs 1 = some (xB (dSs (ms.map tn)) p) → T n n_scheme_Quantify_1 [dT ps[i].ty, .ptr 0 0, .ptr 1 0] σ = some (.ret ⟨false, dT (varT ms ps[i].ty)⟩, bump σ (cnt ps[i].ty)) :=
    Evly.below _ fun i hi => (qf_run ms hl ps[i].ty).mono fun n h _ σ => h σ
  refine (itoa_run.and (hk.and (qf_run ms hl t))).step (ms.length + ps.length + 4) fun m hm h => ?_
  obtain ⟨h1, h2, h3⟩ := h
  have l0 := loopN_run (body := exec (T m) m a_scheme_Quantify_l0) (EA ms ps t) (stA ms) ms.length (r := _) (fun _ _ h => by cases h) (fun i hi => by
    cases i with
    | zero => exact lA_step0 ms ps t hi hl (h1 _ _ (hms _ (List.getElem_mem hi)))
    | succ i => exact lA_step1 ms ps t i hi hl (h1 _ _ (hms _ (List.getElem_mem hi)))) (lA_end ms ps t _) 0 m (by omega) (by omega)
  have hw := wf_stB (dSs (ms.map tn)) ms (ps.map (varP ms)) (tyA ms.length) (2 * ms.length + 2) (cB ps) (by omega) (tyA_lt ms.length)
  have hz := stB_zero (dSs (ms.map tn)) ms (ps.map (varP ms)) (tyA ms.length) (2 * ms.length + 2) (cB ps) (by omega)
  have ho := stB_get (dSs (ms.map tn)) ms (ps.map (varP ms)) (tyA ms.length) (2 * ms.length + 2) (cB ps)
  have l1 := loopN_run (body := exec (T m) m a_scheme_Quantify_l1) (EB ps t) (stB (dSs (ms.map tn)) ms (ps.map (varP ms)) (tyA ms.length) (2 * ms.length + 2) (cB ps)) ps.length (r := _) (fun _ _ h => by cases h) (fun i hi => by
    have hc := h2 i hi hi (stB (dSs (ms.map tn)) ms (ps.map (varP ms)) (tyA ms.length) (2 * ms.length + 2) (cB ps) i) _ (hw i) (hz i) (ho i)
    rw [← cB_get ps i hi] at hc
    cases i with
    | zero => exact lB_step0 _ ms ps (ps.map (varP ms)) t _ _ _ (by omega) hi (by simpa using hi) hp (by simp [varP]) (by simpa [varP] using hc)
    | succ i => exact lB_step1 _ ms ps (ps.map (varP ms)) t _ _ _ i (by omega) hi (by simpa using hi) hp (by simp [varP]) (by simpa [varP] using hc)) (lB_end ps t _) 0 m (by omega) (by omega)
  have h4 := h3 _ _ (hw ps.length) (hz ps.length) (ho ps.length)
  have fA := frz_A ms
  have fB := frz_B (ms.map tn) ms (ps.map (varP ms)) (varT ms t) (tyA ms.length) (2 * ms.length + 2) (cB ps) (by omega)
  have hg := ho ps.length
  have hoth := stB_tys (dSs (ms.map tn)) ms (ps.map (varP ms)) (tyA ms.length) (2 * ms.length + 2) (cB ps) ps.length
  have hn : (dNs ms).ok = true := by simp only [dNs]; exact ok_dlist
  have hc : (dNs ms).cells = [dNs ms] := by simp only [dNs]; exact cells_dlist
  have hln : lenOf (dNs ms) = some ms.length := by simp only [dNs, lenOf_dlist, List.length_map]
  have hlp : lenOf (dPs ps) = some ps.length := by simp only [dPs, lenOf_dlist, List.length_map]
  rw [List.length_map] at fB
  rw [T_fun (af := a_scheme_Quantify) rfl rfl]
  rw [dT_eq t, dT_eq (varT ms t)] at h4
  rw [dT_eq t]
  have hst : stE ms ps = stB (dSs (ms.map tn)) ms (ps.map (varP ms)) (tyA ms.length) (2 * ms.length + 2) (cB ps) ps.length := rfl
  rw [← hst] at l1 h4 fB hg hoth
  generalize stE ms ps = σ2 at *
  generalize stA ms ms.length = σ1 at l0 fA
  simp only [EA, EB, stA, stB, xB, bT, zeroI] at l0 l1
  simp only [cT] at h4 ⊢
  simp only [xB, xT, bT, bump] at fA fB hg h4
  simp only [a_scheme_Quantify, sy0, sy1, sy2, sy3, sy4, sy5, caseO_none, caseO_some, ifB_false, ifB_true, clearEnv, adel, mem, initEnv, initSlots, stepOp, wantedA, evalOp, callOf, panicOf, evalV, addr, opd, opds, aget, aset, adel1, lkill, lfree, readCells, nth, Env.put, Env.putV, Env.box, Env.bare, dropOwn, dropOwnS, binD, binBD, binBool, binInt, binStr, unD, mmD, AOpd.drop, Cell.of, AOp.kind, stableOf, sameKind, assertD, eqlB, isUndef, takeC, unownAt, fits, layCells, putCells, putD, fillD, partsOf, optLo, optHi, allSize, Option.getD_some, Option.getD_none, runDefers, readRes, readRes1, readRess, Nat.reduceAdd, Nat.reduceSub, Nat.reduceMul, Nat.reduceBEq, Nat.ble, Bool.false_and, Bool.true_and, Bool.and_true, Bool.and_false, Bool.or_true, Bool.true_or, Bool.or_false, Bool.false_or, Nat.zero_add, Nat.add_zero, beq_self_eq_true, Bool.true_beq, Bool.false_beq, Bool.not_true, Bool.not_false, decide_true, decide_false, bindO, List.map_cons, List.map_nil, List.length_cons, List.length_nil, List.append_nil, List.nil_append, List.cons_append, List.isEmpty_nil, List.isEmpty_cons, List.all_nil, List.all_cons, Nat.reduceLeDiff, Int.reduceBEq, Int.reduceBNe, Int.reduceLE, Int.reduceLT, Int.reduceGE, Int.reduceGT, Int.reduceNeg, Nat.le_refl, k_api_Type_sz, k_api_Type_ag, k_api_Type_same, k_api_Pred_sz, k_api_Pred_ag, k_api_Pred_same, k_string_sz, k_string_ag, k_string_same, k_int_sz, k_int_ag, k_int_same, k_api_Kind_sz, k_api_Kind_ag, k_api_Kind_same, nat1, nat2, nat3, nat4, nat5, nat6, nat7, nat8, idxL, zeroI, lit1, lit2, lit3, lit4, lit5, lit6, lit7, lit8, memE, memOp, exec_frz, hn, hc, hln, hlp, σ0, l0, fA, l1, h4, hg, hoth, fB, trunc0, bump]
end Go.Fu

