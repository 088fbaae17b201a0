/-
  Values made of numbers: one step.
-/
import Derived.Test.YtdoppkjoemlhjaaDoorShCut
set_option linter.unusedSimpArgs false
set_option linter.unusedVariables false
namespace Go.Proofs.YtdoppkjoemlhjaaDoor.Sh
open Go Go.Mx
abbrev kI : RowK := ⟨5, 1⟩
def dI (x : Int) : D := .int .i64 x
/-- Is it the numbers' row? -/
def ListD (d : D) (xs : List Int) : Prop := lenOf d = some xs.length ∧ (xs ≠ [] → d.row? = some (kI, xs.map dI))
def nameOf : Nat → List UInt8
  | 0 => [78, 105, 108]
  | 1 => [67, 111, 110, 115]
  | 2 => [84, 114, 117, 101]
  | 3 => [90, 39]
  | 4 => [65, 95, 49]
  | _ => [80, 97, 105, 114]
def posOf (x : Int) : Int := if x < 0 then -(x + 1) else x
def stepBy (done : List V) (x : Int) (m8 mn q : Nat) : List V :=
  match m8 with
  | 0 => done ++ [.mk 3 0 [] []]
  | 1 => done ++ [.mk 4 0 [] []]
  | 2 => done ++ [.mk 2 (x.tdiv 8) [] []]
  | 3 => done ++ [.mk 2 (x.tdiv 8) [] []]
  | _ => done.take (done.length - min mn done.length) ++ [.mk 1 0 (nameOf q) (done.drop (done.length - min mn done.length))]
def madeStep (done : List V) (x : Int) : List V := stepBy done x (posOf x % 8).toNat (posOf x / 8 % 4).toNat (posOf x / 32 % 6).toNat
def madeL (xs : List Int) (i : Nat) : List V := (xs.take i).foldl madeStep [.mk 4 0 [] []]
def made (xs : List Int) : V := (madeL xs (min xs.length 60)).getLastD (.mk 4 0 [] [])
def Small (x : Int) : Prop := -9223372036854775808 ≤ x ∧ x ≤ 9223372036854775807
theorem madeStep_len (done : List V) (x : Int) (h : done ≠ []) : madeStep done x ≠ [] ∧ (madeStep done x).length ≤ done.length + 1 := by
  unfold madeStep stepBy
  split <;> simp <;> omega
theorem madeL_len (xs : List Int) : ∀ i, madeL xs i ≠ [] ∧ (madeL xs i).length ≤ i + 1
  | 0 => by simp [madeL]
  | i + 1 => by
    obtain ⟨h1, h2⟩ := madeL_len xs i
    unfold madeL at h1 h2 ⊢
    rw [List.take_add_one]
    cases hx : xs[i]? with
    | none => simp only [Option.toList, List.append_nil]; exact ⟨h1, by omega⟩
    | some x =>
      simp only [Option.toList, List.foldl_append, List.foldl_cons, List.foldl_nil]
      have := madeStep_len _ x h1
      exact ⟨this.1, by omega⟩
theorem madeL_succ (xs : List Int) (i : Nat) (h : i < xs.length) : madeL xs (i + 1) = madeStep (madeL xs i) xs[i] := by
  unfold madeL
  rw [List.take_add_one, List.getElem?_eq_getElem h]
  simp only [Option.toList, List.foldl_append, List.foldl_cons, List.foldl_nil]
theorem fit_step (done : List V) (x : Int) (hl : done.length < 1048576) (h : ∀ v ∈ done, Fit v) : ∀ v ∈ madeStep done x, Fit v := by
  have leaf : ∀ f n, Fit (.mk f n [] []) := fun f n => .mk _ _ _ _ (by simp) (fun k h => by cases h)
  unfold madeStep stepBy
  intro v hv
  split at hv
  all_goals
    rw [List.mem_append] at hv
    rcases hv with hv | hv
  · exact h v hv
  · rw [List.mem_singleton.1 hv]; exact leaf _ _
  · exact h v hv
  · rw [List.mem_singleton.1 hv]; exact leaf _ _
  · exact h v hv
  · rw [List.mem_singleton.1 hv]; exact leaf _ _
  · exact h v hv
  · rw [List.mem_singleton.1 hv]; exact leaf _ _
  · exact h v (List.mem_of_mem_take hv)
  · rw [List.mem_singleton.1 hv]
    exact .mk _ _ _ _ (by simp; omega) (fun k hk => h k (List.mem_of_mem_drop hk))
theorem fit_madeL (xs : List Int) : ∀ i, i ≤ 60 → ∀ v ∈ madeL xs i, Fit v
  | 0, _ => by
    intro v hv
    simp [madeL] at hv
    rw [hv]
    exact .mk _ _ _ _ (by simp) (fun k h => by cases h)
  | i + 1, hi => by
    have ih := fit_madeL xs i (by omega)
    by_cases h : i < xs.length
    · rw [madeL_succ xs i h]
      exact fit_step _ _ (by have := (madeL_len xs i).2; omega) ih
    · have : madeL xs (i + 1) = madeL xs i := by
        unfold madeL
        rw [List.take_of_length_le (by omega), List.take_of_length_le (by omega)]
      rw [this]
      exact ih
theorem getLastD_mem {α : Type} : ∀ (l : List α) (a : α), l ≠ [] → l.getLastD a ∈ l
  | [], _, h => absurd rfl h
  | [x], a, _ => by simp
  | x :: y :: l, a, _ => by
    have := getLastD_mem (y :: l) x (by simp)
    rw [List.getLastD_cons]
    exact List.mem_cons_of_mem _ this
theorem small_tdiv {x : Int} (h : Small x) : Small (x.tdiv 8) := by
  unfold Small at *
  by_cases h0 : 0 ≤ x
  · rw [Int.tdiv_eq_ediv_of_nonneg h0]
    omega
  · obtain ⟨y, rfl⟩ : ∃ y, x = -y := ⟨-x, by omega⟩
    rw [Int.neg_tdiv, Int.tdiv_eq_ediv_of_nonneg (by omega)]
    omega
theorem fit_made (xs : List Int) : Fit (made xs) := by
  unfold made
  have h := fit_madeL xs (min xs.length 60) (by omega)
  exact h _ (getLastD_mem _ _ (madeL_len _ _).1)
theorem append_nils {ys : List D} {y : D} (hyy : asList y = some ys) (hy : ∀ d ∈ ys, d.ok = true ∧ d.cells.length = 4) (h : ys.length < 1048576) {o : Bool} : appendD kV 56 ⟨o, .nils⟩ y = some ⟨true, dlist kV ys⟩ := by
  have := append_more (r := kV) (by_ := 56) (es := []) (ys := ys) (o := o) (fun h => absurd rfl h) hy (by simp [bound]; omega) (by simp [bound]; omega) hyy
  simpa [dlist_nil] using this
theorem all_dV (l : List V) : ∀ d ∈ l.map dV, d.ok = true ∧ d.cells.length = 4 := by
  intro d hd
  obtain ⟨v, _, rfl⟩ := List.mem_map.1 hd
  exact ⟨ok_dV v, cells_dV v⟩
theorem append_V (l : List V) (v : V) (hl : l.length < 1048576) : appendD kV 56 ⟨true, dlist kV (l.map dV)⟩ (.list kV [dV v]) = some ⟨true, dlist kV ((l ++ [v]).map dV)⟩ := by
  rw [append_one (fun _ => rfl) (ok_dV _) (cells_dV _) (by simp [bound]; omega) (by simp [bound]; omega)]
  simp
theorem slice_from {es : List D} {lo : Nat} (h : es ≠ []) (hlo : lo ≤ es.length) : sliceD 4 (dlist kV es) lo none = some (.list kV (es.drop lo)) := by
  cases es with
  | nil => exact absurd rfl h
  | cons x l =>
    simp only [dlist, sliceD, Option.getD_none, decide_eq_true hlo, decide_eq_true (Nat.le_refl _), beq_self_eq_true, Bool.and_self, ifB_true]
    rw [List.take_of_length_le (by simp)]
theorem slice_to {es : List D} {hi : Nat} (h : es ≠ []) (hhi : hi ≤ es.length) : sliceD 4 (dlist kV es) 0 (some hi) = some (.list kV (es.take hi)) := by
  cases es with
  | nil => exact absurd rfl h
  | cons x l =>
    simp only [dlist, sliceD, Option.getD_some, decide_eq_true hhi, decide_eq_true (Nat.zero_le _), beq_self_eq_true, Bool.and_self, ifB_true, List.drop_zero, Nat.sub_zero]
set_option maxRecDepth 10000
theorem name_run : Evly fun n => ∀ q, q < 6 → ∀ σ, T n 26 [.int .i64 ((q : Nat) : Int)] σ = some (.ret ⟨false, .str (nameOf q)⟩, σ) := (Evly.all (p := fun _ => True) fun _ => trivial).step 0 fun m _ _ q hq σ => by
  rw [T_fun (af := a26) rfl rfl]
  have hn : nth [D.str [78, 105, 108], .str [67, 111, 110, 115], .str [84, 114, 117, 101], .str [90, 39], .str [65, 95, 49], .str [80, 97, 105, 114]] q = some (.str (nameOf q)) := by
    rcases q with _ | _ | _ | _ | _ | _ | q <;> first | rfl | omega
  simp only [a26, sy0, sy1, sy2, sy3, sy4, sy5, clearEnv, adel, mem, initEnv, initSlots, stepOp, wantedA, evalOp, callOf, panicOf, evalV, addr, opd, opds, aget, aset, adel1, lkill, readCells, nth, Env.put, Env.putV, Env.box, Env.bare, dropOwn, dropOwnS, binD, binBD, binBool, binInt, binStr, unD, AOpd.drop, Cell.of, AOp.kind, sameKind, assertD, eqlB, isUndef, takeC, unownAt, fits, layCells, putCells, putD, fillD, partsOf, optLo, optHi, allSize, Option.getD_some, Option.getD_none, runDefers, readRes, readRes1, readRess, Nat.reduceAdd, Nat.reduceSub, Nat.reduceMul, Nat.reduceBEq, Bool.false_and, Bool.true_and, Bool.and_true, Bool.and_false, Nat.zero_add, Nat.add_zero, beq_self_eq_true, Bool.true_beq, Bool.false_beq, Bool.not_true, Bool.not_false, decide_true, decide_false, bindO, List.map_cons, List.map_nil, List.length_cons, List.length_nil, List.append_nil, List.nil_append, List.cons_append, List.isEmpty_nil, List.isEmpty_cons, Nat.reduceLeDiff, Int.reduceBEq, Int.reduceNeg, Nat.le_refl, hn]
section
variable {C : CallF} {n : Nat} {σ : Store}
def E10 (d : D) (done : List V) (i : Nat) : Env := { slots := [(0, ⟨false, d⟩), (3, ⟨true, dlist kV (done.map dV)⟩), (4, ⟨false, .int .i64 i⟩)], locs := [(2, 2, 0)], boxes := [(2, [⟨false, .int .i64 0⟩, ⟨false, .int .i64 0⟩, ⟨false, .str []⟩, ⟨false, .nils⟩])], defers := [] }
theorem l10_end (d : D) (xs : List Int) (done : List V) (hd : ListD d xs) (i : Nat) (hi : i = min xs.length 60) : exec C n a10_l0 (E10 d done i) σ = some (.exit 0, { E10 d done i with slots := (E10 d done i).slots ++ [(18, ⟨false, .bool false⟩)] }, σ) := by
  by_cases h : i < xs.length
  · have h1 : ((i : Int) < (xs.length : Int)) := by omega
    have h2 : ¬ ((i : Int) < 60) := by omega
    simp only [a10_l0, E10, sy0, sy1, sy2, sy3, sy4, sy5, clearEnv, adel, mem, initEnv, initSlots, stepOp, wantedA, evalOp, callOf, panicOf, evalV, addr, opd, opds, aget, aset, adel1, lkill, readCells, nth, Env.put, Env.putV, Env.box, Env.bare, dropOwn, dropOwnS, binD, binBD, binBool, binInt, binStr, unD, AOpd.drop, Cell.of, AOp.kind, sameKind, assertD, eqlB, isUndef, takeC, unownAt, fits, layCells, putCells, putD, fillD, partsOf, optLo, optHi, allSize, Option.getD_some, Option.getD_none, runDefers, readRes, readRes1, readRess, Nat.reduceAdd, Nat.reduceSub, Nat.reduceMul, Nat.reduceBEq, Bool.false_and, Bool.true_and, Bool.and_true, Bool.and_false, Nat.zero_add, Nat.add_zero, beq_self_eq_true, Bool.true_beq, Bool.false_beq, Bool.not_true, Bool.not_false, decide_true, decide_false, bindO, List.map_cons, List.map_nil, List.length_cons, List.length_nil, List.append_nil, List.nil_append, List.cons_append, List.isEmpty_nil, List.isEmpty_cons, Nat.reduceLeDiff, Int.reduceBEq, Int.reduceNeg, Nat.le_refl, hd.1, h1, h2]
  · have h1 : ¬ ((i : Int) < (xs.length : Int)) := by omega
    simp only [a10_l0, E10, sy0, sy1, sy2, sy3, sy4, sy5, clearEnv, adel, mem, initEnv, initSlots, stepOp, wantedA, evalOp, callOf, panicOf, evalV, addr, opd, opds, aget, aset, adel1, lkill, readCells, nth, Env.put, Env.putV, Env.box, Env.bare, dropOwn, dropOwnS, binD, binBD, binBool, binInt, binStr, unD, AOpd.drop, Cell.of, AOp.kind, sameKind, assertD, eqlB, isUndef, takeC, unownAt, fits, layCells, putCells, putD, fillD, partsOf, optLo, optHi, allSize, Option.getD_some, Option.getD_none, runDefers, readRes, readRes1, readRess, Nat.reduceAdd, Nat.reduceSub, Nat.reduceMul, Nat.reduceBEq, Bool.false_and, Bool.true_and, Bool.and_true, Bool.and_false, Nat.zero_add, Nat.add_zero, beq_self_eq_true, Bool.true_beq, Bool.false_beq, Bool.not_true, Bool.not_false, decide_true, decide_false, bindO, List.map_cons, List.map_nil, List.length_cons, List.length_nil, List.append_nil, List.nil_append, List.cons_append, List.isEmpty_nil, List.isEmpty_cons, Nat.reduceLeDiff, Int.reduceBEq, Int.reduceNeg, Nat.le_refl, hd.1, h1]
set_option maxHeartbeats 4000000 in
theorem l10_step (d : D) (xs : List Int) (done : List V) (hd : ListD d xs) (i : Nat) (hi : i < xs.length) (hi2 : i < 60) (hx : Small xs[i]) (hdn : done ≠ []) (hlen : done.length < 1000)
    (hname : ∀ q, q < 6 → C 26 [.int .i64 ((q : Nat) : Int)] σ = some (.ret ⟨false, .str (nameOf q)⟩, σ)) : exec C n a10_l0 (E10 d done i) σ = some (.normal, E10 d (madeStep done xs[i]) (i + 1), σ) := by
  have hne : xs ≠ [] := by intro e; rw [e] at hi; simp at hi
  have hrow := hd.2 hne
  have hnth : nth (xs.map dI) i = some (.int .i64 xs[i]) := by rw [nth_map, nth_get _ _ hi]; rfl
  have h1 : ((i : Int) < (xs.length : Int)) := by omega
  have h2 : ((i : Int) < 60) := by omega
  have hw := wrap64_succ (i := i) (by omega)
  generalize xs[i] = x at *
  obtain ⟨hx1, hx2⟩ := hx
  have hp0 : 0 ≤ posOf x := by unfold posOf; split <;> omega
  have hp1 : posOf x ≤ 9223372036854775807 := by unfold posOf; split <;> omega
  obtain ⟨m8, hm8⟩ : ∃ m8 : Nat, posOf x % 8 = (m8 : Int) := ⟨(posOf x % 8).toNat, by omega⟩
  obtain ⟨mn, hmn⟩ : ∃ mn : Nat, posOf x / 8 % 4 = (mn : Int) := ⟨(posOf x / 8 % 4).toNat, by omega⟩
  obtain ⟨q, hq⟩ : ∃ q : Nat, posOf x / 32 % 6 = (q : Int) := ⟨(posOf x / 32 % 6).toNat, by omega⟩
  have t8 : (posOf x).tmod 8 = (m8 : Int) := by rw [Int.tmod_eq_emod_of_nonneg hp0]; exact hm8
  have td : IntKind.i64.wrap ((posOf x).tdiv 8) = posOf x / 8 := by rw [Int.tdiv_eq_ediv_of_nonneg hp0]; exact wrap64 (by omega) (by omega)
  have tmn : (posOf x / 8).tmod 4 = (mn : Int) := by rw [Int.tmod_eq_emod_of_nonneg (by omega)]; exact hmn
  have td32 : IntKind.i64.wrap ((posOf x).tdiv 32) = posOf x / 32 := by rw [Int.tdiv_eq_ediv_of_nonneg hp0]; exact wrap64 (by omega) (by omega)
  have tq : (posOf x / 32).tmod 6 = (q : Int) := by rw [Int.tmod_eq_emod_of_nonneg (by omega)]; exact hq
  have hname' := hname q (by omega)
  have xd : IntKind.i64.wrap (x.tdiv 8) = x.tdiv 8 := wrap64 (small_tdiv ⟨hx1, hx2⟩).1 (small_tdiv ⟨hx1, hx2⟩).2
  have hstep : madeStep done x = stepBy done x m8 mn q := by
    have e1 : (posOf x % 8).toNat = m8 := by omega
    have e2 : (posOf x / 8 % 4).toNat = mn := by omega
    have e3 : (posOf x / 32 % 6).toNat = q := by omega
    unfold madeStep
    rw [e1, e2, e3]
  have hneg : ∀ (hx0 : x < 0), IntKind.i64.wrap (0 - IntKind.i64.wrap (x + 1)) = posOf x := fun hx0 => by
    rw [wrap64 (n := x + 1) (by omega) (by omega), wrap64 (by omega) (by omega)]
    unfold posOf
    rw [if_pos hx0]
    omega
  have hpos : ∀ (hx0 : ¬ x < 0), x = posOf x := fun hx0 => by
    unfold posOf
    rw [if_neg hx0]
  have leaf : ∀ f n, appendD kV 56 ⟨true, dlist kV (done.map dV)⟩ (.list kV [.agg [.int .i64 f, .int .i64 n, .str [], .nils]]) = some ⟨true, dlist kV ((done ++ [V.mk f n [] []]).map dV)⟩ := fun f n => by
    have := append_V done (.mk f n [] []) (by omega)
    rw [dV_eq] at this
    exact this
  obtain ⟨p, hp⟩ : ∃ p, p = done.length - min mn done.length := ⟨_, rfl⟩
  have hdm : done.map dV ≠ [] := by simpa using hdn
  have hs1 : sliceD 4 (dlist kV (done.map dV)) p none = some (.list kV ((done.drop p).map dV)) := by
    rw [slice_from hdm (by simp; omega), List.map_drop]
  have hs2 : sliceD 4 (dlist kV (done.map dV)) 0 (some p) = some (.list kV ((done.take p).map dV)) := by
    rw [slice_to hdm (by simp; omega), List.map_take]
  have ha1 : appendD kV 56 ⟨false, .nils⟩ (.list kV ((done.drop p).map dV)) = some ⟨true, dlist kV ((done.drop p).map dV)⟩ := append_nils rfl (all_dV _) (by simp; omega)
  have ha2 : appendD kV 56 ⟨false, .nils⟩ (.list kV ((done.take p).map dV)) = some ⟨true, dlist kV ((done.take p).map dV)⟩ := append_nils rfl (all_dV _) (by simp; omega)
  have ha3 : appendD kV 56 ⟨true, dlist kV ((done.take p).map dV)⟩ (.list kV [.agg [.int .i64 1, .int .i64 0, .str (nameOf q), dlist kV ((done.drop p).map dV)]]) = some ⟨true, dlist kV ((done.take p ++ [V.mk 1 0 (nameOf q) (done.drop p)]).map dV)⟩ := by
    have := append_V (done.take p) (.mk 1 0 (nameOf q) (done.drop p)) (by simp; omega)
    rw [dV_eq] at this
    exact this
  have hr : m8 = 0 ∨ m8 = 1 ∨ m8 = 2 ∨ m8 = 3 ∨ 4 ≤ m8 := by omega
  have hstep4 : 4 ≤ m8 → stepBy done x m8 mn q = done.take p ++ [.mk 1 0 (nameOf q) (done.drop p)] := fun h4 => by
    rw [hp]
    unfold stepBy
    split <;> first | omega | rfl
  have f0 : 4 ≤ m8 → ((m8 : Int) == 0) = false := fun h => by simp; omega
  have f1 : 4 ≤ m8 → ((m8 : Int) == 1) = false := fun h => by simp; omega
  have f2 : 4 ≤ m8 → ((m8 : Int) == 2) = false := fun h => by simp; omega
  have f3 : 4 ≤ m8 → ((m8 : Int) == 3) = false := fun h => by simp; omega
  have n1 : (((1 : Nat) : Int)) = 1 := rfl
  have n2 : (((2 : Nat) : Int)) = 2 := rfl
  have n3 : (((3 : Nat) : Int)) = 3 := rfl
  rw [hstep]
  clear hstep
  by_cases hx0 : x < 0
  · have hn := hneg hx0
    by_cases hm : ((mn : Int) > ((done.length : Nat) : Int))
    · have hat : IntKind.i64.wrap (((done.length : Nat) : Int) - ((done.length : Nat) : Int)) = (p : Int) := by
        rw [wrap64 (by omega) (by omega)]
        omega
      rcases hr with rfl | rfl | rfl | rfl | h4
      · simp only [a10_l0, E10, sy0, sy1, sy2, sy3, sy4, sy5, clearEnv, adel, mem, initEnv, initSlots, stepOp, wantedA, evalOp, callOf, panicOf, evalV, addr, opd, opds, aget, aset, adel1, lkill, readCells, nth, Env.put, Env.putV, Env.box, Env.bare, dropOwn, dropOwnS, binD, binBD, binBool, binInt, binStr, unD, AOpd.drop, Cell.of, AOp.kind, sameKind, assertD, eqlB, isUndef, takeC, unownAt, fits, layCells, putCells, putD, fillD, partsOf, optLo, optHi, allSize, Option.getD_some, Option.getD_none, runDefers, readRes, readRes1, readRess, Nat.reduceAdd, Nat.reduceSub, Nat.reduceMul, Nat.reduceBEq, Bool.false_and, Bool.true_and, Bool.and_true, Bool.and_false, Nat.zero_add, Nat.add_zero, beq_self_eq_true, Bool.true_beq, Bool.false_beq, Bool.not_true, Bool.not_false, decide_true, decide_false, bindO, List.map_cons, List.map_nil, List.length_cons, List.length_nil, List.append_nil, List.nil_append, List.cons_append, List.isEmpty_nil, List.isEmpty_cons, Nat.reduceLeDiff, Int.reduceBEq, Int.reduceNeg, Nat.le_refl, hd.1, hrow, hnth, h1, h2, hw, hx0, hn, t8, td, tmn, hm, List.length_map, zeroI, leaf, stepBy]
      · simp only [a10_l0, E10, sy0, sy1, sy2, sy3, sy4, sy5, clearEnv, adel, mem, initEnv, initSlots, stepOp, wantedA, evalOp, callOf, panicOf, evalV, addr, opd, opds, aget, aset, adel1, lkill, readCells, nth, Env.put, Env.putV, Env.box, Env.bare, dropOwn, dropOwnS, binD, binBD, binBool, binInt, binStr, unD, AOpd.drop, Cell.of, AOp.kind, sameKind, assertD, eqlB, isUndef, takeC, unownAt, fits, layCells, putCells, putD, fillD, partsOf, optLo, optHi, allSize, Option.getD_some, Option.getD_none, runDefers, readRes, readRes1, readRess, Nat.reduceAdd, Nat.reduceSub, Nat.reduceMul, Nat.reduceBEq, Bool.false_and, Bool.true_and, Bool.and_true, Bool.and_false, Nat.zero_add, Nat.add_zero, beq_self_eq_true, Bool.true_beq, Bool.false_beq, Bool.not_true, Bool.not_false, decide_true, decide_false, bindO, List.map_cons, List.map_nil, List.length_cons, List.length_nil, List.append_nil, List.nil_append, List.cons_append, List.isEmpty_nil, List.isEmpty_cons, Nat.reduceLeDiff, Int.reduceBEq, Int.reduceNeg, Nat.le_refl, hd.1, hrow, hnth, h1, h2, hw, hx0, hn, t8, td, tmn, hm, List.length_map, n1, leaf, stepBy]
      · simp only [a10_l0, E10, sy0, sy1, sy2, sy3, sy4, sy5, clearEnv, adel, mem, initEnv, initSlots, stepOp, wantedA, evalOp, callOf, panicOf, evalV, addr, opd, opds, aget, aset, adel1, lkill, readCells, nth, Env.put, Env.putV, Env.box, Env.bare, dropOwn, dropOwnS, binD, binBD, binBool, binInt, binStr, unD, AOpd.drop, Cell.of, AOp.kind, sameKind, assertD, eqlB, isUndef, takeC, unownAt, fits, layCells, putCells, putD, fillD, partsOf, optLo, optHi, allSize, Option.getD_some, Option.getD_none, runDefers, readRes, readRes1, readRess, Nat.reduceAdd, Nat.reduceSub, Nat.reduceMul, Nat.reduceBEq, Bool.false_and, Bool.true_and, Bool.and_true, Bool.and_false, Nat.zero_add, Nat.add_zero, beq_self_eq_true, Bool.true_beq, Bool.false_beq, Bool.not_true, Bool.not_false, decide_true, decide_false, bindO, List.map_cons, List.map_nil, List.length_cons, List.length_nil, List.append_nil, List.nil_append, List.cons_append, List.isEmpty_nil, List.isEmpty_cons, Nat.reduceLeDiff, Int.reduceBEq, Int.reduceNeg, Nat.le_refl, hd.1, hrow, hnth, h1, h2, hw, hx0, hn, t8, td, tmn, hm, List.length_map, n2, xd, leaf, stepBy]
      · simp only [a10_l0, E10, sy0, sy1, sy2, sy3, sy4, sy5, clearEnv, adel, mem, initEnv, initSlots, stepOp, wantedA, evalOp, callOf, panicOf, evalV, addr, opd, opds, aget, aset, adel1, lkill, readCells, nth, Env.put, Env.putV, Env.box, Env.bare, dropOwn, dropOwnS, binD, binBD, binBool, binInt, binStr, unD, AOpd.drop, Cell.of, AOp.kind, sameKind, assertD, eqlB, isUndef, takeC, unownAt, fits, layCells, putCells, putD, fillD, partsOf, optLo, optHi, allSize, Option.getD_some, Option.getD_none, runDefers, readRes, readRes1, readRess, Nat.reduceAdd, Nat.reduceSub, Nat.reduceMul, Nat.reduceBEq, Bool.false_and, Bool.true_and, Bool.and_true, Bool.and_false, Nat.zero_add, Nat.add_zero, beq_self_eq_true, Bool.true_beq, Bool.false_beq, Bool.not_true, Bool.not_false, decide_true, decide_false, bindO, List.map_cons, List.map_nil, List.length_cons, List.length_nil, List.append_nil, List.nil_append, List.cons_append, List.isEmpty_nil, List.isEmpty_cons, Nat.reduceLeDiff, Int.reduceBEq, Int.reduceNeg, Nat.le_refl, hd.1, hrow, hnth, h1, h2, hw, hx0, hn, t8, td, tmn, hm, List.length_map, n3, xd, leaf, stepBy]
      · simp only [a10_l0, E10, sy0, sy1, sy2, sy3, sy4, sy5, clearEnv, adel, mem, initEnv, initSlots, stepOp, wantedA, evalOp, callOf, panicOf, evalV, addr, opd, opds, aget, aset, adel1, lkill, readCells, nth, Env.put, Env.putV, Env.box, Env.bare, dropOwn, dropOwnS, binD, binBD, binBool, binInt, binStr, unD, AOpd.drop, Cell.of, AOp.kind, sameKind, assertD, eqlB, isUndef, takeC, unownAt, fits, layCells, putCells, putD, fillD, partsOf, optLo, optHi, allSize, Option.getD_some, Option.getD_none, runDefers, readRes, readRes1, readRess, Nat.reduceAdd, Nat.reduceSub, Nat.reduceMul, Nat.reduceBEq, Bool.false_and, Bool.true_and, Bool.and_true, Bool.and_false, Nat.zero_add, Nat.add_zero, beq_self_eq_true, Bool.true_beq, Bool.false_beq, Bool.not_true, Bool.not_false, decide_true, decide_false, bindO, List.map_cons, List.map_nil, List.length_cons, List.length_nil, List.append_nil, List.nil_append, List.cons_append, List.isEmpty_nil, List.isEmpty_cons, Nat.reduceLeDiff, Int.reduceBEq, Int.reduceNeg, Nat.le_refl, hd.1, hrow, hnth, h1, h2, hw, hx0, hn, t8, td, tmn, hm, List.length_map, f0 h4, f1 h4, f2 h4, f3 h4, hat, td32, tq, hname', hs1, hs2, ha1, ha2, ha3, hstep4 h4]
    · have hat : IntKind.i64.wrap (((done.length : Nat) : Int) - ((mn : Nat) : Int)) = (p : Int) := by
        rw [wrap64 (by omega) (by omega)]
        omega
      rcases hr with rfl | rfl | rfl | rfl | h4
      · simp only [a10_l0, E10, sy0, sy1, sy2, sy3, sy4, sy5, clearEnv, adel, mem, initEnv, initSlots, stepOp, wantedA, evalOp, callOf, panicOf, evalV, addr, opd, opds, aget, aset, adel1, lkill, readCells, nth, Env.put, Env.putV, Env.box, Env.bare, dropOwn, dropOwnS, binD, binBD, binBool, binInt, binStr, unD, AOpd.drop, Cell.of, AOp.kind, sameKind, assertD, eqlB, isUndef, takeC, unownAt, fits, layCells, putCells, putD, fillD, partsOf, optLo, optHi, allSize, Option.getD_some, Option.getD_none, runDefers, readRes, readRes1, readRess, Nat.reduceAdd, Nat.reduceSub, Nat.reduceMul, Nat.reduceBEq, Bool.false_and, Bool.true_and, Bool.and_true, Bool.and_false, Nat.zero_add, Nat.add_zero, beq_self_eq_true, Bool.true_beq, Bool.false_beq, Bool.not_true, Bool.not_false, decide_true, decide_false, bindO, List.map_cons, List.map_nil, List.length_cons, List.length_nil, List.append_nil, List.nil_append, List.cons_append, List.isEmpty_nil, List.isEmpty_cons, Nat.reduceLeDiff, Int.reduceBEq, Int.reduceNeg, Nat.le_refl, hd.1, hrow, hnth, h1, h2, hw, hx0, hn, t8, td, tmn, hm, List.length_map, zeroI, leaf, stepBy]
      · simp only [a10_l0, E10, sy0, sy1, sy2, sy3, sy4, sy5, clearEnv, adel, mem, initEnv, initSlots, stepOp, wantedA, evalOp, callOf, panicOf, evalV, addr, opd, opds, aget, aset, adel1, lkill, readCells, nth, Env.put, Env.putV, Env.box, Env.bare, dropOwn, dropOwnS, binD, binBD, binBool, binInt, binStr, unD, AOpd.drop, Cell.of, AOp.kind, sameKind, assertD, eqlB, isUndef, takeC, unownAt, fits, layCells, putCells, putD, fillD, partsOf, optLo, optHi, allSize, Option.getD_some, Option.getD_none, runDefers, readRes, readRes1, readRess, Nat.reduceAdd, Nat.reduceSub, Nat.reduceMul, Nat.reduceBEq, Bool.false_and, Bool.true_and, Bool.and_true, Bool.and_false, Nat.zero_add, Nat.add_zero, beq_self_eq_true, Bool.true_beq, Bool.false_beq, Bool.not_true, Bool.not_false, decide_true, decide_false, bindO, List.map_cons, List.map_nil, List.length_cons, List.length_nil, List.append_nil, List.nil_append, List.cons_append, List.isEmpty_nil, List.isEmpty_cons, Nat.reduceLeDiff, Int.reduceBEq, Int.reduceNeg, Nat.le_refl, hd.1, hrow, hnth, h1, h2, hw, hx0, hn, t8, td, tmn, hm, List.length_map, n1, leaf, stepBy]
      · simp only [a10_l0, E10, sy0, sy1, sy2, sy3, sy4, sy5, clearEnv, adel, mem, initEnv, initSlots, stepOp, wantedA, evalOp, callOf, panicOf, evalV, addr, opd, opds, aget, aset, adel1, lkill, readCells, nth, Env.put, Env.putV, Env.box, Env.bare, dropOwn, dropOwnS, binD, binBD, binBool, binInt, binStr, unD, AOpd.drop, Cell.of, AOp.kind, sameKind, assertD, eqlB, isUndef, takeC, unownAt, fits, layCells, putCells, putD, fillD, partsOf, optLo, optHi, allSize, Option.getD_some, Option.getD_none, runDefers, readRes, readRes1, readRess, Nat.reduceAdd, Nat.reduceSub, Nat.reduceMul, Nat.reduceBEq, Bool.false_and, Bool.true_and, Bool.and_true, Bool.and_false, Nat.zero_add, Nat.add_zero, beq_self_eq_true, Bool.true_beq, Bool.false_beq, Bool.not_true, Bool.not_false, decide_true, decide_false, bindO, List.map_cons, List.map_nil, List.length_cons, List.length_nil, List.append_nil, List.nil_append, List.cons_append, List.isEmpty_nil, List.isEmpty_cons, Nat.reduceLeDiff, Int.reduceBEq, Int.reduceNeg, Nat.le_refl, hd.1, hrow, hnth, h1, h2, hw, hx0, hn, t8, td, tmn, hm, List.length_map, n2, xd, leaf, stepBy]
      · simp only [a10_l0, E10, sy0, sy1, sy2, sy3, sy4, sy5, clearEnv, adel, mem, initEnv, initSlots, stepOp, wantedA, evalOp, callOf, panicOf, evalV, addr, opd, opds, aget, aset, adel1, lkill, readCells, nth, Env.put, Env.putV, Env.box, Env.bare, dropOwn, dropOwnS, binD, binBD, binBool, binInt, binStr, unD, AOpd.drop, Cell.of, AOp.kind, sameKind, assertD, eqlB, isUndef, takeC, unownAt, fits, layCells, putCells, putD, fillD, partsOf, optLo, optHi, allSize, Option.getD_some, Option.getD_none, runDefers, readRes, readRes1, readRess, Nat.reduceAdd, Nat.reduceSub, Nat.reduceMul, Nat.reduceBEq, Bool.false_and, Bool.true_and, Bool.and_true, Bool.and_false, Nat.zero_add, Nat.add_zero, beq_self_eq_true, Bool.true_beq, Bool.false_beq, Bool.not_true, Bool.not_false, decide_true, decide_false, bindO, List.map_cons, List.map_nil, List.length_cons, List.length_nil, List.append_nil, List.nil_append, List.cons_append, List.isEmpty_nil, List.isEmpty_cons, Nat.reduceLeDiff, Int.reduceBEq, Int.reduceNeg, Nat.le_refl, hd.1, hrow, hnth, h1, h2, hw, hx0, hn, t8, td, tmn, hm, List.length_map, n3, xd, leaf, stepBy]
      · simp only [a10_l0, E10, sy0, sy1, sy2, sy3, sy4, sy5, clearEnv, adel, mem, initEnv, initSlots, stepOp, wantedA, evalOp, callOf, panicOf, evalV, addr, opd, opds, aget, aset, adel1, lkill, readCells, nth, Env.put, Env.putV, Env.box, Env.bare, dropOwn, dropOwnS, binD, binBD, binBool, binInt, binStr, unD, AOpd.drop, Cell.of, AOp.kind, sameKind, assertD, eqlB, isUndef, takeC, unownAt, fits, layCells, putCells, putD, fillD, partsOf, optLo, optHi, allSize, Option.getD_some, Option.getD_none, runDefers, readRes, readRes1, readRess, Nat.reduceAdd, Nat.reduceSub, Nat.reduceMul, Nat.reduceBEq, Bool.false_and, Bool.true_and, Bool.and_true, Bool.and_false, Nat.zero_add, Nat.add_zero, beq_self_eq_true, Bool.true_beq, Bool.false_beq, Bool.not_true, Bool.not_false, decide_true, decide_false, bindO, List.map_cons, List.map_nil, List.length_cons, List.length_nil, List.append_nil, List.nil_append, List.cons_append, List.isEmpty_nil, List.isEmpty_cons, Nat.reduceLeDiff, Int.reduceBEq, Int.reduceNeg, Nat.le_refl, hd.1, hrow, hnth, h1, h2, hw, hx0, hn, t8, td, tmn, hm, List.length_map, f0 h4, f1 h4, f2 h4, f3 h4, hat, td32, tq, hname', hs1, hs2, ha1, ha2, ha3, hstep4 h4]
  · have hxp := (hpos hx0).symm
    rw [hxp] at t8 td tmn td32 tq
    have xt : x.tdiv 8 = x / 8 := Int.tdiv_eq_ediv_of_nonneg (by omega)
    rw [xt] at td
    by_cases hm : ((mn : Int) > ((done.length : Nat) : Int))
    · have hat : IntKind.i64.wrap (((done.length : Nat) : Int) - ((done.length : Nat) : Int)) = (p : Int) := by
        rw [wrap64 (by omega) (by omega)]
        omega
      rcases hr with rfl | rfl | rfl | rfl | h4
      · simp only [a10_l0, E10, sy0, sy1, sy2, sy3, sy4, sy5, clearEnv, adel, mem, initEnv, initSlots, stepOp, wantedA, evalOp, callOf, panicOf, evalV, addr, opd, opds, aget, aset, adel1, lkill, readCells, nth, Env.put, Env.putV, Env.box, Env.bare, dropOwn, dropOwnS, binD, binBD, binBool, binInt, binStr, unD, AOpd.drop, Cell.of, AOp.kind, sameKind, assertD, eqlB, isUndef, takeC, unownAt, fits, layCells, putCells, putD, fillD, partsOf, optLo, optHi, allSize, Option.getD_some, Option.getD_none, runDefers, readRes, readRes1, readRess, Nat.reduceAdd, Nat.reduceSub, Nat.reduceMul, Nat.reduceBEq, Bool.false_and, Bool.true_and, Bool.and_true, Bool.and_false, Nat.zero_add, Nat.add_zero, beq_self_eq_true, Bool.true_beq, Bool.false_beq, Bool.not_true, Bool.not_false, decide_true, decide_false, bindO, List.map_cons, List.map_nil, List.length_cons, List.length_nil, List.append_nil, List.nil_append, List.cons_append, List.isEmpty_nil, List.isEmpty_cons, Nat.reduceLeDiff, Int.reduceBEq, Int.reduceNeg, Nat.le_refl, hd.1, hrow, hnth, h1, h2, hw, hx0, t8, xt, td, tmn, hm, List.length_map, zeroI, leaf, stepBy]
      · simp only [a10_l0, E10, sy0, sy1, sy2, sy3, sy4, sy5, clearEnv, adel, mem, initEnv, initSlots, stepOp, wantedA, evalOp, callOf, panicOf, evalV, addr, opd, opds, aget, aset, adel1, lkill, readCells, nth, Env.put, Env.putV, Env.box, Env.bare, dropOwn, dropOwnS, binD, binBD, binBool, binInt, binStr, unD, AOpd.drop, Cell.of, AOp.kind, sameKind, assertD, eqlB, isUndef, takeC, unownAt, fits, layCells, putCells, putD, fillD, partsOf, optLo, optHi, allSize, Option.getD_some, Option.getD_none, runDefers, readRes, readRes1, readRess, Nat.reduceAdd, Nat.reduceSub, Nat.reduceMul, Nat.reduceBEq, Bool.false_and, Bool.true_and, Bool.and_true, Bool.and_false, Nat.zero_add, Nat.add_zero, beq_self_eq_true, Bool.true_beq, Bool.false_beq, Bool.not_true, Bool.not_false, decide_true, decide_false, bindO, List.map_cons, List.map_nil, List.length_cons, List.length_nil, List.append_nil, List.nil_append, List.cons_append, List.isEmpty_nil, List.isEmpty_cons, Nat.reduceLeDiff, Int.reduceBEq, Int.reduceNeg, Nat.le_refl, hd.1, hrow, hnth, h1, h2, hw, hx0, t8, xt, td, tmn, hm, List.length_map, n1, leaf, stepBy]
      · simp only [a10_l0, E10, sy0, sy1, sy2, sy3, sy4, sy5, clearEnv, adel, mem, initEnv, initSlots, stepOp, wantedA, evalOp, callOf, panicOf, evalV, addr, opd, opds, aget, aset, adel1, lkill, readCells, nth, Env.put, Env.putV, Env.box, Env.bare, dropOwn, dropOwnS, binD, binBD, binBool, binInt, binStr, unD, AOpd.drop, Cell.of, AOp.kind, sameKind, assertD, eqlB, isUndef, takeC, unownAt, fits, layCells, putCells, putD, fillD, partsOf, optLo, optHi, allSize, Option.getD_some, Option.getD_none, runDefers, readRes, readRes1, readRess, Nat.reduceAdd, Nat.reduceSub, Nat.reduceMul, Nat.reduceBEq, Bool.false_and, Bool.true_and, Bool.and_true, Bool.and_false, Nat.zero_add, Nat.add_zero, beq_self_eq_true, Bool.true_beq, Bool.false_beq, Bool.not_true, Bool.not_false, decide_true, decide_false, bindO, List.map_cons, List.map_nil, List.length_cons, List.length_nil, List.append_nil, List.nil_append, List.cons_append, List.isEmpty_nil, List.isEmpty_cons, Nat.reduceLeDiff, Int.reduceBEq, Int.reduceNeg, Nat.le_refl, hd.1, hrow, hnth, h1, h2, hw, hx0, t8, xt, td, tmn, hm, List.length_map, n2, xt, leaf, stepBy]
      · simp only [a10_l0, E10, sy0, sy1, sy2, sy3, sy4, sy5, clearEnv, adel, mem, initEnv, initSlots, stepOp, wantedA, evalOp, callOf, panicOf, evalV, addr, opd, opds, aget, aset, adel1, lkill, readCells, nth, Env.put, Env.putV, Env.box, Env.bare, dropOwn, dropOwnS, binD, binBD, binBool, binInt, binStr, unD, AOpd.drop, Cell.of, AOp.kind, sameKind, assertD, eqlB, isUndef, takeC, unownAt, fits, layCells, putCells, putD, fillD, partsOf, optLo, optHi, allSize, Option.getD_some, Option.getD_none, runDefers, readRes, readRes1, readRess, Nat.reduceAdd, Nat.reduceSub, Nat.reduceMul, Nat.reduceBEq, Bool.false_and, Bool.true_and, Bool.and_true, Bool.and_false, Nat.zero_add, Nat.add_zero, beq_self_eq_true, Bool.true_beq, Bool.false_beq, Bool.not_true, Bool.not_false, decide_true, decide_false, bindO, List.map_cons, List.map_nil, List.length_cons, List.length_nil, List.append_nil, List.nil_append, List.cons_append, List.isEmpty_nil, List.isEmpty_cons, Nat.reduceLeDiff, Int.reduceBEq, Int.reduceNeg, Nat.le_refl, hd.1, hrow, hnth, h1, h2, hw, hx0, t8, xt, td, tmn, hm, List.length_map, n3, xt, leaf, stepBy]
      · simp only [a10_l0, E10, sy0, sy1, sy2, sy3, sy4, sy5, clearEnv, adel, mem, initEnv, initSlots, stepOp, wantedA, evalOp, callOf, panicOf, evalV, addr, opd, opds, aget, aset, adel1, lkill, readCells, nth, Env.put, Env.putV, Env.box, Env.bare, dropOwn, dropOwnS, binD, binBD, binBool, binInt, binStr, unD, AOpd.drop, Cell.of, AOp.kind, sameKind, assertD, eqlB, isUndef, takeC, unownAt, fits, layCells, putCells, putD, fillD, partsOf, optLo, optHi, allSize, Option.getD_some, Option.getD_none, runDefers, readRes, readRes1, readRess, Nat.reduceAdd, Nat.reduceSub, Nat.reduceMul, Nat.reduceBEq, Bool.false_and, Bool.true_and, Bool.and_true, Bool.and_false, Nat.zero_add, Nat.add_zero, beq_self_eq_true, Bool.true_beq, Bool.false_beq, Bool.not_true, Bool.not_false, decide_true, decide_false, bindO, List.map_cons, List.map_nil, List.length_cons, List.length_nil, List.append_nil, List.nil_append, List.cons_append, List.isEmpty_nil, List.isEmpty_cons, Nat.reduceLeDiff, Int.reduceBEq, Int.reduceNeg, Nat.le_refl, hd.1, hrow, hnth, h1, h2, hw, hx0, t8, xt, td, tmn, hm, List.length_map, f0 h4, f1 h4, f2 h4, f3 h4, hat, td32, tq, hname', hs1, hs2, ha1, ha2, ha3, hstep4 h4]
    · have hat : IntKind.i64.wrap (((done.length : Nat) : Int) - ((mn : Nat) : Int)) = (p : Int) := by
        rw [wrap64 (by omega) (by omega)]
        omega
      rcases hr with rfl | rfl | rfl | rfl | h4
      · simp only [a10_l0, E10, sy0, sy1, sy2, sy3, sy4, sy5, clearEnv, adel, mem, initEnv, initSlots, stepOp, wantedA, evalOp, callOf, panicOf, evalV, addr, opd, opds, aget, aset, adel1, lkill, readCells, nth, Env.put, Env.putV, Env.box, Env.bare, dropOwn, dropOwnS, binD, binBD, binBool, binInt, binStr, unD, AOpd.drop, Cell.of, AOp.kind, sameKind, assertD, eqlB, isUndef, takeC, unownAt, fits, layCells, putCells, putD, fillD, partsOf, optLo, optHi, allSize, Option.getD_some, Option.getD_none, runDefers, readRes, readRes1, readRess, Nat.reduceAdd, Nat.reduceSub, Nat.reduceMul, Nat.reduceBEq, Bool.false_and, Bool.true_and, Bool.and_true, Bool.and_false, Nat.zero_add, Nat.add_zero, beq_self_eq_true, Bool.true_beq, Bool.false_beq, Bool.not_true, Bool.not_false, decide_true, decide_false, bindO, List.map_cons, List.map_nil, List.length_cons, List.length_nil, List.append_nil, List.nil_append, List.cons_append, List.isEmpty_nil, List.isEmpty_cons, Nat.reduceLeDiff, Int.reduceBEq, Int.reduceNeg, Nat.le_refl, hd.1, hrow, hnth, h1, h2, hw, hx0, t8, xt, td, tmn, hm, List.length_map, zeroI, leaf, stepBy]
      · simp only [a10_l0, E10, sy0, sy1, sy2, sy3, sy4, sy5, clearEnv, adel, mem, initEnv, initSlots, stepOp, wantedA, evalOp, callOf, panicOf, evalV, addr, opd, opds, aget, aset, adel1, lkill, readCells, nth, Env.put, Env.putV, Env.box, Env.bare, dropOwn, dropOwnS, binD, binBD, binBool, binInt, binStr, unD, AOpd.drop, Cell.of, AOp.kind, sameKind, assertD, eqlB, isUndef, takeC, unownAt, fits, layCells, putCells, putD, fillD, partsOf, optLo, optHi, allSize, Option.getD_some, Option.getD_none, runDefers, readRes, readRes1, readRess, Nat.reduceAdd, Nat.reduceSub, Nat.reduceMul, Nat.reduceBEq, Bool.false_and, Bool.true_and, Bool.and_true, Bool.and_false, Nat.zero_add, Nat.add_zero, beq_self_eq_true, Bool.true_beq, Bool.false_beq, Bool.not_true, Bool.not_false, decide_true, decide_false, bindO, List.map_cons, List.map_nil, List.length_cons, List.length_nil, List.append_nil, List.nil_append, List.cons_append, List.isEmpty_nil, List.isEmpty_cons, Nat.reduceLeDiff, Int.reduceBEq, Int.reduceNeg, Nat.le_refl, hd.1, hrow, hnth, h1, h2, hw, hx0, t8, xt, td, tmn, hm, List.length_map, n1, leaf, stepBy]
      · simp only [a10_l0, E10, sy0, sy1, sy2, sy3, sy4, sy5, clearEnv, adel, mem, initEnv, initSlots, stepOp, wantedA, evalOp, callOf, panicOf, evalV, addr, opd, opds, aget, aset, adel1, lkill, readCells, nth, Env.put, Env.putV, Env.box, Env.bare, dropOwn, dropOwnS, binD, binBD, binBool, binInt, binStr, unD, AOpd.drop, Cell.of, AOp.kind, sameKind, assertD, eqlB, isUndef, takeC, unownAt, fits, layCells, putCells, putD, fillD, partsOf, optLo, optHi, allSize, Option.getD_some, Option.getD_none, runDefers, readRes, readRes1, readRess, Nat.reduceAdd, Nat.reduceSub, Nat.reduceMul, Nat.reduceBEq, Bool.false_and, Bool.true_and, Bool.and_true, Bool.and_false, Nat.zero_add, Nat.add_zero, beq_self_eq_true, Bool.true_beq, Bool.false_beq, Bool.not_true, Bool.not_false, decide_true, decide_false, bindO, List.map_cons, List.map_nil, List.length_cons, List.length_nil, List.append_nil, List.nil_append, List.cons_append, List.isEmpty_nil, List.isEmpty_cons, Nat.reduceLeDiff, Int.reduceBEq, Int.reduceNeg, Nat.le_refl, hd.1, hrow, hnth, h1, h2, hw, hx0, t8, xt, td, tmn, hm, List.length_map, n2, xt, leaf, stepBy]
      · simp only [a10_l0, E10, sy0, sy1, sy2, sy3, sy4, sy5, clearEnv, adel, mem, initEnv, initSlots, stepOp, wantedA, evalOp, callOf, panicOf, evalV, addr, opd, opds, aget, aset, adel1, lkill, readCells, nth, Env.put, Env.putV, Env.box, Env.bare, dropOwn, dropOwnS, binD, binBD, binBool, binInt, binStr, unD, AOpd.drop, Cell.of, AOp.kind, sameKind, assertD, eqlB, isUndef, takeC, unownAt, fits, layCells, putCells, putD, fillD, partsOf, optLo, optHi, allSize, Option.getD_some, Option.getD_none, runDefers, readRes, readRes1, readRess, Nat.reduceAdd, Nat.reduceSub, Nat.reduceMul, Nat.reduceBEq, Bool.false_and, Bool.true_and, Bool.and_true, Bool.and_false, Nat.zero_add, Nat.add_zero, beq_self_eq_true, Bool.true_beq, Bool.false_beq, Bool.not_true, Bool.not_false, decide_true, decide_false, bindO, List.map_cons, List.map_nil, List.length_cons, List.length_nil, List.append_nil, List.nil_append, List.cons_append, List.isEmpty_nil, List.isEmpty_cons, Nat.reduceLeDiff, Int.reduceBEq, Int.reduceNeg, Nat.le_refl, hd.1, hrow, hnth, h1, h2, hw, hx0, t8, xt, td, tmn, hm, List.length_map, n3, xt, leaf, stepBy]
      · simp only [a10_l0, E10, sy0, sy1, sy2, sy3, sy4, sy5, clearEnv, adel, mem, initEnv, initSlots, stepOp, wantedA, evalOp, callOf, panicOf, evalV, addr, opd, opds, aget, aset, adel1, lkill, readCells, nth, Env.put, Env.putV, Env.box, Env.bare, dropOwn, dropOwnS, binD, binBD, binBool, binInt, binStr, unD, AOpd.drop, Cell.of, AOp.kind, sameKind, assertD, eqlB, isUndef, takeC, unownAt, fits, layCells, putCells, putD, fillD, partsOf, optLo, optHi, allSize, Option.getD_some, Option.getD_none, runDefers, readRes, readRes1, readRess, Nat.reduceAdd, Nat.reduceSub, Nat.reduceMul, Nat.reduceBEq, Bool.false_and, Bool.true_and, Bool.and_true, Bool.and_false, Nat.zero_add, Nat.add_zero, beq_self_eq_true, Bool.true_beq, Bool.false_beq, Bool.not_true, Bool.not_false, decide_true, decide_false, bindO, List.map_cons, List.map_nil, List.length_cons, List.length_nil, List.append_nil, List.nil_append, List.cons_append, List.isEmpty_nil, List.isEmpty_cons, Nat.reduceLeDiff, Int.reduceBEq, Int.reduceNeg, Nat.le_refl, hd.1, hrow, hnth, h1, h2, hw, hx0, t8, xt, td, tmn, hm, List.length_map, f0 h4, f1 h4, f2 h4, f3 h4, hat, td32, tq, hname', hs1, hs2, ha1, ha2, ha3, hstep4 h4]
end
end Go.Proofs.YtdoppkjoemlhjaaDoor.Sh

/-
  Values made of numbers: the whole.
-/
namespace Go.Proofs.YtdoppkjoemlhjaaDoor.Sh
open Go Go.Mx
set_option maxRecDepth 10000
theorem madeL_step_small {xs : List Int} (hxs : ∀ x ∈ xs, Small x) {i : Nat} (h : i < xs.length) : Small xs[i] := hxs _ (List.getElem_mem h)
theorem made_run (d : D) (xs : List Int) (hd : ListD d xs) (hxs : ∀ x ∈ xs, Small x) : Evly fun n => ∀ σ, T n 10 [d] σ = some (.ret ⟨false, dV (made xs)⟩, σ) := by
  refine name_run.step 62 fun m hm hname σ => ?_
  rw [T_fun (af := a10) rfl rfl]
  have hloop := loopN_run (body := exec (T m) m a10_l0) (fun i => E10 d (madeL xs i) i) (fun _ => σ) (min xs.length 60) (r := _) (fun _ _ h => by cases h)
    (fun i hi => by
      have hlt : i < xs.length := by omega
      rw [madeL_succ xs i hlt]
      exact l10_step d xs (madeL xs i) hd i hlt (by omega) (madeL_step_small hxs hlt) (madeL_len xs i).1 (by have := (madeL_len xs i).2; omega) (fun q hq => hname q hq σ))
    (l10_end d xs (madeL xs (min xs.length 60)) hd _ rfl) 0 m (by omega) (by omega)
  have hm1 := madeL_len xs (min xs.length 60)
  have hmade : nth ((madeL xs (min xs.length 60)).map dV) ((madeL xs (min xs.length 60)).length - 1) = some (dV (made xs)) := by
    unfold made
    generalize madeL xs (min xs.length 60) = l at hm1
    have hne := hm1.1
    rw [nth_map, nth_get _ _ (by have := List.length_pos_iff.2 hne; omega)]
    rw [List.getLastD_eq_getLast?, ← List.getLast_eq_getElem hne, List.getLast?_eq_some_getLast hne]
    rfl
  have h0 : madeL xs 0 = [.mk 4 0 [] []] := rfl
  have hd0 : dlist kV ([V.mk 4 0 [] []].map dV) = .list kV [.agg [.int .i64 4, .int .i64 0, .str [], .nils]] := rfl
  generalize madeL xs (min xs.length 60) = l at *
  have hlen : 0 < l.length := List.length_pos_iff.2 hm1.1
  have hrow : (dlist kV (l.map dV)).row? = some (kV, l.map dV) := kid_row l 0 hlen
  have hw : IntKind.i64.wrap (((l.length : Nat) : Int) - 1) = ((l.length - 1 : Nat) : Int) := by
    rw [wrap64 (by omega) (by omega)]
    omega
  rw [dV_eq] at hmade ⊢
  simp only [h0, E10, hd0, zeroI] at hloop
  simp only [a10, sy0, sy1, sy2, sy3, sy4, sy5, clearEnv, adel, mem, initEnv, initSlots, stepOp, wantedA, evalOp, callOf, panicOf, evalV, addr, opd, opds, aget, aset, adel1, lkill, readCells, nth, Env.put, Env.putV, Env.box, Env.bare, dropOwn, dropOwnS, binD, binBD, binBool, binInt, binStr, unD, AOpd.drop, Cell.of, AOp.kind, sameKind, assertD, eqlB, isUndef, takeC, unownAt, fits, layCells, putCells, putD, fillD, partsOf, optLo, optHi, allSize, Option.getD_some, Option.getD_none, runDefers, readRes, readRes1, readRess, Nat.reduceAdd, Nat.reduceSub, Nat.reduceMul, Nat.reduceBEq, Bool.false_and, Bool.true_and, Bool.and_true, Bool.and_false, Nat.zero_add, Nat.add_zero, beq_self_eq_true, Bool.true_beq, Bool.false_beq, Bool.not_true, Bool.not_false, decide_true, decide_false, bindO, List.map_cons, List.map_nil, List.length_cons, List.length_nil, List.append_nil, List.nil_append, List.cons_append, List.isEmpty_nil, List.isEmpty_cons, Nat.reduceLeDiff, Int.reduceBEq, Int.reduceNeg, Nat.le_refl, hloop, List.length_map, hw, hmade, hrow]
end Go.Proofs.YtdoppkjoemlhjaaDoor.Sh

