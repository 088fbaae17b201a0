/-
  A small world's types and predicates are made, whatever the numbers.
-/
import Derived.Test.YtkgdpcnobfadaaaDoorFqF1
import Derived.Test.YtkgdpcnobfadaaaDoorFqF2
set_option linter.unusedSimpArgs false
set_option linter.unusedVariables false
namespace Go.Fu
open Go Go.Mx
set_option maxRecDepth 10000
def Smalls (xs : List Int) : Prop := ∀ x ∈ xs, Small x
theorem small_nat {n : Nat} (h : n < 1048576) : Small (n : Int) := by unfold Small; omega
theorem tail_of {d : D} {xs : List Int} (h : Row d xs) (hs : Smalls xs) : ∃ d1 xs1, Tail d d1 ∧ Row d1 xs1 ∧ Smalls xs1 ∧ xs1.length ≤ xs.length := by
  have hl := row_len h
  cases xs with
  | nil => exact ⟨d, [], ⟨0, hl, .inr ⟨rfl, rfl⟩⟩, h, hs, Nat.le_refl _⟩
  | cons x r =>
    obtain ⟨d', h1, h2⟩ := row_tail h
    exact ⟨d', r, ⟨_, hl, .inl ⟨by simp, h1⟩⟩, h2, fun y hy => hs y (List.mem_cons_of_mem _ hy), by simp⟩
def TypOK (deep : Nat) (d : D) (xs : List Int) : Prop := ∃ t d' xs', Row d' xs' ∧ Smalls xs' ∧ xs'.length ≤ xs.length ∧ Evly fun n => ∀ σ, T n n_r12_typ [d, .int .i64 deep] σ = some (.ret ⟨false, .tup [dT t, d']⟩, σ)
theorem typ_ok : ∀ (r deep : Nat), deep + r = 4 → ∀ d xs, Row d xs → Smalls xs → TypOK deep d xs
  | 0, deep, hr, d, xs, hR, hS => by
    obtain ⟨d1, xs1, hT, hR1, hS1, hl1⟩ := tail_of hR hS
    have hpick := pick_run d xs hR hS
    have hn := pk_lt xs
    generalize pk xs = n at hpick hn
    have hk : n % 4 = 0 ∨ n % 4 = 1 ∨ n % 4 = 2 ∨ n % 4 = 3 := by omega
    rcases hk with hk | hk | hk | hk
    · exact ⟨_, d1, xs1, hR1, hS1, hl1, (hpick.and name_run).step 0 fun m _ h σ => typ_var_0_d hT hn (h.1 σ) (by omega) (by omega) hk (h.2 _ σ (small_nat (by omega)))⟩
    · exact ⟨_, d1, xs1, hR1, hS1, hl1, hpick.step 0 fun m _ h σ => typ_int_1_d hT hn (h σ) (by omega) (by omega) hk⟩
    · exact ⟨_, d1, xs1, hR1, hS1, hl1, hpick.step 0 fun m _ h σ => typ_bool_2_d hT hn (h σ) (by omega) (by omega) hk⟩
    · exact ⟨_, d1, xs1, hR1, hS1, hl1, hpick.step 0 fun m _ h σ => typ_hole_3_d hT hn (h σ) (by omega) (by omega) hk⟩
  | r + 1, deep, hr, d, xs, hR, hS => by
    obtain ⟨d1, xs1, hT, hR1, hS1, hl1⟩ := tail_of hR hS
    have hpick := pick_run d xs hR hS
    have hn := pk_lt xs
    generalize pk xs = n at hpick hn
    obtain ⟨a, d2, xs2, hR2, hS2, hl2, ha⟩ := typ_ok r (deep + 1) (by omega) d1 xs1 hR1 hS1
    have hk : n % 9 = 0 ∨ n % 9 = 1 ∨ n % 9 = 2 ∨ n % 9 = 3 ∨ n % 9 = 4 ∨ n % 9 = 5 ∨ n % 9 = 6 ∨ n % 9 = 7 ∨ n % 9 = 8 := by omega
    rcases hk with hk | hk | hk | hk | hk | hk | hk | hk | hk
    · exact ⟨_, d1, xs1, hR1, hS1, hl1, (hpick.and name_run).step 0 fun m _ h σ => typ_var_0_s hT hn (h.1 σ) (by omega) (by omega) hk (h.2 _ σ (small_nat (by omega)))⟩
    · exact ⟨_, d1, xs1, hR1, hS1, hl1, hpick.step 0 fun m _ h σ => typ_int_1_s hT hn (h σ) (by omega) (by omega) hk⟩
    · exact ⟨_, d1, xs1, hR1, hS1, hl1, hpick.step 0 fun m _ h σ => typ_bool_2_s hT hn (h σ) (by omega) (by omega) hk⟩
    · exact ⟨_, d1, xs1, hR1, hS1, hl1, hpick.step 0 fun m _ h σ => typ_hole_3_s hT hn (h σ) (by omega) (by omega) hk⟩
    · exact ⟨_, d1, xs1, hR1, hS1, hl1, (hpick.and name_run).step 0 fun m _ h σ => typ_var_4_s hT hn (h.1 σ) (by omega) (by omega) hk (h.2 _ σ (small_nat (by omega)))⟩
    · exact ⟨_, d2, xs2, hR2, hS2, by omega, (hpick.and ha).step 0 fun m _ h σ => typ_L_5_s hT hn (h.1 σ) (by omega) (by omega) hk (h.2 σ)⟩
    · exact ⟨_, d2, xs2, hR2, hS2, by omega, (hpick.and ha).step 0 fun m _ h σ => typ_L_6_s hT hn (h.1 σ) (by omega) (by omega) hk (h.2 σ)⟩
    · obtain ⟨b, d3, xs3, hR3, hS3, hl3, hb⟩ := typ_ok r (deep + 1) (by omega) d2 xs2 hR2 hS2
      exact ⟨_, d3, xs3, hR3, hS3, by omega, (hpick.and (ha.and hb)).step 0 fun m _ h σ => typ_P_7_s hT hn (h.1 σ) (by omega) (by omega) hk (h.2.1 σ) (h.2.2 σ)⟩
    · by_cases h3 : n / 9 % 3 = 0
      · exact ⟨_, d2, xs2, hR2, hS2, by omega, (hpick.and ha).step 0 fun m _ h σ => typ_i_8_s hT hn (h.1 σ) (by omega) (by omega) hk h3 (h.2 σ)⟩
      · exact ⟨_, d2, xs2, hR2, hS2, by omega, (hpick.and ha).step 0 fun m _ h σ => typ_f_8_s hT hn (h.1 σ) (by omega) (by omega) hk h3 (h.2 σ)⟩
theorem smalls_take {xs : List Int} (h : Smalls xs) (m : Nat) : Smalls (xs.take m) := fun x hx => h x (List.mem_of_mem_take hx)
theorem type_run (d : D) (xs : List Int) (hR : Row d xs) (hS : Smalls xs) : ∃ t, Evly fun n => ∀ σ, T n n_r12_Type [d] σ = some (.ret ⟨false, dT t⟩, σ) := by
  obtain ⟨d1, hR1, o, h1⟩ := ints_run d xs 12 hR (by omega)
  obtain ⟨t, d2, xs2, _, _, _, h2⟩ := typ_ok 4 0 (by omega) d1 _ hR1 (smalls_take hS 12)
  refine ⟨t, (h1.and h2).step 0 fun m _ h σ => ?_⟩
  have e1 := h.1 σ
  have e2 := h.2 σ
  rw [T_fun (af := a_r12_Type) rfl rfl]
  rw [dT_eq t] at e2 ⊢
  have l12 : ((12 : Nat) : Int) = 12 := rfl
  simp only [cT, l12, zeroI] at e1 e2 ⊢
  simp only [a_r12_Type, sy0, sy1, sy2, sy3, sy4, sy5, caseO_none, caseO_some, ifB_false, ifB_true, clearEnv, adel, mem, initEnv, initSlots, stepOp, wantedA, evalOp, callOf, panicOf, evalV, addr, opd, opds, aget, aset, adel1, lkill, lfree, readCells, nth, Env.put, Env.putV, Env.box, Env.bare, dropOwn, dropOwnS, binD, binBD, binBool, binInt, binStr, unD, mmD, AOpd.drop, Cell.of, AOp.kind, stableOf, sameKind, assertD, eqlB, isUndef, takeC, unownAt, fits, layCells, putCells, putD, fillD, partsOf, optLo, optHi, allSize, Option.getD_some, Option.getD_none, runDefers, readRes, readRes1, readRess, Nat.reduceAdd, Nat.reduceSub, Nat.reduceMul, Nat.reduceBEq, Nat.ble, Bool.false_and, Bool.true_and, Bool.and_true, Bool.and_false, Bool.or_true, Bool.true_or, Bool.or_false, Bool.false_or, Nat.zero_add, Nat.add_zero, beq_self_eq_true, Bool.true_beq, Bool.false_beq, Bool.not_true, Bool.not_false, decide_true, decide_false, bindO, List.map_cons, List.map_nil, List.length_cons, List.length_nil, List.append_nil, List.nil_append, List.cons_append, List.isEmpty_nil, List.isEmpty_cons, List.all_nil, List.all_cons, Nat.reduceLeDiff, Int.reduceBEq, Int.reduceBNe, Int.reduceLE, Int.reduceLT, Int.reduceGE, Int.reduceGT, Int.reduceNeg, Nat.le_refl, k_api_Type_sz, k_api_Type_ag, k_api_Type_same, k_api_Pred_sz, k_api_Pred_ag, k_api_Pred_same, k_string_sz, k_string_ag, k_string_same, k_int_sz, k_int_ag, k_int_same, k_api_Kind_sz, k_api_Kind_ag, k_api_Kind_same, nat1, nat2, nat3, nat4, nat5, nat6, nat7, nat8, idxL, e1, e2]
def BldOK (deep : Nat) (d : D) (xs : List Int) : Prop := ∃ t d' xs', Row d' xs' ∧ Smalls xs' ∧ Evly fun n => ∀ σ, T n n_r04_build [d, .int .i64 deep, .bool false] σ = some (.ret ⟨false, .tup [dT t, d']⟩, σ)
theorem build_ok : ∀ (r deep : Nat), deep + r = 5 → ∀ d xs, Row d xs → Smalls xs → BldOK deep d xs
  | _, deep, _, d, [], hR, hS => ⟨_, d, [], hR, hS, any _ fun n σ => bld_nil (row_len hR)⟩
  | 0, deep, hr, d, x :: xs, hR, hS => by
    obtain ⟨d1, hs, hR1⟩ := row_tail hR
    have hS1 : Smalls xs := fun y hy => hS y (List.mem_cons_of_mem _ hy)
    have hl := row_len hR
    have hx := row_get hR 0 (by simp)
    have h0 : 0 < (x :: xs).length := by simp
    simp only [List.getElem_cons_zero] at hx
    have hpick : Evly fun n => ∀ σ, T n n_r01_Around [.int .i64 x, .int .i64 40] σ = some (.ret ⟨false, .int .i64 (aro x 40)⟩, σ) := aroundL.mono fun n h σ => h x 40 40 σ (hS x (by simp)) rfl (by omega) (by omega)
    have hn := aro_lt x (m := 40) (by omega)
    generalize aro x 40 = n at hpick hn
    have hk : n % 5 = 0 ∨ n % 5 = 1 ∨ n % 5 = 2 ∨ n % 5 = 3 ∨ n % 5 = 4 := by omega
    rcases hk with hk | hk | hk | hk | hk
    · exact ⟨_, d1, xs, hR1, hS1, (hpick.and name_run).step 0 fun m _ h σ => bld_var_0_d hl h0 hx hs hn (h.1 σ) (by omega) (by omega) hk (h.2 _ σ (small_nat (by omega)))⟩
    · exact ⟨_, d1, xs, hR1, hS1, (hpick.and name_run).step 0 fun m _ h σ => bld_var_1_d hl h0 hx hs hn (h.1 σ) (by omega) (by omega) hk (h.2 _ σ (small_nat (by omega)))⟩
    · exact ⟨_, d1, xs, hR1, hS1, hpick.step 0 fun m _ h σ => bld_hole_2_d hl h0 hx hs hn (h σ) (by omega) (by omega) hk⟩
    · exact ⟨_, d1, xs, hR1, hS1, (hpick.and con_run).step 0 fun m _ h σ => bld_con_3_d hl h0 hx hs hn (h.1 σ) (by omega) (by omega) hk (h.2 _ σ (small_nat (by omega)))⟩
    · exact ⟨_, d1, xs, hR1, hS1, (hpick.and con_run).step 0 fun m _ h σ => bld_con_4_d hl h0 hx hs hn (h.1 σ) (by omega) (by omega) hk (h.2 _ σ (small_nat (by omega)))⟩
  | r + 1, deep, hr, d, x :: xs, hR, hS => by
    obtain ⟨d1, hs, hR1⟩ := row_tail hR
    have hS1 : Smalls xs := fun y hy => hS y (List.mem_cons_of_mem _ hy)
    have hl := row_len hR
    have hx := row_get hR 0 (by simp)
    have h0 : 0 < (x :: xs).length := by simp
    simp only [List.getElem_cons_zero] at hx
    have hpick : Evly fun n => ∀ σ, T n n_r01_Around [.int .i64 x, .int .i64 40] σ = some (.ret ⟨false, .int .i64 (aro x 40)⟩, σ) := aroundL.mono fun n h σ => h x 40 40 σ (hS x (by simp)) rfl (by omega) (by omega)
    have hn := aro_lt x (m := 40) (by omega)
    generalize aro x 40 = n at hpick hn
    obtain ⟨a, d2, xs2, hR2, hS2, ha⟩ := build_ok r (deep + 1) (by omega) d1 xs hR1 hS1
    obtain ⟨b, d3, xs3, hR3, hS3, hb⟩ := build_ok r (deep + 1) (by omega) d2 xs2 hR2 hS2
    have hk : n % 10 = 0 ∨ n % 10 = 1 ∨ n % 10 = 2 ∨ n % 10 = 3 ∨ n % 10 = 4 ∨ n % 10 = 5 ∨ n % 10 = 6 ∨ n % 10 = 7 ∨ n % 10 = 8 ∨ n % 10 = 9 := by omega
    rcases hk with hk | hk | hk | hk | hk | hk | hk | hk | hk | hk
    · exact ⟨_, d1, xs, hR1, hS1, (hpick.and name_run).step 0 fun m _ h σ => bld_var_0_s hl h0 hx hs hn (h.1 σ) (by omega) (by omega) hk (h.2 _ σ (small_nat (by omega)))⟩
    · exact ⟨_, d1, xs, hR1, hS1, (hpick.and name_run).step 0 fun m _ h σ => bld_var_1_s hl h0 hx hs hn (h.1 σ) (by omega) (by omega) hk (h.2 _ σ (small_nat (by omega)))⟩
    · exact ⟨_, d1, xs, hR1, hS1, hpick.step 0 fun m _ h σ => bld_hole_2_s hl h0 hx hs hn (h σ) (by omega) (by omega) hk⟩
    · exact ⟨_, d1, xs, hR1, hS1, (hpick.and con_run).step 0 fun m _ h σ => bld_con_3_s hl h0 hx hs hn (h.1 σ) (by omega) (by omega) hk (h.2 _ σ (small_nat (by omega)))⟩
    · exact ⟨_, d1, xs, hR1, hS1, (hpick.and con_run).step 0 fun m _ h σ => bld_con_4_s hl h0 hx hs hn (h.1 σ) (by omega) (by omega) hk (h.2 _ σ (small_nat (by omega)))⟩
    · exact ⟨_, d3, xs3, hR3, hS3, (hpick.and (ha.and (hb.and fun_run))).step 0 fun m _ h σ => bld_fun_5_s hl h0 hx hs hn (h.1 σ) (by omega) (by omega) hk (h.2.1 σ) (h.2.2.1 σ) (h.2.2.2 a b σ)⟩
    · exact ⟨_, d3, xs3, hR3, hS3, (hpick.and (ha.and (hb.and fun_run))).step 0 fun m _ h σ => bld_fun_6_s hl h0 hx hs hn (h.1 σ) (by omega) (by omega) hk (h.2.1 σ) (h.2.2.1 σ) (h.2.2.2 a b σ)⟩
    · exact ⟨_, d3, xs3, hR3, hS3, (hpick.and (ha.and (hb.and fun_run))).step 0 fun m _ h σ => bld_fun_7_s hl h0 hx hs hn (h.1 σ) (by omega) (by omega) hk (h.2.1 σ) (h.2.2.1 σ) (h.2.2.2 a b σ)⟩
    · exact ⟨_, d3, xs3, hR3, hS3, (hpick.and (ha.and (hb.and app_run))).step 0 fun m _ h σ => bld_app_8_s hl h0 hx hs hn (h.1 σ) (by omega) (by omega) hk (h.2.1 σ) (h.2.2.1 σ) (h.2.2.2 a b σ)⟩
    · exact ⟨_, d3, xs3, hR3, hS3, (hpick.and (ha.and (hb.and app_run))).step 0 fun m _ h σ => bld_app_9_s hl h0 hx hs hn (h.1 σ) (by omega) (by omega) hk (h.2.1 σ) (h.2.2.1 σ) (h.2.2.2 a b σ)⟩
theorem plain_run (d : D) (xs : List Int) (hR : Row d xs) (hS : Smalls xs) : ∃ t, Evly fun n => ∀ σ, T n n_r04_Plain [d] σ = some (.ret ⟨false, dT t⟩, σ) := by
  obtain ⟨d1, hR1, o, h1⟩ := ints_run d xs 24 hR (by omega)
  obtain ⟨t, d2, xs2, _, _, h2⟩ := build_ok 5 0 (by omega) d1 _ hR1 (smalls_take hS 24)
  refine ⟨t, (h1.and h2).step 0 fun m _ h σ => ?_⟩
  have e1 := h.1 σ
  have e2 := h.2 σ
  rw [T_fun (af := a_r04_Plain) rfl rfl]
  rw [dT_eq t] at e2 ⊢
  have l24 : ((24 : Nat) : Int) = 24 := rfl
  simp only [cT, l24, zeroI] at e1 e2 ⊢
  simp only [a_r04_Plain, sy0, sy1, sy2, sy3, sy4, sy5, caseO_none, caseO_some, ifB_false, ifB_true, clearEnv, adel, mem, initEnv, initSlots, stepOp, wantedA, evalOp, callOf, panicOf, evalV, addr, opd, opds, aget, aset, adel1, lkill, lfree, readCells, nth, Env.put, Env.putV, Env.box, Env.bare, dropOwn, dropOwnS, binD, binBD, binBool, binInt, binStr, unD, mmD, AOpd.drop, Cell.of, AOp.kind, stableOf, sameKind, assertD, eqlB, isUndef, takeC, unownAt, fits, layCells, putCells, putD, fillD, partsOf, optLo, optHi, allSize, Option.getD_some, Option.getD_none, runDefers, readRes, readRes1, readRess, Nat.reduceAdd, Nat.reduceSub, Nat.reduceMul, Nat.reduceBEq, Nat.ble, Bool.false_and, Bool.true_and, Bool.and_true, Bool.and_false, Bool.or_true, Bool.true_or, Bool.or_false, Bool.false_or, Nat.zero_add, Nat.add_zero, beq_self_eq_true, Bool.true_beq, Bool.false_beq, Bool.not_true, Bool.not_false, decide_true, decide_false, bindO, List.map_cons, List.map_nil, List.length_cons, List.length_nil, List.append_nil, List.nil_append, List.cons_append, List.isEmpty_nil, List.isEmpty_cons, List.all_nil, List.all_cons, Nat.reduceLeDiff, Int.reduceBEq, Int.reduceBNe, Int.reduceLE, Int.reduceLT, Int.reduceGE, Int.reduceGT, Int.reduceNeg, Nat.le_refl, k_api_Type_sz, k_api_Type_ag, k_api_Type_same, k_api_Pred_sz, k_api_Pred_ag, k_api_Pred_same, k_string_sz, k_string_ag, k_string_same, k_int_sz, k_int_ag, k_int_same, k_api_Kind_sz, k_api_Kind_ag, k_api_Kind_same, nat1, nat2, nat3, nat4, nat5, nat6, nat7, nat8, idxL, e1, e2]
end Go.Fu

/-
  A small world's predicates are made, whatever the numbers.
-/
namespace Go.Fu
open Go Go.Mx
set_option maxRecDepth 10000
def nms5 : D := dSs [[65], [66], [67], [68], [69]]
def clS (n : Nat) : List UInt8 := match n with
  | 0 => [65]
  | 1 => [66]
  | 2 => [67]
  | 3 => [68]
  | _ => [69]
theorem cls_get (n : Nat) : indexD 1 nms5 (n % 5) = some (.eptr (.str (clS (n % 5)))) := by
  have hk : n % 5 = 0 ∨ n % 5 = 1 ∨ n % 5 = 2 ∨ n % 5 = 3 ∨ n % 5 = 4 := by omega
  rcases hk with hk | hk | hk | hk | hk <;> rw [hk] <;> rfl
section
variable {C : CallF} {n : Nat} {σ : Store}
def Epr (o : Bool) (d : D) (out : List Pr) : Env := { slots := [(0, ⟨o, d⟩), (1, ⟨false, .int .i64 4⟩), (5, ⟨false, nms5⟩), (7, ⟨ow out.length, dlist k_api_Pred (out.map dP)⟩)], locs := [], boxes := [], defers := [] }
def Epe (o : Bool) (d : D) (out : List Pr) : Env := { slots := [(0, ⟨o, d⟩), (1, ⟨false, .int .i64 4⟩), (5, ⟨false, nms5⟩), (7, ⟨ow out.length, dlist k_api_Pred (out.map dP)⟩), (25, ⟨false, .bool false⟩)], locs := [], boxes := [], defers := [] }
theorem lpr_step (o : Bool) (d d1 d2 : D) (l p : Nat) (t : Tp) (out : List Pr) (hl : lenOf d = some l) (h0 : 0 < l) (ho : out.length < 4) (hp : C n_r12_pick [d, .int .i64 0] σ = some (.ret ⟨false, .int .i64 p⟩, σ)) (hs : sliceD 1 d 1 none = some d1)
    (hc : C n_r12_typ [d1, .int .i64 1] σ = some (.ret ⟨false, .tup [dT t, d2]⟩, σ)) : exec C n a_r12_Preds_l0 (Epr o d out) σ = some (.normal, Epr false d2 (out ++ [⟨clS (p % 5), t⟩]), σ) := by
  have h1 : ((l : Int) > 0) := by omega
  have h2 : ((out.length : Int) < 4) := by omega
  have hm : ((p : Int)).tmod 5 = ((p % 5 : Nat) : Int) := tmodN p 5
  have hx := cls_get p
  have ha := append_P out ⟨clS (p % 5), t⟩ (ow out.length) (by cases out with
    | nil => intro h; exact absurd rfl h
    | cons x r => intro _; rfl) (by omega)
  rw [dT_eq t] at hc
  have how : ow (out ++ [(⟨clS (p % 5), t⟩ : Pr)]).length = true := by simp [ow_succ]
  simp only [dP_eq, cT] at hc ha
  simp only [a_r12_Preds_l0, Epr, sy0, sy1, sy2, sy3, sy4, sy5, caseO_none, caseO_some, ifB_false, ifB_true, clearEnv, adel, mem, initEnv, initSlots, stepOp, wantedA, evalOp, callOf, panicOf, evalV, addr, opd, opds, aget, aset, adel1, lkill, lfree, readCells, nth, Env.put, Env.putV, Env.box, Env.bare, dropOwn, dropOwnS, binD, binBD, binBool, binInt, binStr, unD, mmD, AOpd.drop, Cell.of, AOp.kind, stableOf, sameKind, assertD, eqlB, isUndef, takeC, unownAt, fits, layCells, putCells, putD, fillD, partsOf, optLo, optHi, allSize, Option.getD_some, Option.getD_none, runDefers, readRes, readRes1, readRess, Nat.reduceAdd, Nat.reduceSub, Nat.reduceMul, Nat.reduceBEq, Nat.ble, Bool.false_and, Bool.true_and, Bool.and_true, Bool.and_false, Bool.or_true, Bool.true_or, Bool.or_false, Bool.false_or, Nat.zero_add, Nat.add_zero, beq_self_eq_true, Bool.true_beq, Bool.false_beq, Bool.not_true, Bool.not_false, decide_true, decide_false, bindO, List.map_cons, List.map_nil, List.length_cons, List.length_nil, List.append_nil, List.nil_append, List.cons_append, List.isEmpty_nil, List.isEmpty_cons, List.all_nil, List.all_cons, Nat.reduceLeDiff, Int.reduceBEq, Int.reduceBNe, Int.reduceLE, Int.reduceLT, Int.reduceGE, Int.reduceGT, Int.reduceNeg, Nat.le_refl, k_api_Type_sz, k_api_Type_ag, k_api_Type_same, k_api_Pred_sz, k_api_Pred_ag, k_api_Pred_same, k_string_sz, k_string_ag, k_string_same, k_int_sz, k_int_ag, k_int_same, k_api_Kind_sz, k_api_Kind_ag, k_api_Kind_same, nat1, nat2, nat3, nat4, nat5, nat6, nat7, nat8, idxL, List.length_map, hl, h1, h2, hp, hs, hc, hm, hx, ha, how]
theorem lpr_end0 (o : Bool) (d : D) (out : List Pr) (hl : lenOf d = some 0) : exec C n a_r12_Preds_l0 (Epr o d out) σ = some (.exit 0, Epe o d out, σ) := by
  have h1 : ¬ (((0 : Nat) : Int) > 0) := by omega
  simp only [a_r12_Preds_l0, Epr, Epe, sy0, sy1, sy2, sy3, sy4, sy5, caseO_none, caseO_some, ifB_false, ifB_true, clearEnv, adel, mem, initEnv, initSlots, stepOp, wantedA, evalOp, callOf, panicOf, evalV, addr, opd, opds, aget, aset, adel1, lkill, lfree, readCells, nth, Env.put, Env.putV, Env.box, Env.bare, dropOwn, dropOwnS, binD, binBD, binBool, binInt, binStr, unD, mmD, AOpd.drop, Cell.of, AOp.kind, stableOf, sameKind, assertD, eqlB, isUndef, takeC, unownAt, fits, layCells, putCells, putD, fillD, partsOf, optLo, optHi, allSize, Option.getD_some, Option.getD_none, runDefers, readRes, readRes1, readRess, Nat.reduceAdd, Nat.reduceSub, Nat.reduceMul, Nat.reduceBEq, Nat.ble, Bool.false_and, Bool.true_and, Bool.and_true, Bool.and_false, Bool.or_true, Bool.true_or, Bool.or_false, Bool.false_or, Nat.zero_add, Nat.add_zero, beq_self_eq_true, Bool.true_beq, Bool.false_beq, Bool.not_true, Bool.not_false, decide_true, decide_false, bindO, List.map_cons, List.map_nil, List.length_cons, List.length_nil, List.append_nil, List.nil_append, List.cons_append, List.isEmpty_nil, List.isEmpty_cons, List.all_nil, List.all_cons, Nat.reduceLeDiff, Int.reduceBEq, Int.reduceBNe, Int.reduceLE, Int.reduceLT, Int.reduceGE, Int.reduceGT, Int.reduceNeg, Nat.le_refl, k_api_Type_sz, k_api_Type_ag, k_api_Type_same, k_api_Pred_sz, k_api_Pred_ag, k_api_Pred_same, k_string_sz, k_string_ag, k_string_same, k_int_sz, k_int_ag, k_int_same, k_api_Kind_sz, k_api_Kind_ag, k_api_Kind_same, nat1, nat2, nat3, nat4, nat5, nat6, nat7, nat8, idxL, List.length_map, hl, h1]
theorem lpr_end4 (o : Bool) (d : D) (l : Nat) (out : List Pr) (hl : lenOf d = some l) (h0 : 0 < l) (ho : out.length = 4) : exec C n a_r12_Preds_l0 (Epr o d out) σ = some (.exit 0, Epe o d out, σ) := by
  have h1 : ((l : Int) > 0) := by omega
  have h2 : ¬ ((out.length : Int) < 4) := by omega
  simp only [a_r12_Preds_l0, Epr, Epe, sy0, sy1, sy2, sy3, sy4, sy5, caseO_none, caseO_some, ifB_false, ifB_true, clearEnv, adel, mem, initEnv, initSlots, stepOp, wantedA, evalOp, callOf, panicOf, evalV, addr, opd, opds, aget, aset, adel1, lkill, lfree, readCells, nth, Env.put, Env.putV, Env.box, Env.bare, dropOwn, dropOwnS, binD, binBD, binBool, binInt, binStr, unD, mmD, AOpd.drop, Cell.of, AOp.kind, stableOf, sameKind, assertD, eqlB, isUndef, takeC, unownAt, fits, layCells, putCells, putD, fillD, partsOf, optLo, optHi, allSize, Option.getD_some, Option.getD_none, runDefers, readRes, readRes1, readRess, Nat.reduceAdd, Nat.reduceSub, Nat.reduceMul, Nat.reduceBEq, Nat.ble, Bool.false_and, Bool.true_and, Bool.and_true, Bool.and_false, Bool.or_true, Bool.true_or, Bool.or_false, Bool.false_or, Nat.zero_add, Nat.add_zero, beq_self_eq_true, Bool.true_beq, Bool.false_beq, Bool.not_true, Bool.not_false, decide_true, decide_false, bindO, List.map_cons, List.map_nil, List.length_cons, List.length_nil, List.append_nil, List.nil_append, List.cons_append, List.isEmpty_nil, List.isEmpty_cons, List.all_nil, List.all_cons, Nat.reduceLeDiff, Int.reduceBEq, Int.reduceBNe, Int.reduceLE, Int.reduceLT, Int.reduceGE, Int.reduceGT, Int.reduceNeg, Nat.le_refl, k_api_Type_sz, k_api_Type_ag, k_api_Type_same, k_api_Pred_sz, k_api_Pred_ag, k_api_Pred_same, k_string_sz, k_string_ag, k_string_same, k_int_sz, k_int_ag, k_int_same, k_api_Kind_sz, k_api_Kind_ag, k_api_Kind_same, nat1, nat2, nat3, nat4, nat5, nat6, nat7, nat8, idxL, List.length_map, hl, h1, h2]
end
theorem preds_loop : ∀ (c : Nat) (o : Bool) (d : D) (xs : List Int) (out : List Pr), out.length + c = 4 → Row d xs → Smalls xs → ∃ o' d' out', out'.length ≤ 4 ∧ Evly fun m => ∀ k σ, c + 1 ≤ k → loopN (exec (T m) m a_r12_Preds_l0) k (Epr o d out) σ = some (.exit 0, Epe o' d' out', σ)
  | c, o, d, [], out, hc, hR, hS => ⟨o, d, out, by omega, .all fun m k σ hk => by
    obtain ⟨k, rfl⟩ : ∃ j, k = j + 1 := ⟨k - 1, by omega⟩
    exact loopN_one (lpr_end0 o d out (row_len hR))⟩
  | 0, o, d, x :: xs, out, hc, hR, hS => ⟨o, d, out, by omega, .all fun m k σ hk => by
    obtain ⟨k, rfl⟩ : ∃ j, k = j + 1 := ⟨k - 1, by omega⟩
    exact loopN_one (lpr_end4 o d _ out (row_len hR) (by simp) hc)⟩
  | c + 1, o, d, x :: xs, out, hc, hR, hS => by
    obtain ⟨d1, hs, hR1⟩ := row_tail hR
    have hS1 : Smalls xs := fun y hy => hS y (List.mem_cons_of_mem _ hy)
    obtain ⟨t, d2, xs2, hR2, hS2, _, ht⟩ := typ_ok 3 1 (by omega) d1 xs hR1 hS1
    have hpick := pick_run d _ hR hS
    obtain ⟨o', d', out', hl, hrest⟩ := preds_loop c false d2 xs2 (out ++ [⟨clS (pk (x :: xs) % 5), t⟩]) (by simp; omega) hR2 hS2
    refine ⟨o', d', out', hl, (hrest.and (ht.and hpick)).mono fun m h k σ hk => ?_⟩
    obtain ⟨k, rfl⟩ : ∃ j, k = j + 1 := ⟨k - 1, by omega⟩
    rw [loopN_more (lpr_step o d d1 d2 _ _ t out (row_len hR) (by simp) (by omega) (h.2.2 σ) hs (h.2.1 σ))]
    exact h.1 k σ (by omega)
theorem preds_run (d : D) (xs : List Int) (hR : Row d xs) (hS : Smalls xs) : ∃ ps : List Pr, ps.length ≤ 4 ∧ Evly fun n => ∀ σ, T n n_r12_Preds [d, .int .i64 4] σ = some (.ret ⟨ow ps.length, dPs ps⟩, σ) := by
  obtain ⟨d1, hR1, o, h1⟩ := ints_run d xs 30 hR (by omega)
  obtain ⟨o', d', ps, hl, h2⟩ := preds_loop 4 o d1 _ [] (by simp) hR1 (smalls_take hS 30)
  refine ⟨ps, hl, (h1.and (h2.and names_run)).step 6 fun m hm h σ => ?_⟩
  have e1 := h.1 σ
  have e2 := h.2.1 m σ (by omega)
  have e3 := h.2.2 σ
  have l30 : ((30 : Nat) : Int) = 30 := rfl
  rw [T_fun (af := a_r12_Preds) rfl rfl]
  simp only [l30, Epr, Epe, List.map_nil, dlist_nil, List.length_nil, ow_zero, nms5] at e1 e2
  simp only [a_r12_Preds, sy0, sy1, sy2, sy3, sy4, sy5, caseO_none, caseO_some, ifB_false, ifB_true, clearEnv, adel, mem, initEnv, initSlots, stepOp, wantedA, evalOp, callOf, panicOf, evalV, addr, opd, opds, aget, aset, adel1, lkill, lfree, readCells, nth, Env.put, Env.putV, Env.box, Env.bare, dropOwn, dropOwnS, binD, binBD, binBool, binInt, binStr, unD, mmD, AOpd.drop, Cell.of, AOp.kind, stableOf, sameKind, assertD, eqlB, isUndef, takeC, unownAt, fits, layCells, putCells, putD, fillD, partsOf, optLo, optHi, allSize, Option.getD_some, Option.getD_none, runDefers, readRes, readRes1, readRess, Nat.reduceAdd, Nat.reduceSub, Nat.reduceMul, Nat.reduceBEq, Nat.ble, Bool.false_and, Bool.true_and, Bool.and_true, Bool.and_false, Bool.or_true, Bool.true_or, Bool.or_false, Bool.false_or, Nat.zero_add, Nat.add_zero, beq_self_eq_true, Bool.true_beq, Bool.false_beq, Bool.not_true, Bool.not_false, decide_true, decide_false, bindO, List.map_cons, List.map_nil, List.length_cons, List.length_nil, List.append_nil, List.nil_append, List.cons_append, List.isEmpty_nil, List.isEmpty_cons, List.all_nil, List.all_cons, Nat.reduceLeDiff, Int.reduceBEq, Int.reduceBNe, Int.reduceLE, Int.reduceLT, Int.reduceGE, Int.reduceGT, Int.reduceNeg, Nat.le_refl, k_api_Type_sz, k_api_Type_ag, k_api_Type_same, k_api_Pred_sz, k_api_Pred_ag, k_api_Pred_same, k_string_sz, k_string_ag, k_string_same, k_int_sz, k_int_ag, k_int_same, k_api_Kind_sz, k_api_Kind_ag, k_api_Kind_same, nat1, nat2, nat3, nat4, nat5, nat6, nat7, nat8, idxL, e1, e2, e3, dPs]
end Go.Fu

