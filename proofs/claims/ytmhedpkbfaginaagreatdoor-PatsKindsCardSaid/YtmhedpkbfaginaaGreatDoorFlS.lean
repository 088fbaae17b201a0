/-
  Numbers that are picked; a field's type.
-/
import Derived.Test.YtmhedpkbfaginaaGreatDoorFlX
import Derived.Test.YtmhedpkbfaginaaGreatDoorFlM
set_option maxHeartbeats 4000000
set_option linter.unusedSimpArgs false
set_option linter.unusedVariables false
set_option linter.unusedSectionVars false
namespace Go.Fu
open Go Go.Mx
set_option maxRecDepth 10000
set_option maxHeartbeats 4000000
structure IR (d : D) (xs : List Int) : Prop where
  len : lenOf d = some xs.length
  idx : ∀ i (h : i < xs.length), indexD 1 d i = some (.eptr (.int .i64 xs[i]))
  np : noPtr d = true
  small : ∀ x ∈ xs, Small x
def pickI (x : Int) : Nat := (if x < 0 then -(x + 1) else x).toNat
def pickM (xs : List Int) (at' : Nat) : Nat := if h : at' < xs.length then pickI xs[at'] else 0
theorem pickI_lt {x : Int} (h : Small x) : pickI x < 9223372036854775808 := by
  unfold pickI Small at *
  split <;> omega
theorem pickM_lt {xs : List Int} (h : ∀ x ∈ xs, Small x) (i : Nat) : pickM xs i < 9223372036854775808 := by
  unfold pickM
  split
  · exact pickI_lt (h _ (List.getElem_mem _))
  · omega
theorem pick_pure {d : D} {xs : List Int} (hR : IR d xs) (i : Nat) (hi : i < 1099511627776) : OkP n_18 [d, .int .i64 i] ⟨false, .int .i64 (pickM xs i : Nat)⟩ := by
  refine pure_fun (af := a_49) (n := 1) (σ' := σ0) (T_sound [] 0) rfl rfl (by simp [noPtrL, hR.np, noPtr]) rfl ?_
  by_cases h : i < xs.length
  · have h1 : ¬ ((xs.length : Int) ≤ (i : Int)) := by omega
    have hx := hR.idx i h
    have hs := hR.small _ (List.getElem_mem h)
    have hp : pickM xs i = pickI xs[i] := by simp [pickM, h]
    rw [hp]
    generalize xs[i] = x at hx hs
    unfold Small at hs
    by_cases h2 : x < 0
    · have e1 : IntKind.i64.wrap (x + 1) = x + 1 := wrap64 (by omega) (by omega)
      have e2 : IntKind.i64.wrap (0 - (x + 1)) = (pickI x : Int) := by
        rw [wrap64 (by omega) (by omega)]
        simp only [pickI, if_pos h2]
        omega
      simp only [a_49, sA, Nat.reduceAdd, Nat.reduceSub, Nat.reduceMul, Nat.reduceBEq, Nat.reduceLeDiff, Int.reduceBEq, Int.reduceBNe, Int.reduceLE, Int.reduceLT, Int.reduceGE, Int.reduceGT, Int.reduceNeg, kn, hR.len, h1, natI, hx, h2, e1, e2]
    · have e2 : x = (pickI x : Int) := by
        simp only [pickI, if_neg h2]
        omega
      simp only [a_49, sA, Nat.reduceAdd, Nat.reduceSub, Nat.reduceMul, Nat.reduceBEq, Nat.reduceLeDiff, Int.reduceBEq, Int.reduceBNe, Int.reduceLE, Int.reduceLT, Int.reduceGE, Int.reduceGT, Int.reduceNeg, kn, hR.len, h1, natI, hx, h2]
      rw [← e2]
  · have h1 : ((xs.length : Int) ≤ (i : Int)) := by omega
    have hp : pickM xs i = 0 := by simp [pickM, h]
    rw [hp]
    simp only [a_49, sA, Nat.reduceAdd, Nat.reduceSub, Nat.reduceMul, Nat.reduceBEq, Nat.reduceLeDiff, Int.reduceBEq, Int.reduceBNe, Int.reduceLE, Int.reduceLT, Int.reduceGE, Int.reduceGT, Int.reduceNeg, kn, hR.len, h1]
    rfl
theorem tmodN (a b : Nat) : ((a : Int)).tmod (b : Int) = ((a % b : Nat) : Int) := by rw [Int.tmod_eq_emod_of_nonneg (by omega)]; omega
theorem tdivN (a b : Nat) : ((a : Int)).tdiv (b : Int) = ((a / b : Nat) : Int) := by rw [Int.tdiv_eq_ediv_of_nonneg (by omega)]; omega
section
variable {C : CallF} {n : Nat} {σ : Store}
def rv (vs : List Tx) (q j : Nat) : List Ty := (List.range j).map fun j => tVar (vs.getD ((q + j) % vs.length) [])
theorem rv_len (vs : List Tx) (q j : Nat) : (rv vs q j).length = j := by simp [rv]
theorem rv_succ (vs : List Tx) (q j : Nat) : rv vs q (j + 1) = rv vs q j ++ [tVar (vs.getD ((q + j) % vs.length) [])] := by
  simp only [rv, List.range_succ, List.map_append, List.map_cons, List.map_nil]
def Erf (vs : List Tx) (d : Da) (p q j : Nat) : Env := { slots := [(1, ⟨false, dSs vs⟩), (7, ⟨false, .int .i64 q⟩), (9, ⟨fl (rv vs q j), dTl (rv vs q j)⟩), (10, ⟨false, .int .i64 j⟩)], locs := [(6, 6, 0), (8, 8, 0)], boxes := [(6, [⟨false, .int .i64 0⟩, ⟨false, .int .i64 0⟩, ⟨false, .str []⟩, ⟨false, .nils⟩]), (8, bD d)], defers := [] }
theorem rf_step (vs : List Tx) (d : Da) (p q j : Nat) (hq : q < 4611686018427387904) (hj : j < d.vars.length) (hl : d.vars.length ≤ 1000) (hv : 0 < vs.length) (hvl : vs.length ≤ 1000) : exec C n none a_47 (Erf vs d p q j) σ = some (.normal, Erf vs d p q (j + 1), σ) := by
  have hlt : ((j : Int) < d.vars.length) := by omega
  have w := wrap64_succ (i := j) (by omega)
  have w2 : IntKind.i64.wrap ((q : Int) + (j : Int)) = ((q + j : Nat) : Int) := by rw [wrap64 (by omega) (by omega)]; omega
  have hm := tmodN (q + j) vs.length
  have hmlt : (q + j) % vs.length < vs.length := Nat.mod_lt _ hv
  have hx := idx_S vs _ hmlt
  have hlS := len_S vs
  have hlS2 := len_S d.vars
  have hz : ((vs.length : Int) == 0) = false := beq_false_of_ne (by omega)
  have hw3 : IntKind.i64.wrap (((q + j) % vs.length : Nat) : Int) = (((q + j) % vs.length : Nat) : Int) := wrap64 (by omega) (by omega)
  have hap := app_T (rv vs q j) (tVar (vs.getD ((q + j) % vs.length) [])) (fl (rv vs q j)) fl_ne (by rw [rv_len]; omega)
  unfold Erf
  rw [rv_succ, fl_snoc]
  rw [getD_eq _ _ _ hmlt] at hap ⊢
  generalize rv vs q j = A at *
  generalize vs[(q + j) % vs.length] = x at *
  have e0 : dTy (tVar x) = .agg [.int .i64 2, .int .i64 0, .str x, .nils] := rfl
  rw [e0] at hap
  simp only [a_47, bD, sA, Nat.reduceAdd, Nat.reduceSub, Nat.reduceMul, Nat.reduceBEq, Nat.reduceLeDiff, Int.reduceBEq, Int.reduceBNe, Int.reduceLE, Int.reduceLT, Int.reduceGE, Int.reduceGT, Int.reduceNeg, kn, onel, hlt, hlS, hlS2, w2, hz, hm, hw3, natI, hx, hap, w]
theorem rf_end (vs : List Tx) (d : Da) (p q : Nat) : exec C n none a_47 (Erf vs d p q d.vars.length) σ = some (.exit 0, { slots := [(1, ⟨false, dSs vs⟩), (7, ⟨false, .int .i64 q⟩), (9, ⟨fl (rv vs q d.vars.length), dTl (rv vs q d.vars.length)⟩), (10, ⟨false, .int .i64 d.vars.length⟩), (59, ⟨false, .bool false⟩)], locs := [(6, 6, 0), (8, 8, 0)], boxes := [(6, [⟨false, .int .i64 0⟩, ⟨false, .int .i64 0⟩, ⟨false, .str []⟩, ⟨false, .nils⟩]), (8, bD d)], defers := [] }, σ) := by
  have hlt : ¬ ((d.vars.length : Int) < d.vars.length) := by omega
  have hlS2 := len_S d.vars
  unfold Erf
  generalize rv vs q d.vars.length = A at *
  simp only [a_47, bD, sA, Nat.reduceAdd, Nat.reduceSub, Nat.reduceMul, Nat.reduceBEq, Nat.reduceLeDiff, Int.reduceBEq, Int.reduceBNe, Int.reduceLE, Int.reduceLT, Int.reduceGE, Int.reduceGT, Int.reduceNeg, kn, onel, hlt, hlS2]
end
def SFd : Specs := [(n_6, sp_given), (n_77, sp_rfun)]
theorem fine_rv (vs : List Tx) (q j : Nat) : ∀ a ∈ rv vs q j, Fine a := fun a ha => by
  obtain ⟨s, _, rfl⟩ := List.mem_map.1 ha
  exact fine_var _
theorem rv_mem (vs : List Tx) (hv : 0 < vs.length) (q j : Nat) : ∀ a ∈ rv vs q j, ∃ x ∈ vs, a = tVar x := fun a ha => by
  obtain ⟨k, _, rfl⟩ := List.mem_map.1 ha
  have h := Nat.mod_lt (q + k) hv
  exact ⟨_, List.getElem_mem h, by rw [getD_eq _ _ _ h]⟩
def arl (L : List Da) : List (Tx × Nat) := L.map fun d => (d.name, d.vars.length)
inductive KF (vs : List Tx) (ar : List (Tx × Nat)) : Ty → Prop
  | var {x : Tx} (h : x ∈ vs) : KF vs ar (tVar x)
  | int : KF vs ar (givenM [73, 110, 116] [])
  | fn : KF vs ar (tFun (givenM [73, 110, 116] []) (givenM [66, 111, 111, 108] []))
  | data {s : Tx} {l : List Ty} (h : (s, l.length) ∈ ar) (hl : ∀ a ∈ l, ∃ x ∈ vs, a = tVar x) : KF vs ar (givenM s l)
theorem KF.mono {vs : List Tx} {ar ar' : List (Tx × Nat)} (hs : ∀ x ∈ ar, x ∈ ar') {t : Ty} (h : KF vs ar t) : KF vs ar' t := by
  cases h with
  | var h => exact .var h
  | int => exact .int
  | fn => exact .fn
  | data h hl => exact .data (hs _ h) hl
theorem field_ok (p : Nat) (hp : p < 9223372036854775808) (vs : List Tx) (hvl : vs.length ≤ 1000) (L : List Da) (hL : L.length ≤ 1000) (hvs : ∀ d ∈ L, d.vars.length ≤ 1000) : ∃ t, Fine t ∧ KF vs (arl L) t ∧ OkP n_32 [.int .i64 p, dSs vs, dDl L] ⟨false, dTy t⟩ := by
  have mk : ∀ {t : Ty} {o : Bool} {σ'}, finX Ra (fun _ _ _ => none) a_7 0 (exec (T SFd 1) 1001 none a_7.body (initEnv [.int .i64 p, dSs vs, dDl L]) σ0) = some (.ret ⟨o, dTy t⟩, σ') → OkP n_32 [.int .i64 p, dSs vs, dDl L] ⟨false, dTy t⟩ := fun {t o σ'} hr =>
    OkP.weak (o := o) rfl (pure_fun (af := a_7) (n := 1001) (σ' := σ') (T_sound SFd 1) rfl rfl (by simp [noPtrL, noPtr, noPtr_dSs, noPtr_dDl]) (noPtr_dTy _) hr)
  have t5 : ((p : Int)).tmod 5 = ((p % 5 : Nat) : Int) := tmodN p 5
  have w5 : IntKind.i64.wrap ((p % 5 : Nat) : Int) = ((p % 5 : Nat) : Int) := wrap64 (by omega) (by omega)
  have d5 : ((p : Int)).tdiv 5 = ((p / 5 : Nat) : Int) := tdivN p 5
  have w4 : IntKind.i64.wrap ((p / 5 : Nat) : Int) = ((p / 5 : Nat) : Int) := wrap64 (by omega) (by omega)
  have lS := len_S vs
  have lD := len_D L
  have gI := call_given (S := SFd) rfl [73, 110, 116] [] (by simp) 0 σ0
  have gB := call_given (S := SFd) rfl [66, 111, 111, 108] [] (by simp) 0 σ0
  have gF := call_rfun (S := SFd) rfl (givenM [73, 110, 116] []) (givenM [66, 111, 111, 108] []) 0 σ0
  have fI : Fine (givenM [73, 110, 116] []) := fine_con _
  have fB : Fine (givenM [66, 111, 111, 108] []) := fine_con _
  have fF := fine_fun fI fB
  have kI : KF vs (arl L) (givenM [73, 110, 116] []) := .int
  have kF : KF vs (arl L) (tFun (givenM [73, 110, 116] []) (givenM [66, 111, 111, 108] [])) := .fn
  generalize givenM [73, 110, 116] [] = tI at *
  generalize givenM [66, 111, 111, 108] [] = tB at *
  generalize tFun tI tB = tF at *
  simp only [tys0, dTy_eq, cTy_eq] at gI gB gF
  by_cases c0 : p % 5 = 0 ∧ 0 < vs.length
  · obtain ⟨c0, hv⟩ := c0
    have b0 : (((p % 5 : Nat) : Int) == 0) = true := by rw [c0]; rfl
    have hg : ((vs.length : Int) > 0) := by omega
    have tn : (((p / 5 : Nat) : Int)).tmod (vs.length : Int) = ((p / 5 % vs.length : Nat) : Int) := tmodN _ _
    have hj : p / 5 % vs.length < vs.length := Nat.mod_lt _ hv
    have hx := idx_S vs _ hj
    have wn : IntKind.i64.wrap ((p / 5 % vs.length : Nat) : Int) = ((p / 5 % vs.length : Nat) : Int) := wrap64 (by omega) (by omega)
    have hz : ((vs.length : Int) == 0) = false := beq_false_of_ne (by omega)
    have hxm : vs[p / 5 % vs.length] ∈ vs := List.getElem_mem hj
    generalize vs[p / 5 % vs.length] = x at hx hxm
    refine ⟨tVar x, fine_var x, .var hxm, mk (o := false) (σ' := σ0) ?_⟩
    have e0 : dTy (tVar x) = .agg [.int .i64 2, .int .i64 0, .str x, .nils] := rfl
    rw [e0]
    simp only [a_7, sA, Nat.reduceAdd, Nat.reduceSub, Nat.reduceMul, Nat.reduceBEq, Nat.reduceLeDiff, Int.reduceBEq, Int.reduceBNe, Int.reduceLE, Int.reduceLT, Int.reduceGE, Int.reduceGT, Int.reduceNeg, kn, onel, t5, w5, d5, w4, b0, lS, hg, tn, wn, hz, natI, hx]
  · have hc0 : (((p % 5 : Nat) : Int) == 0) = false ∨ ((((p % 5 : Nat) : Int) == 0) = true ∧ ¬ ((vs.length : Int) > 0)) := by
      by_cases h : p % 5 = 0
      · exact .inr ⟨by rw [h]; rfl, fun hv => c0 ⟨h, by omega⟩⟩
      · exact .inl (beq_false_of_ne (by omega))
    by_cases c1 : p % 5 = 1
    · have b0 : (((p % 5 : Nat) : Int) == 0) = false := by rw [c1]; rfl
      have b1 : (((p % 5 : Nat) : Int) == 1) = true := by rw [c1]; rfl
      refine ⟨tF, fF, kF, mk (o := false) (σ' := σ0) ?_⟩
      simp only [a_7, sA, Nat.reduceAdd, Nat.reduceSub, Nat.reduceMul, Nat.reduceBEq, Nat.reduceLeDiff, Int.reduceBEq, Int.reduceBNe, Int.reduceLE, Int.reduceLT, Int.reduceGE, Int.reduceGT, Int.reduceNeg, kn, onel, dTy_eq, cTy_eq, t5, w5, d5, w4, b0, b1, gI, gB, gF]
    · have b1 : (((p % 5 : Nat) : Int) == 1) = false := beq_false_of_ne (by omega)
      by_cases c2 : 2 < p % 5 ∧ 0 < L.length ∧ 0 < vs.length
      · obtain ⟨c2, hL0, hv⟩ := c2
        have b0 : (((p % 5 : Nat) : Int) == 0) = false := beq_false_of_ne (by omega)
        have b2 : ((p % 5 : Nat) : Int) > 2 := by omega
        have g1 : (L.length : Int) > 0 := by omega
        have g2 : (vs.length : Int) > 0 := by omega
        have tn : (((p / 5 : Nat) : Int)).tmod (L.length : Int) = ((p / 5 % L.length : Nat) : Int) := tmodN _ _
        have hj : p / 5 % L.length < L.length := Nat.mod_lt _ hL0
        have hx := idx_D L _ hj
        have wn : IntKind.i64.wrap ((p / 5 % L.length : Nat) : Int) = ((p / 5 % L.length : Nat) : Int) := wrap64 (by omega) (by omega)
        have hz : ((L.length : Int) == 0) = false := beq_false_of_ne (by omega)
        have hdl := hvs _ (List.getElem_mem hj)
        have hmem := List.getElem_mem hj
        generalize L[p / 5 % L.length] = d at hx hdl hmem
        have hr := loopN_run (body := exec (T SFd 1) 1001 none a_47) (Erf vs d p (p / 5)) (fun _ => σ0) d.vars.length (r := _) (fun _ _ h => by cases h) (fun j hj => rf_step vs d p (p / 5) j (by omega) hj hdl hv hvl) (rf_end vs d p (p / 5)) 0 1001 (by omega) (by omega)
        have gv := call_given (S := SFd) rfl d.name (rv vs (p / 5) d.vars.length) (by rw [rv_len]; exact hdl) 0 σ0
        have fv := fine_given (rv vs (p / 5) d.vars.length) _ (fine_con d.name) (fine_rv _ _ _)
        have kd : KF vs (arl L) (givenM d.name (rv vs (p / 5) d.vars.length)) := .data (by rw [rv_len]; exact List.mem_map.2 ⟨d, hmem, rfl⟩) (rv_mem vs hv _ _)
        refine ⟨givenM d.name (rv vs (p / 5) d.vars.length), fv, kd, mk (o := false) (σ' := σ0) ?_⟩
        have r0 : rv vs (p / 5) 0 = [] := rfl
        have e0 : fl ([] : List Ty) = false := rfl
        simp only [Erf, r0, e0, tys0, zeroI, bD] at hr
        generalize givenM d.name (rv vs (p / 5) d.vars.length) = u at *
        generalize rv vs (p / 5) d.vars.length = A at *
        simp only [dTy_eq, cTy_eq] at gv
        simp only [dDa_eq] at hx
        simp only [a_7, sA, Nat.reduceAdd, Nat.reduceSub, Nat.reduceMul, Nat.reduceBEq, Nat.reduceLeDiff, Int.reduceBEq, Int.reduceBNe, Int.reduceLE, Int.reduceLT, Int.reduceGE, Int.reduceGT, Int.reduceNeg, kn, onel, dTy_eq, cTy_eq, t5, w5, d5, w4, b0, b1, b2, g1, g2, lS, lD, hz, tn, wn, natI, hx, hr, gv]
      · refine ⟨tI, fI, kI, mk (o := false) (σ' := σ0) ?_⟩
        have hc2 : (¬ (((p % 5 : Nat) : Int) > 2)) ∨ (((p % 5 : Nat) : Int) > 2 ∧ ¬ ((L.length : Int) > 0)) ∨ (((p % 5 : Nat) : Int) > 2 ∧ (L.length : Int) > 0 ∧ ¬ ((vs.length : Int) > 0)) := by omega
        rcases hc0 with b0 | ⟨b0, hv⟩
        · rcases hc2 with b2 | ⟨b2, g1⟩ | ⟨b2, g1, g2⟩
          · simp only [a_7, sA, Nat.reduceAdd, Nat.reduceSub, Nat.reduceMul, Nat.reduceBEq, Nat.reduceLeDiff, Int.reduceBEq, Int.reduceBNe, Int.reduceLE, Int.reduceLT, Int.reduceGE, Int.reduceGT, Int.reduceNeg, kn, onel, dTy_eq, cTy_eq, t5, w5, d5, w4, b0, b1, b2, lS, lD, gI]
          · simp only [a_7, sA, Nat.reduceAdd, Nat.reduceSub, Nat.reduceMul, Nat.reduceBEq, Nat.reduceLeDiff, Int.reduceBEq, Int.reduceBNe, Int.reduceLE, Int.reduceLT, Int.reduceGE, Int.reduceGT, Int.reduceNeg, kn, onel, dTy_eq, cTy_eq, t5, w5, d5, w4, b0, b1, b2, lS, lD, g1, gI]
          · simp only [a_7, sA, Nat.reduceAdd, Nat.reduceSub, Nat.reduceMul, Nat.reduceBEq, Nat.reduceLeDiff, Int.reduceBEq, Int.reduceBNe, Int.reduceLE, Int.reduceLT, Int.reduceGE, Int.reduceGT, Int.reduceNeg, kn, onel, dTy_eq, cTy_eq, t5, w5, d5, w4, b0, b1, b2, lS, lD, g1, g2, gI]
        · rcases hc2 with b2 | ⟨b2, g1⟩ | ⟨b2, g1, g2⟩
          · simp only [a_7, sA, Nat.reduceAdd, Nat.reduceSub, Nat.reduceMul, Nat.reduceBEq, Nat.reduceLeDiff, Int.reduceBEq, Int.reduceBNe, Int.reduceLE, Int.reduceLT, Int.reduceGE, Int.reduceGT, Int.reduceNeg, kn, onel, dTy_eq, cTy_eq, t5, w5, d5, w4, b0, b1, b2, lS, lD, hv, gI]
          · simp only [a_7, sA, Nat.reduceAdd, Nat.reduceSub, Nat.reduceMul, Nat.reduceBEq, Nat.reduceLeDiff, Int.reduceBEq, Int.reduceBNe, Int.reduceLE, Int.reduceLT, Int.reduceGE, Int.reduceGT, Int.reduceNeg, kn, onel, dTy_eq, cTy_eq, t5, w5, d5, w4, b0, b1, b2, lS, lD, g1, hv, gI]
          · simp only [a_7, sA, Nat.reduceAdd, Nat.reduceSub, Nat.reduceMul, Nat.reduceBEq, Nat.reduceLeDiff, Int.reduceBEq, Int.reduceBNe, Int.reduceLE, Int.reduceLT, Int.reduceGE, Int.reduceGT, Int.reduceNeg, kn, onel, dTy_eq, cTy_eq, t5, w5, d5, w4, b0, b1, b2, lS, lD, g1, g2, hv, gI]
end Go.Fu
