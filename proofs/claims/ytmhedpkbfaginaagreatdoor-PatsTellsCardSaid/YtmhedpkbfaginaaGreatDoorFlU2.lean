/-
  Numbers that are picked; a field's type.
-/
import Derived.Test.YtmhedpkbfaginaaGreatDoorFlX
import Derived.Test.YtmhedpkbfaginaaGreatDoorFlH
set_option maxHeartbeats 4000000
set_option linter.unusedSimpArgs false
set_option linter.unusedVariables false
set_option linter.unusedSectionVars false
namespace Go.Fu
open Go Go.Mx
set_option maxRecDepth 10000
set_option maxHeartbeats 4000000
structure IR (d : D) (xs : List Int) : Prop where
  len : lenOf d = some xs.length
  idx : ∀ i (h : i < xs.length), indexD 1 d i = some (.eptr (.int .i64 xs[i]))
  np : noPtr d = true
  small : ∀ x ∈ xs, Small x
def pickI (x : Int) : Nat := (if x < 0 then -(x + 1) else x).toNat
def pickM (xs : List Int) (at' : Nat) : Nat := if h : at' < xs.length then pickI xs[at'] else 0
theorem pickI_lt {x : Int} (h : Small x) : pickI x < 9223372036854775808 := by
  unfold pickI Small at *
  split <;> omega
theorem pickM_lt {xs : List Int} (h : ∀ x ∈ xs, Small x) (i : Nat) : pickM xs i < 9223372036854775808 := by
  unfold pickM
  split
  · exact pickI_lt (h _ (List.getElem_mem _))
  · omega
theorem pick_pure {d : D} {xs : List Int} (hR : IR d xs) (i : Nat) (hi : i < 1099511627776) : OkP n_13 [d, .int .i64 i] ⟨false, .int .i64 (pickM xs i : Nat)⟩ := by
  refine pure_fun (af := a_50) (n := 1) (σ' := σ0) (T_sound [] 0) rfl rfl (by simp [noPtrL, hR.np, noPtr]) rfl ?_
  by_cases h : i < xs.length
  · have h1 : ¬ ((xs.length : Int) ≤ (i : Int)) := by omega
    have hx := hR.idx i h
    have hs := hR.small _ (List.getElem_mem h)
    have hp : pickM xs i = pickI xs[i] := by simp [pickM, h]
    rw [hp]
    generalize xs[i] = x at hx hs
    unfold Small at hs
    by_cases h2 : x < 0
    · have e1 : IntKind.i64.wrap (x + 1) = x + 1 := wrap64 (by omega) (by omega)
      have e2 : IntKind.i64.wrap (0 - (x + 1)) = (pickI x : Int) := by
        rw [wrap64 (by omega) (by omega)]
        simp only [pickI, if_pos h2]
        omega
      simp only [a_50, sA, Nat.reduceAdd, Nat.reduceSub, Nat.reduceMul, Nat.reduceBEq, Nat.reduceLeDiff, Int.reduceBEq, Int.reduceBNe, Int.reduceLE, Int.reduceLT, Int.reduceGE, Int.reduceGT, Int.reduceNeg, kn, hR.len, h1, natI, hx, h2, e1, e2]
    · have e2 : x = (pickI x : Int) := by
        simp only [pickI, if_neg h2]
        omega
      simp only [a_50, sA, Nat.reduceAdd, Nat.reduceSub, Nat.reduceMul, Nat.reduceBEq, Nat.reduceLeDiff, Int.reduceBEq, Int.reduceBNe, Int.reduceLE, Int.reduceLT, Int.reduceGE, Int.reduceGT, Int.reduceNeg, kn, hR.len, h1, natI, hx, h2]
      rw [← e2]
  · have h1 : ((xs.length : Int) ≤ (i : Int)) := by omega
    have hp : pickM xs i = 0 := by simp [pickM, h]
    rw [hp]
    simp only [a_50, sA, Nat.reduceAdd, Nat.reduceSub, Nat.reduceMul, Nat.reduceBEq, Nat.reduceLeDiff, Int.reduceBEq, Int.reduceBNe, Int.reduceLE, Int.reduceLT, Int.reduceGE, Int.reduceGT, Int.reduceNeg, kn, hR.len, h1]
    rfl
theorem tmodN (a b : Nat) : ((a : Int)).tmod (b : Int) = ((a % b : Nat) : Int) := by rw [Int.tmod_eq_emod_of_nonneg (by omega)]; omega
theorem tdivN (a b : Nat) : ((a : Int)).tdiv (b : Int) = ((a / b : Nat) : Int) := by rw [Int.tdiv_eq_ediv_of_nonneg (by omega)]; omega
section
variable {C : CallF} {n : Nat} {σ : Store}
def rv (vs : List Tx) (q j : Nat) : List Ty := (List.range j).map fun j => tVar (vs.getD ((q + j) % vs.length) [])
theorem rv_len (vs : List Tx) (q j : Nat) : (rv vs q j).length = j := by simp [rv]
theorem rv_succ (vs : List Tx) (q j : Nat) : rv vs q (j + 1) = rv vs q j ++ [tVar (vs.getD ((q + j) % vs.length) [])] := by
  simp only [rv, List.range_succ, List.map_append, List.map_cons, List.map_nil]
def Erf (vs : List Tx) (d : Da) (p q j : Nat) : Env := { slots := [(1, ⟨false, dSs vs⟩), (7, ⟨false, .int .i64 q⟩), (9, ⟨fl (rv vs q j), dTl (rv vs q j)⟩), (10, ⟨false, .int .i64 j⟩)], locs := [(6, 6, 0), (8, 8, 0)], boxes := [(6, [⟨false, .int .i64 0⟩, ⟨false, .int .i64 0⟩, ⟨false, .str []⟩, ⟨false, .nils⟩]), (8, bD d)], defers := [] }
theorem rf_step (vs : List Tx) (d : Da) (p q j : Nat) (hq : q < 4611686018427387904) (hj : j < d.vars.length) (hl : d.vars.length ≤ 1000) (hv : 0 < vs.length) (hvl : vs.length ≤ 1000) : exec C n none a_48 (Erf vs d p q j) σ = some (.normal, Erf vs d p q (j + 1), σ) := by
  have hlt : ((j : Int) < d.vars.length) := by omega
  have w := wrap64_succ (i := j) (by omega)
  have w2 : IntKind.i64.wrap ((q : Int) + (j : Int)) = ((q + j : Nat) : Int) := by rw [wrap64 (by omega) (by omega)]; omega
  have hm := tmodN (q + j) vs.length
  have hmlt : (q + j) % vs.length < vs.length := Nat.mod_lt _ hv
  have hx := idx_S vs _ hmlt
  have hlS := len_S vs
  have hlS2 := len_S d.vars
  have hz : ((vs.length : Int) == 0) = false := beq_false_of_ne (by omega)
  have hw3 : IntKind.i64.wrap (((q + j) % vs.length : Nat) : Int) = (((q + j) % vs.length : Nat) : Int) := wrap64 (by omega) (by omega)
  have hap := app_T (rv vs q j) (tVar (vs.getD ((q + j) % vs.length) [])) (fl (rv vs q j)) fl_ne (by rw [rv_len]; omega)
  unfold Erf
  rw [rv_succ, fl_snoc]
  rw [getD_eq _ _ _ hmlt] at hap ⊢
  generalize rv vs q j = A at *
  generalize vs[(q + j) % vs.length] = x at *
  have e0 : dTy (tVar x) = .agg [.int .i64 2, .int .i64 0, .str x, .nils] := rfl
  rw [e0] at hap
  simp only [a_48, bD, sA, Nat.reduceAdd, Nat.reduceSub, Nat.reduceMul, Nat.reduceBEq, Nat.reduceLeDiff, Int.reduceBEq, Int.reduceBNe, Int.reduceLE, Int.reduceLT, Int.reduceGE, Int.reduceGT, Int.reduceNeg, kn, onel, hlt, hlS, hlS2, w2, hz, hm, hw3, natI, hx, hap, w]
theorem rf_end (vs : List Tx) (d : Da) (p q : Nat) : exec C n none a_48 (Erf vs d p q d.vars.length) σ = some (.exit 0, { slots := [(1, ⟨false, dSs vs⟩), (7, ⟨false, .int .i64 q⟩), (9, ⟨fl (rv vs q d.vars.length), dTl (rv vs q d.vars.length)⟩), (10, ⟨false, .int .i64 d.vars.length⟩), (59, ⟨false, .bool false⟩)], locs := [(6, 6, 0), (8, 8, 0)], boxes := [(6, [⟨false, .int .i64 0⟩, ⟨false, .int .i64 0⟩, ⟨false, .str []⟩, ⟨false, .nils⟩]), (8, bD d)], defers := [] }, σ) := by
  have hlt : ¬ ((d.vars.length : Int) < d.vars.length) := by omega
  have hlS2 := len_S d.vars
  unfold Erf
  generalize rv vs q d.vars.length = A at *
  simp only [a_48, bD, sA, Nat.reduceAdd, Nat.reduceSub, Nat.reduceMul, Nat.reduceBEq, Nat.reduceLeDiff, Int.reduceBEq, Int.reduceBNe, Int.reduceLE, Int.reduceLT, Int.reduceGE, Int.reduceGT, Int.reduceNeg, kn, onel, hlt, hlS2]
end
def SFd : Specs := [(n_4, sp_given), (n_19, sp_rfun)]
theorem fine_rv (vs : List Tx) (q j : Nat) : ∀ a ∈ rv vs q j, Fine a := fun a ha => by
  obtain ⟨s, _, rfl⟩ := List.mem_map.1 ha
  exact fine_var _
theorem field_ok (p : Nat) (hp : p < 9223372036854775808) (vs : List Tx) (hvl : vs.length ≤ 1000) (L : List Da) (hL : L.length ≤ 1000) (hvs : ∀ d ∈ L, d.vars.length ≤ 1000) : ∃ t, Fine t ∧ OkP n_30 [.int .i64 p, dSs vs, dDl L] ⟨false, dTy t⟩ := by
  have mk : ∀ {t : Ty} {o : Bool} {σ'}, finX Ra (fun _ _ _ => none) a_6 0 (exec (T SFd 1) 1001 none a_6.body (initEnv [.int .i64 p, dSs vs, dDl L]) σ0) = some (.ret ⟨o, dTy t⟩, σ') → OkP n_30 [.int .i64 p, dSs vs, dDl L] ⟨false, dTy t⟩ := fun {t o σ'} hr =>
    OkP.weak (o := o) rfl (pure_fun (af := a_6) (n := 1001) (σ' := σ') (T_sound SFd 1) rfl rfl (by simp [noPtrL, noPtr, noPtr_dSs, noPtr_dDl]) (noPtr_dTy _) hr)
  have t5 : ((p : Int)).tmod 5 = ((p % 5 : Nat) : Int) := tmodN p 5
  have w5 : IntKind.i64.wrap ((p % 5 : Nat) : Int) = ((p % 5 : Nat) : Int) := wrap64 (by omega) (by omega)
  have d5 : ((p : Int)).tdiv 5 = ((p / 5 : Nat) : Int) := tdivN p 5
  have w4 : IntKind.i64.wrap ((p / 5 : Nat) : Int) = ((p / 5 : Nat) : Int) := wrap64 (by omega) (by omega)
  have lS := len_S vs
  have lD := len_D L
  have gI := call_given (S := SFd) rfl [73, 110, 116] [] (by simp) 0 σ0
  have gB := call_given (S := SFd) rfl [66, 111, 111, 108] [] (by simp) 0 σ0
  have gF := call_rfun (S := SFd) rfl (givenM [73, 110, 116] []) (givenM [66, 111, 111, 108] []) 0 σ0
  have fI : Fine (givenM [73, 110, 116] []) := fine_con _
  have fB : Fine (givenM [66, 111, 111, 108] []) := fine_con _
  have fF := fine_fun fI fB
  generalize givenM [73, 110, 116] [] = tI at *
  generalize givenM [66, 111, 111, 108] [] = tB at *
  generalize tFun tI tB = tF at *
  simp only [tys0, dTy_eq, cTy_eq] at gI gB gF
  by_cases c0 : p % 5 = 0 ∧ 0 < vs.length
  · obtain ⟨c0, hv⟩ := c0
    have b0 : (((p % 5 : Nat) : Int) == 0) = true := by rw [c0]; rfl
    have hg : ((vs.length : Int) > 0) := by omega
    have tn : (((p / 5 : Nat) : Int)).tmod (vs.length : Int) = ((p / 5 % vs.length : Nat) : Int) := tmodN _ _
    have hj : p / 5 % vs.length < vs.length := Nat.mod_lt _ hv
    have hx := idx_S vs _ hj
    have wn : IntKind.i64.wrap ((p / 5 % vs.length : Nat) : Int) = ((p / 5 % vs.length : Nat) : Int) := wrap64 (by omega) (by omega)
    have hz : ((vs.length : Int) == 0) = false := beq_false_of_ne (by omega)
    generalize vs[p / 5 % vs.length] = x at hx
    refine ⟨tVar x, fine_var x, mk (o := false) (σ' := σ0) ?_⟩
    have e0 : dTy (tVar x) = .agg [.int .i64 2, .int .i64 0, .str x, .nils] := rfl
    rw [e0]
    simp only [a_6, sA, Nat.reduceAdd, Nat.reduceSub, Nat.reduceMul, Nat.reduceBEq, Nat.reduceLeDiff, Int.reduceBEq, Int.reduceBNe, Int.reduceLE, Int.reduceLT, Int.reduceGE, Int.reduceGT, Int.reduceNeg, kn, onel, t5, w5, d5, w4, b0, lS, hg, tn, wn, hz, natI, hx]
  · have hc0 : (((p % 5 : Nat) : Int) == 0) = false ∨ ((((p % 5 : Nat) : Int) == 0) = true ∧ ¬ ((vs.length : Int) > 0)) := by
      by_cases h : p % 5 = 0
      · exact .inr ⟨by rw [h]; rfl, fun hv => c0 ⟨h, by omega⟩⟩
      · exact .inl (beq_false_of_ne (by omega))
    by_cases c1 : p % 5 = 1
    · have b0 : (((p % 5 : Nat) : Int) == 0) = false := by rw [c1]; rfl
      have b1 : (((p % 5 : Nat) : Int) == 1) = true := by rw [c1]; rfl
      refine ⟨tF, fF, mk (o := false) (σ' := σ0) ?_⟩
      simp only [a_6, sA, Nat.reduceAdd, Nat.reduceSub, Nat.reduceMul, Nat.reduceBEq, Nat.reduceLeDiff, Int.reduceBEq, Int.reduceBNe, Int.reduceLE, Int.reduceLT, Int.reduceGE, Int.reduceGT, Int.reduceNeg, kn, onel, dTy_eq, cTy_eq, t5, w5, d5, w4, b0, b1, gI, gB, gF]
    · have b1 : (((p % 5 : Nat) : Int) == 1) = false := beq_false_of_ne (by omega)
      by_cases c2 : 2 < p % 5 ∧ 0 < L.length ∧ 0 < vs.length
      · obtain ⟨c2, hL0, hv⟩ := c2
        have b0 : (((p % 5 : Nat) : Int) == 0) = false := beq_false_of_ne (by omega)
        have b2 : ((p % 5 : Nat) : Int) > 2 := by omega
        have g1 : (L.length : Int) > 0 := by omega
        have g2 : (vs.length : Int) > 0 := by omega
        have tn : (((p / 5 : Nat) : Int)).tmod (L.length : Int) = ((p / 5 % L.length : Nat) : Int) := tmodN _ _
        have hj : p / 5 % L.length < L.length := Nat.mod_lt _ hL0
        have hx := idx_D L _ hj
        have wn : IntKind.i64.wrap ((p / 5 % L.length : Nat) : Int) = ((p / 5 % L.length : Nat) : Int) := wrap64 (by omega) (by omega)
        have hz : ((L.length : Int) == 0) = false := beq_false_of_ne (by omega)
        have hdl := hvs _ (List.getElem_mem hj)
        generalize L[p / 5 % L.length] = d at hx hdl
        have hr := loopN_run (body := exec (T SFd 1) 1001 none a_48) (Erf vs d p (p / 5)) (fun _ => σ0) d.vars.length (r := _) (fun _ _ h => by cases h) (fun j hj => rf_step vs d p (p / 5) j (by omega) hj hdl hv hvl) (rf_end vs d p (p / 5)) 0 1001 (by omega) (by omega)
        have gv := call_given (S := SFd) rfl d.name (rv vs (p / 5) d.vars.length) (by rw [rv_len]; exact hdl) 0 σ0
        have fv := fine_given (rv vs (p / 5) d.vars.length) _ (fine_con d.name) (fine_rv _ _ _)
        refine ⟨givenM d.name (rv vs (p / 5) d.vars.length), fv, mk (o := false) (σ' := σ0) ?_⟩
        have r0 : rv vs (p / 5) 0 = [] := rfl
        have e0 : fl ([] : List Ty) = false := rfl
        simp only [Erf, r0, e0, tys0, zeroI, bD] at hr
        generalize givenM d.name (rv vs (p / 5) d.vars.length) = u at *
        generalize rv vs (p / 5) d.vars.length = A at *
        simp only [dTy_eq, cTy_eq] at gv
        simp only [dDa_eq] at hx
        simp only [a_6, sA, Nat.reduceAdd, Nat.reduceSub, Nat.reduceMul, Nat.reduceBEq, Nat.reduceLeDiff, Int.reduceBEq, Int.reduceBNe, Int.reduceLE, Int.reduceLT, Int.reduceGE, Int.reduceGT, Int.reduceNeg, kn, onel, dTy_eq, cTy_eq, t5, w5, d5, w4, b0, b1, b2, g1, g2, lS, lD, hz, tn, wn, natI, hx, hr, gv]
      · refine ⟨tI, fI, mk (o := false) (σ' := σ0) ?_⟩
        have hc2 : (¬ (((p % 5 : Nat) : Int) > 2)) ∨ (((p % 5 : Nat) : Int) > 2 ∧ ¬ ((L.length : Int) > 0)) ∨ (((p % 5 : Nat) : Int) > 2 ∧ (L.length : Int) > 0 ∧ ¬ ((vs.length : Int) > 0)) := by omega
        rcases hc0 with b0 | ⟨b0, hv⟩
        · rcases hc2 with b2 | ⟨b2, g1⟩ | ⟨b2, g1, g2⟩
          · simp only [a_6, sA, Nat.reduceAdd, Nat.reduceSub, Nat.reduceMul, Nat.reduceBEq, Nat.reduceLeDiff, Int.reduceBEq, Int.reduceBNe, Int.reduceLE, Int.reduceLT, Int.reduceGE, Int.reduceGT, Int.reduceNeg, kn, onel, dTy_eq, cTy_eq, t5, w5, d5, w4, b0, b1, b2, lS, lD, gI]
          · simp only [a_6, sA, Nat.reduceAdd, Nat.reduceSub, Nat.reduceMul, Nat.reduceBEq, Nat.reduceLeDiff, Int.reduceBEq, Int.reduceBNe, Int.reduceLE, Int.reduceLT, Int.reduceGE, Int.reduceGT, Int.reduceNeg, kn, onel, dTy_eq, cTy_eq, t5, w5, d5, w4, b0, b1, b2, lS, lD, g1, gI]
          · simp only [a_6, sA, Nat.reduceAdd, Nat.reduceSub, Nat.reduceMul, Nat.reduceBEq, Nat.reduceLeDiff, Int.reduceBEq, Int.reduceBNe, Int.reduceLE, Int.reduceLT, Int.reduceGE, Int.reduceGT, Int.reduceNeg, kn, onel, dTy_eq, cTy_eq, t5, w5, d5, w4, b0, b1, b2, lS, lD, g1, g2, gI]
        · rcases hc2 with b2 | ⟨b2, g1⟩ | ⟨b2, g1, g2⟩
          · simp only [a_6, sA, Nat.reduceAdd, Nat.reduceSub, Nat.reduceMul, Nat.reduceBEq, Nat.reduceLeDiff, Int.reduceBEq, Int.reduceBNe, Int.reduceLE, Int.reduceLT, Int.reduceGE, Int.reduceGT, Int.reduceNeg, kn, onel, dTy_eq, cTy_eq, t5, w5, d5, w4, b0, b1, b2, lS, lD, hv, gI]
          · simp only [a_6, sA, Nat.reduceAdd, Nat.reduceSub, Nat.reduceMul, Nat.reduceBEq, Nat.reduceLeDiff, Int.reduceBEq, Int.reduceBNe, Int.reduceLE, Int.reduceLT, Int.reduceGE, Int.reduceGT, Int.reduceNeg, kn, onel, dTy_eq, cTy_eq, t5, w5, d5, w4, b0, b1, b2, lS, lD, g1, hv, gI]
          · simp only [a_6, sA, Nat.reduceAdd, Nat.reduceSub, Nat.reduceMul, Nat.reduceBEq, Nat.reduceLeDiff, Int.reduceBEq, Int.reduceBNe, Int.reduceLE, Int.reduceLT, Int.reduceGE, Int.reduceGT, Int.reduceNeg, kn, onel, dTy_eq, cTy_eq, t5, w5, d5, w4, b0, b1, b2, lS, lD, g1, g2, hv, gI]
end Go.Fu
namespace Go.Fu
open Go Go.Mx
set_option maxRecDepth 10000
set_option maxHeartbeats 4000000
def nmD : D := dSs nm4
def alD : D := dSs all3
def z4o : List Cell := [⟨false, .nils⟩, ⟨false, .nils⟩, ⟨false, .nils⟩, ⟨false, .nils⟩]
def bPr (ds : List Da) : List Cell := [⟨fl ds, dDl ds⟩, ⟨false, .nils⟩, ⟨false, .nils⟩, ⟨false, .nils⟩]
def bDa (s : Tx) (p : Int) (vs : List Tx) (k : Nat) (cs : List Cn) : List Cell := [⟨false, .str s⟩, ⟨false, .int .i64 p⟩, ⟨true, dSs vs⟩, ⟨ow k, dKl k⟩, ⟨fl cs, dCl cs⟩]
theorem app_K (k : Nat) (hl : k < 1000000) : appendD k_3 24 ⟨ow k, dKl k⟩ [dKi] = some ⟨true, dKl (k + 1)⟩ := by
  have h := append_one (r := k_3) (by_ := 24) (es := List.replicate k dKi) (y := dKi) (o := ow k) (fun h => by
    cases k with
    | zero => exact absurd rfl h
    | succ k => rfl) rfl rfl (by simp [bound]; omega) (by simp [bound]; omega)
  have e : List.replicate (k + 1) dKi = List.replicate k dKi ++ [dKi] := by
    rw [List.replicate_succ']
  rw [dKl, dKl, e]
  exact h
section
variable {C : CallF} {n : Nat} {σ : Store}
def Em0 (d0 : D) (ds : List Da) (i a v : Nat) (s : Tx) (p : Int) (vs : List Tx) (m : Nat) : Env := { slots := [(0, ⟨false, d0⟩), (3, ⟨true, nmD⟩), (4, ⟨true, alD⟩), (6, ⟨false, .int .i64 a⟩), (7, ⟨false, .int .i64 i⟩), (9, ⟨false, .int .i64 v⟩), (10, ⟨false, .int .i64 m⟩)], locs := [(2, 2, 0), (5, 5, 0), (8, 8, 0)], boxes := [(2, z4o), (5, bPr ds), (8, bDa s p vs m [])], defers := [] }
theorem m0_step (d0 : D) (ds : List Da) (i a v : Nat) (hv : v < 9223372036854775808) (s : Tx) (p : Int) (vs : List Tx) (m : Nat) (hm : m < v % 4) : exec C n none a_43 (Em0 d0 ds i a v s p vs m) σ = some (.normal, Em0 d0 ds i a v s p vs (m + 1), σ) := by
  have t4 : ((v : Int)).tmod 4 = ((v % 4 : Nat) : Int) := tmodN v 4
  have w4 : IntKind.i64.wrap ((v % 4 : Nat) : Int) = ((v % 4 : Nat) : Int) := wrap64 (by omega) (by omega)
  have hlt : (m : Int) < ((v % 4 : Nat) : Int) := by omega
  have w := wrap64_succ (i := m) (by omega)
  have hap := app_K m (by omega)
  rw [show dKi = .agg [.nils] from rfl] at hap
  have o1 : ow (m + 1) = true := rfl
  simp only [a_43, Em0, bDa, bPr, z4o, o1, sA, Nat.reduceAdd, Nat.reduceSub, Nat.reduceMul, Nat.reduceBEq, Nat.reduceLeDiff, Int.reduceBEq, Int.reduceBNe, Int.reduceLE, Int.reduceLT, Int.reduceGE, Int.reduceGT, Int.reduceNeg, kn, onel, t4, w4, hlt, hap, w]
theorem m0_end (d0 : D) (ds : List Da) (i a v : Nat) (hv : v < 9223372036854775808) (s : Tx) (p : Int) (vs : List Tx) : exec C n none a_43 (Em0 d0 ds i a v s p vs (v % 4)) σ = some (.exit 2, { slots := [(0, ⟨false, d0⟩), (3, ⟨true, nmD⟩), (4, ⟨true, alD⟩), (6, ⟨false, .int .i64 a⟩), (7, ⟨false, .int .i64 i⟩), (9, ⟨false, .int .i64 v⟩), (10, ⟨false, .int .i64 (v % 4 : Nat)⟩), (47, ⟨false, .bool false⟩)], locs := [(2, 2, 0), (5, 5, 0), (8, 8, 0)], boxes := [(2, z4o), (5, bPr ds), (8, bDa s p vs (v % 4) [])], defers := [] }, σ) := by
  have t4 : ((v : Int)).tmod 4 = ((v % 4 : Nat) : Int) := tmodN v 4
  have w4 : IntKind.i64.wrap ((v % 4 : Nat) : Int) = ((v % 4 : Nat) : Int) := wrap64 (by omega) (by omega)
  have hlt : ¬ (((v % 4 : Nat) : Int) < ((v % 4 : Nat) : Int)) := by omega
  simp only [a_43, Em0, sA, Nat.reduceAdd, Nat.reduceSub, Nat.reduceMul, Nat.reduceBEq, Nat.reduceLeDiff, Int.reduceBEq, Int.reduceBNe, Int.reduceLE, Int.reduceLT, Int.reduceGE, Int.reduceGT, Int.reduceNeg, kn, onel, t4, w4, hlt]
def bCn (s : Tx) (p : Int) (ts : List Ty) : List Cell := [⟨false, .str s⟩, ⟨false, .int .i64 p⟩, ⟨fl ts, dTl ts⟩]
def Em1 (d0 : D) (ds : List Da) (i a v j w : Nat) (s : Tx) (p : Int) (vs : List Tx) (cs : List Cn) (s' : Tx) (p' : Int) (ts : List Ty) : Env := { slots := [(0, ⟨false, d0⟩), (3, ⟨true, nmD⟩), (4, ⟨true, alD⟩), (6, ⟨false, .int .i64 a⟩), (7, ⟨false, .int .i64 i⟩), (9, ⟨false, .int .i64 v⟩), (11, ⟨false, .int .i64 j⟩), (13, ⟨false, .int .i64 w⟩), (14, ⟨false, .int .i64 ts.length⟩)], locs := [(2, 2, 0), (5, 5, 0), (8, 8, 0), (12, 12, 0)], boxes := [(2, z4o), (5, bPr ds), (8, bDa s p vs vs.length cs), (12, bCn s' p' ts)], defers := [] }
theorem m1_step (d0 : D) (ds : List Da) (i a v j w x : Nat) (hw : w < 9223372036854775808) (ha : a < 1000000) (hds : ds.length ≤ 100) (s : Tx) (p : Int) (vs : List Tx) (cs : List Cn) (s' : Tx) (p' : Int) (ts : List Ty) (t : Ty) (hm : ts.length < w % 3) (h1 : C n_13 [d0, .int .i64 a] σ = some (.ret ⟨false, .int .i64 x⟩, σ)) (h2 : C n_30 [.int .i64 x, dSs vs, dDl (ds ++ [⟨s, p, vs, cs⟩])] σ = some (.ret ⟨false, dTy t⟩, σ)) :
    exec C n none a_25 (Em1 d0 ds i a v j w s p vs cs s' p' ts) σ = some (.normal, Em1 d0 ds i (a + 1) v j w s p vs cs s' p' (ts ++ [t]), σ) := by
  have t3 : ((w : Int)).tmod 3 = ((w % 3 : Nat) : Int) := tmodN w 3
  have w3 : IntKind.i64.wrap ((w % 3 : Nat) : Int) = ((w % 3 : Nat) : Int) := wrap64 (by omega) (by omega)
  have hlt : (ts.length : Int) < ((w % 3 : Nat) : Int) := by omega
  have wt := wrap64_succ (i := ts.length) (by omega)
  have wa := wrap64_succ (i := a) (by omega)
  have hap := app_T ts t (fl ts) fl_ne (by omega)
  have ha1 := app_Ds [] ds false (fun h => absurd rfl h) (by simp; omega)
  have ha2 := app_D ds ⟨s, p, vs, cs⟩ true (fun _ => rfl) (by omega)
  have hasl := asL_D ds
  have e0 : dDl [] = .nils := rfl
  have ek : dDa ⟨s, p, vs, cs⟩ = .agg [.str s, .int .i64 p, dSs vs, dKl vs.length, dCl cs] := rfl
  rw [e0, List.nil_append] at ha1
  rw [ek] at ha2
  simp only [dTy_eq, cTy_eq] at h2 hap
  unfold Em1
  rw [List.length_append, List.length_singleton]
  simp only [bCn]
  rw [fl_snoc]
  generalize ds ++ [⟨s, p, vs, cs⟩] = es at *
  generalize ts ++ [t] = us at *
  generalize ds.map dDa = dl at *
  simp only [a_25, bDa, bPr, z4o, bCn, sA, Nat.reduceAdd, Nat.reduceSub, Nat.reduceMul, Nat.reduceBEq, Nat.reduceLeDiff, Int.reduceBEq, Int.reduceBNe, Int.reduceLE, Int.reduceLT, Int.reduceGE, Int.reduceGT, Int.reduceNeg, kn, onel, t3, w3, hlt, h1, hasl, ha1, ha2, h2, hap, wt, wa]
end
end Go.Fu
namespace Go.Fu
open Go Go.Mx
set_option maxRecDepth 10000
set_option maxHeartbeats 4000000
def sp_pick (d0 : D) (xs : List Int) : List D → Cell → Prop := fun ds c => ∀ i : Nat, ds = [d0, .int .i64 i] → c = ⟨false, .int .i64 (pickM xs i : Nat)⟩
def sp_field : List D → Cell → Prop := fun _ c => ∃ t, Fine t ∧ c = ⟨false, dTy t⟩
def SMd (d0 : D) (xs : List Int) : Specs := [(n_13, sp_pick d0 xs), (n_30, sp_field)]
theorem call_pick {d0 : D} {xs : List Int} (hR : IR d0 xs) (i : Nat) (hi : i < 1000000) (n : Nat) (σ : Store) : T (SMd d0 xs) (n + 1) n_13 [d0, .int .i64 i] σ = some (.ret ⟨false, .int .i64 (pickM xs i : Nat)⟩, σ) := by
  obtain ⟨c, g1, g2⟩ := T_orc (S := SMd d0 xs) (f := n_13) rfl rfl (s := sp_pick d0 xs) (c := ⟨false, .int .i64 (pickM xs i : Nat)⟩) (fun j e => by
    simp only [List.cons.injEq, D.int.injEq, true_and, and_true, Int.natCast_inj] at e
    rw [e]) (pick_pure hR i (by omega))
  rw [g2, g1 _ rfl]
theorem call_field {d0 : D} {xs : List Int} (p : Nat) (hp : p < 9223372036854775808) (vs : List Tx) (hvl : vs.length ≤ 1000) (L : List Da) (hL : L.length ≤ 1000) (hvs : ∀ d ∈ L, d.vars.length ≤ 1000) : ∃ t, Fine t ∧ ∀ n σ, T (SMd d0 xs) (n + 1) n_30 [.int .i64 p, dSs vs, dDl L] σ = some (.ret ⟨false, dTy t⟩, σ) := by
  obtain ⟨t, ht, hp⟩ := field_ok p hp vs hvl L hL hvs
  obtain ⟨c, ⟨t', ht', rfl⟩, g2⟩ := T_orc (S := SMd d0 xs) (f := n_30) rfl rfl (s := sp_field) ⟨t, ht, rfl⟩ hp
  exact ⟨t', ht', g2⟩
theorem m1_end {C : CallF} {n : Nat} {σ : Store} (d0 : D) (ds : List Da) (i a v j w : Nat) (hw : w < 9223372036854775808) (s : Tx) (p : Int) (vs : List Tx) (cs : List Cn) (s' : Tx) (p' : Int) (ts : List Ty) (hm : ts.length = w % 3) : exec C n none a_25 (Em1 d0 ds i a v j w s p vs cs s' p' ts) σ = some (.exit 6, { Em1 d0 ds i a v j w s p vs cs s' p' ts with slots := [(0, ⟨false, d0⟩), (3, ⟨true, nmD⟩), (4, ⟨true, alD⟩), (6, ⟨false, .int .i64 a⟩), (7, ⟨false, .int .i64 i⟩), (9, ⟨false, .int .i64 v⟩), (11, ⟨false, .int .i64 j⟩), (13, ⟨false, .int .i64 w⟩), (14, ⟨false, .int .i64 ts.length⟩), (85, ⟨false, .bool false⟩)] }, σ) := by
  have t3 : ((w : Int)).tmod 3 = ((w % 3 : Nat) : Int) := tmodN w 3
  have w3 : IntKind.i64.wrap ((w % 3 : Nat) : Int) = ((w % 3 : Nat) : Int) := wrap64 (by omega) (by omega)
  rw [← hm] at t3 w3
  have hlt : ¬ ((ts.length : Int) < (ts.length : Int)) := by omega
  simp only [a_25, Em1, sA, Nat.reduceAdd, Nat.reduceSub, Nat.reduceMul, Nat.reduceBEq, Nat.reduceLeDiff, Int.reduceBEq, Int.reduceBNe, Int.reduceLE, Int.reduceLT, Int.reduceGE, Int.reduceGT, Int.reduceNeg, kn, onel, t3, w3, hlt]
theorem m1_run {d0 : D} {xs : List Int} (hR : IR d0 xs) (ds : List Da) (hds : ds.length ≤ 100) (hvs : ∀ d ∈ ds, d.vars.length ≤ 3) (i a v j w : Nat) (hw : w < 9223372036854775808) (ha : a < 900000) (s : Tx) (p : Int) (vs : List Tx) (hv : vs.length ≤ 3) (cs : List Cn) (s' : Tx) (p' : Int) (σ : Store) : ∃ ts a', loopN (exec (T (SMd d0 xs) 1) 5 none a_25) 5 (Em1 d0 ds i a v j w s p vs cs s' p' []) σ = some (.exit 6, { Em1 d0 ds i a' v j w s p vs cs s' p' ts with slots := [(0, ⟨false, d0⟩), (3, ⟨true, nmD⟩), (4, ⟨true, alD⟩), (6, ⟨false, .int .i64 (a' : Nat)⟩), (7, ⟨false, .int .i64 i⟩), (9, ⟨false, .int .i64 v⟩), (11, ⟨false, .int .i64 j⟩), (13, ⟨false, .int .i64 w⟩), (14, ⟨false, .int .i64 ts.length⟩), (85, ⟨false, .bool false⟩)] }, σ) ∧ ts.length ≤ 2 ∧ (∀ t ∈ ts, Fine t) ∧ a' ≤ a + 2 := by
  obtain ⟨r, hr, ts, a', rfl, h1, h2, h3⟩ := loopN_inv (body := exec (T (SMd d0 xs) 1) 5 none a_25)
    (fun k e σ' => σ' = σ ∧ ∃ ts, e = Em1 d0 ds i (a + k) v j w s p vs cs s' p' ts ∧ ts.length = k ∧ ∀ t ∈ ts, Fine t)
    (fun r => ∃ ts a', r = (.exit 6, { Em1 d0 ds i a' v j w s p vs cs s' p' ts with slots := [(0, ⟨false, d0⟩), (3, ⟨true, nmD⟩), (4, ⟨true, alD⟩), (6, ⟨false, .int .i64 (a' : Nat)⟩), (7, ⟨false, .int .i64 i⟩), (9, ⟨false, .int .i64 v⟩), (11, ⟨false, .int .i64 j⟩), (13, ⟨false, .int .i64 w⟩), (14, ⟨false, .int .i64 ts.length⟩), (85, ⟨false, .bool false⟩)] }, σ) ∧ ts.length ≤ 2 ∧ (∀ t ∈ ts, Fine t) ∧ a' ≤ a + 2) (w % 3)
    (fun k e σ' hk ⟨hσ, ts, he, hl, hf⟩ => by
      subst he
      subst hσ
      obtain ⟨t, ht, hc⟩ := call_field (d0 := d0) (xs := xs) (pickM xs (a + k)) (pickM_lt hR.small _) vs (by omega) (ds ++ [⟨s, p, vs, cs⟩]) (by simp; omega) (fun d hd => by
        rcases List.mem_append.1 hd with h | h
        · have := hvs d h; omega
        · rw [List.mem_singleton.1 h]; show vs.length ≤ 1000; omega)
      have hs := m1_step (n := 5) d0 ds i (a + k) v j w _ hw (by omega) hds s p vs cs s' p' ts t (by omega) (call_pick hR (a + k) (by omega) 0 σ') (hc 0 σ')
      refine ⟨_, _, hs, rfl, ts ++ [t], rfl, by simp [hl], fun x hx => ?_⟩
      rcases List.mem_append.1 hx with h | h
      · exact hf x h
      · rw [List.mem_singleton.1 h]; exact ht)
    (fun e σ' ⟨hσ, ts, he, hl, hf⟩ => by
      subst he
      subst hσ
      exact ⟨_, m1_end d0 ds i (a + w % 3) v j w hw s p vs cs s' p' ts hl, fun _ _ h => (by cases h), ts, a + w % 3, rfl, by omega, hf, by omega⟩) 0 5 (Em1 d0 ds i a v j w s p vs cs s' p' []) σ (by omega) (by omega) ⟨rfl, [], rfl, rfl, fun _ h => (by cases h)⟩
  exact ⟨ts, a', hr, h1, h2, h3⟩
def Em2 (d0 : D) (ds : List Da) (i a v : Nat) (s : Tx) (p : Int) (vs : List Tx) (cs : List Cn) : Env := { slots := [(0, ⟨false, d0⟩), (3, ⟨true, nmD⟩), (4, ⟨true, alD⟩), (6, ⟨false, .int .i64 a⟩), (7, ⟨false, .int .i64 i⟩), (9, ⟨false, .int .i64 v⟩), (11, ⟨false, .int .i64 cs.length⟩)], locs := [(2, 2, 0), (5, 5, 0), (8, 8, 0)], boxes := [(2, z4o), (5, bPr ds), (8, bDa s p vs vs.length cs)], defers := [] }
theorem m2_step {d0 : D} {xs : List Int} (hR : IR d0 xs) (ds : List Da) (hds : ds.length ≤ 100) (hvs : ∀ d ∈ ds, d.vars.length ≤ 3) (i a v : Nat) (hi : i < 4) (hv9 : v < 9223372036854775808) (ha : a < 800000) (s : Tx) (p : Int) (vs : List Tx) (hv : vs.length ≤ 3) (cs : List Cn) (hcs : cs.length < v / 4 % 4) (σ : Store) :
    ∃ c a', exec (T (SMd d0 xs) 1) 5 none a_26 (Em2 d0 ds i a v s p vs cs) σ = some (.normal, Em2 d0 ds i a' v s p vs (cs ++ [c]), σ) ∧ c.name = nm4.getD i [] ++ all3.getD cs.length [] ∧ c.fs.length ≤ 2 ∧ (∀ t ∈ c.fs, Fine t) ∧ a' ≤ a + 3 := by
  have t4 : (((v / 4 : Nat) : Int)).tmod 4 = ((v / 4 % 4 : Nat) : Int) := tmodN _ 4
  have w4 : IntKind.i64.wrap ((v / 4 % 4 : Nat) : Int) = ((v / 4 % 4 : Nat) : Int) := wrap64 (by omega) (by omega)
  have q4 : ((v : Int)).tdiv 4 = ((v / 4 : Nat) : Int) := tdivN v 4
  have wq : IntKind.i64.wrap ((v / 4 : Nat) : Int) = ((v / 4 : Nat) : Int) := wrap64 (by omega) (by omega)
  have hlt : (cs.length : Int) < ((v / 4 % 4 : Nat) : Int) := by omega
  have h3 : cs.length < 3 := by omega
  have wc := wrap64_succ (i := cs.length) (by omega)
  have wa := wrap64_succ (i := a) (by omega)
  have hx : indexD 1 nmD i = some (.eptr (.str nm4[i])) := idx_S nm4 i hi
  have hy : indexD 1 alD cs.length = some (.eptr (.str all3[cs.length])) := idx_S all3 _ h3
  have wm : IntKind.i64.wrap (10 * (i : Int)) = 10 * (i : Int) := wrap64 (by omega) (by omega)
  have wp : IntKind.i64.wrap (10 * (i : Int) + (cs.length : Int)) = 10 * (i : Int) + (cs.length : Int) := wrap64 (by omega) (by omega)
  have hp := call_pick hR a (by omega) 0 σ
  have hon : nmD.one = true := rfl
  have hoa : alD.one = true := rfl
  obtain ⟨ts, a', h1, h2, h3', h4⟩ := m1_run hR ds hds hvs i (a + 1) v cs.length (pickM xs a) (pickM_lt hR.small _) (by omega) s p vs hv cs (nm4[i]'hi ++ all3[cs.length]'h3) (10 * (i : Int) + (cs.length : Int)) σ
  refine ⟨⟨nm4[i]'hi ++ all3[cs.length]'h3, 10 * (i : Int) + (cs.length : Int), ts⟩, a', ?_, ?_, h2, h3', by omega⟩
  · have hap := app_C cs ⟨nm4[i]'hi ++ all3[cs.length]'h3, 10 * (i : Int) + (cs.length : Int), ts⟩ (fl cs) fl_ne (by omega)
    unfold Em2
    rw [List.length_append, List.length_singleton]
    simp only [bDa]
    rw [fl_snoc]
    generalize cs ++ [⟨nm4[i]'hi ++ all3[cs.length]'h3, 10 * (i : Int) + (cs.length : Int), ts⟩] = cs' at *
    have f0 : fl ([] : List Ty) = false := rfl
    simp only [Em1, bCn, bDa, List.length_nil, zeroI, f0, tys0] at h1
    simp only [dCn_eq] at hap
    have hxy : (nm4[i]'hi).length + (all3[cs.length]'h3).length ≤ 281474976710656 := by
      have a1 : ∀ x ∈ nm4, x.length ≤ 1 := by decide
      have a2 : ∀ x ∈ all3, x.length ≤ 1 := by decide
      have := a1 _ (List.getElem_mem hi)
      have := a2 _ (List.getElem_mem h3)
      omega
    generalize nm4[i] = x at *
    generalize all3[cs.length] = y at *
    simp only [a_26, sA, Nat.reduceAdd, Nat.reduceSub, Nat.reduceMul, Nat.reduceBEq, Nat.reduceLeDiff, Int.reduceBEq, Int.reduceBNe, Int.reduceLE, Int.reduceLT, Int.reduceGE, Int.reduceGT, Int.reduceNeg, kn, onel, q4, wq, t4, w4, hlt, hx, hy, hon, hoa, wm, wp, natI, hxy, hp, wa, h1, hap, wc]
  · show nm4[i] ++ all3[cs.length] = _
    rw [getD_eq _ _ _ hi, getD_eq _ _ _ h3]
end Go.Fu
