/-
  PatsUnknown: the law answers true.
-/
import Derived.Test.YtmhedpkbfaginaaGreatDoorFlYs
set_option maxHeartbeats 4000000
set_option linter.unusedSimpArgs false
set_option linter.unusedVariables false
set_option linter.unusedSectionVars false
namespace Go.Fu
open Go Go.Mx
set_option maxRecDepth 100000
set_option maxHeartbeats 2000000
theorem law_unknown {d0 : D} {xs : List Int} (hR0 : IR d0 xs) (t : Int) : ∃ n σ1, T SLp n n_292 [d0, .int .i64 t] σ0 = some (.ret ⟨false, .bool true⟩, σ1) := by
  have o0 := oneV_ok hR0
  have c0 := fun n σ => call_one (S := SLp) rfl o0 n σ
  have hW := fun n σ => callK (S := SLp) rfl rfl world_pure n σ
  have hLv := fun n σ => callK (S := SLp) rfl rfl lives_ok n σ
  simp only [oneC] at c0
  obtain ⟨ha, wx, sx, _⟩ := o0
  generalize (oneV d0).1 = x at *
  generalize (oneV d0).2 = a at *
  obtain ⟨σa, σb, ps, m, fb, sb, lps, lm, rNa, rFa⟩ := unew_one SLp_unify σ0
  obtain ⟨σ1, pc, mc, f1, hpn, hmc, lpc, lmc, rN⟩ := new_all (S := SLp) rfl rfl rfl σb
  have hp1 : PNw σ1 pc mc := ⟨hpn, hmc⟩
  have n1 : ps ≠ pc := by have := sb.lt; omega
  have n2 : m ≠ mc := by have := sb.ltm; omega
  have s1 : SK σ1 ps m 1 [] := SB.fr sb f1
  obtain ⟨σc, e1, a1, y, v1, fc, hc, v1a, v1b, v1c, N1, r1⟩ := pat_run SLp_make hp1.pn hp1.lt s1 n1 n2 StK.start (fun _ h => by cases h) ha wx (by omega)
  have hj : join .un (pinf a x) = some (pinf a x) := rfl
  rw [hj] at hc
  obtain ⟨he1, n3, K3, s3, t3, k3, l3, hmp⟩ := hc
  subst he1
  have z0 : ((0 : Int) == 0) = true := rfl
  have z1 : ((0 : Int) != 0) = false := rfl
  have epr : dPr worldM = .agg [dDl worldM, .nils, .nils, .nils] := rfl
  by_cases hin : 0 ≤ t ∧ t ≤ 4
  · -- one of the five types
    obtain ⟨u, rfl⟩ : ∃ u : Nat, t = (u : Int) := ⟨t.toNat, by omega⟩
    have hu : u < 5 := by omega
    have g1 : ¬ ((u : Int) < 0) := by omega
    have g2 : ¬ ((u : Int) > 4) := by omega
    have hwt := fun n σ => call_wty (S := SLp) rfl hu n σ
    have hft := fun n σ => call_fits (S := SLp) rfl x u hu (fits_pure ha wx u hu) n σ
    obtain ⟨r, K4, hO, hJ⟩ := root_wt t3 hu
    obtain ⟨hK4, σd, fd, hsd, N2, r2⟩ := unify_run SLp_unify hO k3 (fine_meta 1) (fine_wt u) σc s3
    have hfj := fits_join (t := u) ha hu wx
    cases hjj : join (pinf a x) (infT u) with
    | none =>
      rw [hjj] at hJ hfj
      have hJ : r ≠ 0 := hJ
      have hf0 : (fitsM x u).1 ≠ 0 := fun e => by have := hfj.1 e; cases this
      have b1 : (r == 0) = false := beq_false_of_ne hJ
      have b2 : (r != 0) = true := by simpa using hJ
      have b3 : ((fitsM x u).1 == 0) = false := beq_false_of_ne hf0
      have b4 : ((u : Int) != (a : Int)) = true := by
        simp only [bne_iff_ne, ne_eq, Int.natCast_inj]
        intro e
        subst e
        exact hf0 (fits_self hu wx)
      refine ⟨N1 + N2 + 3003, σd, ?_⟩
      obtain ⟨n, hn⟩ : ∃ n, n = N1 + N2 + 3000 := ⟨_, rfl⟩
      rw [show N1 + N2 + 3003 = n + 2 + 1 by omega]
      rw [T_fun (af := a_31) rfl rfl rfl]
      have c0 := c0 (n + 1) σ0
      have hW := hW (n + 1) σ0
      have hLv := hLv (n + 1) σd
      have rN := rN (n + 1) (by omega)
      have rNa := rNa (n + 1)
      have rFa := rFa n
      have r1 := r1 (n + 2) (by omega)
      have r2 := r2 (n + 2) (by omega)
      have hwt := hwt (n + 1) σc
      have hft := hft (n + 1) σc
      rw [epr] at hW rN hft
      generalize tMeta 1 = τ at *
      generalize wt u = w at *
      generalize (fitsM x u).1 = f1' at *
      simp only [patR] at r1
      simp only [dPt_eq, cPt, dTy_eq, cTy_eq] at c0 rFa r1 r2 hwt hft
      simp only [a_31, sA, Nat.reduceAdd, Nat.reduceSub, Nat.reduceMul, Nat.reduceBEq, Nat.reduceLeDiff, Int.reduceBEq, Int.reduceBNe, Int.reduceLE, Int.reduceLT, Int.reduceGE, Int.reduceGT, Int.reduceNeg, kn, onel, onep, c0, hW, rN, rNa, rFa, r1, r2, hwt, hft, hLv, z0, z1, b1, b2, b3, b4, g1, g2, bne_self_eq_false, beq_self_eq_true]
    | some j =>
      rw [hjj] at hJ hfj
      obtain ⟨hr0, t4⟩ := hJ
      subst hr0
      have hf0 : (fitsM x u).1 = 0 := hfj.2 rfl
      have hji := join_infT hu hjj
      subst hji
      obtain ⟨z, hz, N3, r3⟩ := full_run SLp_full hu t4 hK4 (hsd rfl) hmp (show (fitsM x (vt u .R)).1 = 0 from hf0)
      have hty := fun n σ => call_typed (S := SLp) rfl (typed_pure hu hz) n σ
      have b3 : ((fitsM x u).1 == 0) = true := by rw [hf0]; rfl
      refine ⟨N1 + N2 + N3 + 3003, σd, ?_⟩
      obtain ⟨n, hn⟩ : ∃ n, n = N1 + N2 + N3 + 3000 := ⟨_, rfl⟩
      rw [show N1 + N2 + N3 + 3003 = n + 2 + 1 by omega]
      rw [T_fun (af := a_31) rfl rfl rfl]
      have c0 := c0 (n + 1) σ0
      have hW := hW (n + 1) σ0
      have hLv := hLv (n + 1) σd
      have rN := rN (n + 1) (by omega)
      have rNa := rNa (n + 1)
      have rFa := rFa n
      have r1 := r1 (n + 2) (by omega)
      have r2 := r2 (n + 2) (by omega)
      have r3 := r3 (n + 2) (by omega)
      have hwt1 := hwt (n + 1) σc
      have hwt2 := hwt (n + 1) σd
      have hft := hft (n + 1) σc
      have hty := hty (n + 1) σd
      rw [epr] at hW rN hft hty
      generalize tMeta 1 = τ at *
      generalize wt u = w at *
      generalize (fitsM x u).1 = f1' at *
      simp only [patR] at r1
      simp only [dPt_eq, cPt, dTy_eq, cTy_eq] at c0 rFa r1 r2 r3 hwt1 hwt2 hft hty
      simp only [a_31, sA, Nat.reduceAdd, Nat.reduceSub, Nat.reduceMul, Nat.reduceBEq, Nat.reduceLeDiff, Int.reduceBEq, Int.reduceBNe, Int.reduceLE, Int.reduceLT, Int.reduceGE, Int.reduceGT, Int.reduceNeg, kn, onel, onep, c0, hW, rN, rNa, rFa, r1, r2, r3, hwt1, hwt2, hft, hty, hLv, z0, z1, b3, g1, g2, bne_self_eq_false, beq_self_eq_true]
  · refine ⟨N1 + 3003, σc, ?_⟩
    obtain ⟨n, hn⟩ : ∃ n, n = N1 + 3000 := ⟨_, rfl⟩
    rw [show N1 + 3003 = n + 2 + 1 by omega]
    rw [T_fun (af := a_31) rfl rfl rfl]
    have c0 := c0 (n + 1) σ0
    have hW := hW (n + 1) σ0
    have hLv := hLv (n + 1) σc
    have rN := rN (n + 1) (by omega)
    have rNa := rNa (n + 1)
    have rFa := rFa n
    have r1 := r1 (n + 2) (by omega)
    rw [epr] at hW rN
    generalize tMeta 1 = τ at *
    simp only [patR] at r1
    simp only [dPt_eq, cPt, dTy_eq, cTy_eq] at c0 rFa r1
    by_cases h0 : t < 0
    · simp only [a_31, sA, Nat.reduceAdd, Nat.reduceSub, Nat.reduceMul, Nat.reduceBEq, Nat.reduceLeDiff, Int.reduceBEq, Int.reduceBNe, Int.reduceLE, Int.reduceLT, Int.reduceGE, Int.reduceGT, Int.reduceNeg, kn, onel, onep, c0, hW, rN, rNa, rFa, r1, hLv, z0, z1, h0, bne_self_eq_false]
    · have h4 : t > 4 := by omega
      simp only [a_31, sA, Nat.reduceAdd, Nat.reduceSub, Nat.reduceMul, Nat.reduceBEq, Nat.reduceLeDiff, Int.reduceBEq, Int.reduceBNe, Int.reduceLE, Int.reduceLT, Int.reduceGE, Int.reduceGT, Int.reduceNeg, kn, onel, onep, c0, hW, rN, rNa, rFa, r1, hLv, z0, z1, h0, h4, bne_self_eq_false]
end Go.Fu
