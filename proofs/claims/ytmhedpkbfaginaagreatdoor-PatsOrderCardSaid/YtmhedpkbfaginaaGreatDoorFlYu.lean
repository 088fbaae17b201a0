/-
  PatsOrder: the law answers true.
-/
import Derived.Test.YtmhedpkbfaginaaGreatDoorFlYs
set_option maxHeartbeats 4000000
set_option linter.unusedSimpArgs false
set_option linter.unusedVariables false
set_option linter.unusedSectionVars false
namespace Go.Fu
open Go Go.Mx
set_option maxRecDepth 100000
set_option maxHeartbeats 2000000
theorem law_order {d0 : D} {xs : List Int} (hR0 : IR d0 xs) (t : Int) : ∃ n σ1, T SLp n n_290 [d0, .int .i64 t] σ0 = some (.ret ⟨false, .bool true⟩, σ1) := by
  have o0 := oneV_ok hR0
  have c0 := fun n σ => call_one (S := SLp) rfl o0 n σ
  have hW := fun n σ => callK (S := SLp) rfl rfl world_pure n σ
  have hLv := fun n σ => callK (S := SLp) rfl rfl lives_ok n σ
  simp only [oneC] at c0
  obtain ⟨ha, wx, sx, _⟩ := o0
  generalize (oneV d0).1 = x at *
  generalize (oneV d0).2 = a at *
  -- which type
  obtain ⟨u, hu, hpick⟩ : ∃ u : Nat, u < 5 ∧ ((0 ≤ t ∧ t ≤ 4 ∧ t = (u : Int)) ∨ (t < 0 ∧ u = a) ∨ (¬ t < 0 ∧ t > 4 ∧ u = a)) := by
    by_cases h1 : t < 0
    · exact ⟨a, ha, .inr (.inl ⟨h1, rfl⟩)⟩
    · by_cases h2 : t > 4
      · exact ⟨a, ha, .inr (.inr ⟨h1, h2, rfl⟩)⟩
      · exact ⟨t.toNat, by omega, .inl ⟨by omega, by omega, by omega⟩⟩
  obtain ⟨σ1, pc, mc, f1, hpn, hmc, lpc, lmc, rN⟩ := new_all (S := SLp) rfl rfl rfl σ0
  have hp1 : PNw σ1 pc mc := ⟨hpn, hmc⟩
  have lc1 := hp1.pn.lt
  have lm1 := hp1.lt
  obtain ⟨σa, σb, ps, m, fb, sb, lps, lm, rNa, rFa⟩ := unew_one SLp_unify σ1
  have hp2 := hp1.fr fb
  have n1 : ps ≠ pc := by omega
  have n2 : m ≠ mc := by omega
  obtain ⟨σc, e1, a1, y, v1, fc, hc, v1a, v1b, v1c, N1, r1⟩ := pat_run SLp_make hp2.pn hp2.lt sb n1 n2 StK.start (fun _ h => by cases h) ha wx (by omega)
  have hj : join .un (pinf a x) = some (pinf a x) := rfl
  rw [hj] at hc
  obtain ⟨he1, n3, K3, s3, t3, k3, l3, hmp⟩ := hc
  subst he1
  have hp3 := hp2.fx fc n1 n2
  obtain ⟨r, K4, hO, hJ⟩ := root_wt t3 hu
  obtain ⟨hK4, σd, fd, hsd, N2, r2⟩ := unify_run SLp_unify hO k3 (fine_meta 1) (fine_wt u) σc s3
  have hp4 := hp3.fx fd.fx n1 n2
  have lc4 := hp4.pn.lt
  have lm4 := hp4.lt
  obtain ⟨σe, σf, pr, mr, ff, sf, lpr, lmr, rNe, rFe⟩ := unew_one SLp_unify σd
  have hp5 := hp4.fr ff
  have n3' : pr ≠ pc := by omega
  have n4' : mr ≠ mc := by omega
  obtain ⟨q, K5, hO5, hJ5⟩ := root_wt StK.start hu
  have hj5 : join .un (infT u) = some (infT u) := rfl
  rw [hj5] at hJ5
  obtain ⟨hq0, t5⟩ := hJ5
  subst hq0
  obtain ⟨hK5, σg, fg, hsg, N3, r3⟩ := unify_run SLp_unify hO5 (fun _ h => by cases h) (fine_meta 1) (fine_wt u) σf sf
  have s5 := hsg rfl
  have hp6 := hp5.fx fg.fx n3' n4'
  obtain ⟨σh, e4, a4, z, v4, fh, hh, v4a, v4b, v4c, N4, r4⟩ := pat_run SLp_make hp6.pn hp6.lt s5 n3' n4' t5 hK5 ha wx (by omega)
  rw [join_comm] at hh
  have hwt := fun n σ => call_wty (S := SLp) rfl hu n σ
  have z0 : ((0 : Int) == 0) = true := rfl
  have z1 : ((0 : Int) != 0) = false := rfl
  have epr : dPr worldM = .agg [dDl worldM, .nils, .nils, .nils] := rfl
  have hfj := fits_join (t := u) ha hu wx
  have lps2 := sb.lt
  have lms2 := sb.ltm
  cases hjj : join (pinf a x) (infT u) with
  | none =>
    rw [hjj] at hJ hh
    have hJ : r ≠ 0 := hJ
    have hh : e4 ≠ 0 := hh
    have b1 : (r == 0) = false := beq_false_of_ne hJ
    have b2 : (r != 0) = true := by simpa using hJ
    have b3 : (e4 == 0) = false := beq_false_of_ne hh
    refine ⟨N1 + N2 + N3 + N4 + 3003, σh, ?_⟩
    obtain ⟨n, hn⟩ : ∃ n, n = N1 + N2 + N3 + N4 + 3000 := ⟨_, rfl⟩
    rw [show N1 + N2 + N3 + N4 + 3003 = n + 2 + 1 by omega]
    rw [T_fun (af := a_28) rfl rfl rfl]
    have c0 := c0 (n + 1) σ0
    have hW := hW (n + 1) σ0
    have hLv := hLv (n + 1) σh
    have rN := rN (n + 1) (by omega)
    have rNa := rNa (n + 1)
    have rFa := rFa n
    have rNe := rNe (n + 1)
    have rFe := rFe n
    have r1 := r1 (n + 2) (by omega)
    have r2 := r2 (n + 2) (by omega)
    have r3 := r3 (n + 2) (by omega)
    have r4 := r4 (n + 2) (by omega)
    have hw1 := hwt (n + 1) σc
    have hw2 := hwt (n + 1) σf
    rw [epr] at hW rN
    generalize tMeta 1 = τ at *
    generalize wt u = w at *
    simp only [patR] at r1 r4
    simp only [dPt_eq, cPt, dTy_eq, cTy_eq] at c0 rFa rFe r1 r2 r3 r4 hw1 hw2
    rcases hpick with ⟨g1, g2, rfl⟩ | ⟨g1, rfl⟩ | ⟨g1, g2, rfl⟩
    · have g1 : ¬ ((u : Int) < 0) := by omega
      have g2 : ¬ ((u : Int) > 4) := by omega
      simp only [a_28, sA, Nat.reduceAdd, Nat.reduceSub, Nat.reduceMul, Nat.reduceBEq, Nat.reduceLeDiff, Int.reduceBEq, Int.reduceBNe, Int.reduceLE, Int.reduceLT, Int.reduceGE, Int.reduceGT, Int.reduceNeg, kn, onel, onep, c0, hW, rN, rNa, rFa, rNe, rFe, r1, r2, r3, r4, hw1, hw2, hLv, z0, z1, b1, b2, b3, g1, g2, bne_self_eq_false]
    · simp only [a_28, sA, Nat.reduceAdd, Nat.reduceSub, Nat.reduceMul, Nat.reduceBEq, Nat.reduceLeDiff, Int.reduceBEq, Int.reduceBNe, Int.reduceLE, Int.reduceLT, Int.reduceGE, Int.reduceGT, Int.reduceNeg, kn, onel, onep, c0, hW, rN, rNa, rFa, rNe, rFe, r1, r2, r3, r4, hw1, hw2, hLv, z0, z1, b1, b2, b3, g1, bne_self_eq_false]
    · simp only [a_28, sA, Nat.reduceAdd, Nat.reduceSub, Nat.reduceMul, Nat.reduceBEq, Nat.reduceLeDiff, Int.reduceBEq, Int.reduceBNe, Int.reduceLE, Int.reduceLT, Int.reduceGE, Int.reduceGT, Int.reduceNeg, kn, onel, onep, c0, hW, rN, rNa, rFa, rNe, rFe, r1, r2, r3, r4, hw1, hw2, hLv, z0, z1, b1, b2, b3, g1, g2, bne_self_eq_false]
  | some j =>
    rw [hjj] at hJ hfj hh
    obtain ⟨hr0, t4⟩ := hJ
    subst hr0
    have hf0 : (fitsM x u).1 = 0 := hfj.2 rfl
    have hji := join_infT hu hjj
    subst hji
    obtain ⟨he4, n6, K6, s6, t6, k6, l6, hmp6⟩ := hh
    subst he4
    -- the first substitution, as it was
    have s4 : SK σh ps m n3 K4 := by
      have q1 := hsd rfl
      have q2 : SK σf ps m n3 K4 := SB.fr q1 ff
      have lp := q1.lt
      have lmm := q1.ltm
      have q3 : SK σg ps m n3 K4 := q2.fx fg.fx (by omega) (by omega)
      exact q3.fx fh (by omega) (by omega)
    obtain ⟨z1', hz1, N5, r5⟩ := full_run SLp_full hu t4 hK4 s4 hmp (show (fitsM x (vt u .R)).1 = 0 from hf0)
    obtain ⟨z2', hz2, N6, r6⟩ := full_run SLp_full hu t6 k6 s6 hmp6 (show (fitsM x (vt u .R)).1 = 0 from hf0)
    have hty1 := fun n σ => call_typed (S := SLp) rfl (typed_pure hu hz1) n σ
    have hty2 := fun n σ => call_typed (S := SLp) rfl (typed_pure hu hz2) n σ
    refine ⟨N1 + N2 + N3 + N4 + N5 + N6 + 3003, σh, ?_⟩
    obtain ⟨n, hn⟩ : ∃ n, n = N1 + N2 + N3 + N4 + N5 + N6 + 3000 := ⟨_, rfl⟩
    rw [show N1 + N2 + N3 + N4 + N5 + N6 + 3003 = n + 2 + 1 by omega]
    rw [T_fun (af := a_28) rfl rfl rfl]
    have c0 := c0 (n + 1) σ0
    have hW := hW (n + 1) σ0
    have hLv := hLv (n + 1) σh
    have rN := rN (n + 1) (by omega)
    have rNa := rNa (n + 1)
    have rFa := rFa n
    have rNe := rNe (n + 1)
    have rFe := rFe n
    have r1 := r1 (n + 2) (by omega)
    have r2 := r2 (n + 2) (by omega)
    have r3 := r3 (n + 2) (by omega)
    have r4 := r4 (n + 2) (by omega)
    have r5 := r5 (n + 2) (by omega)
    have r6 := r6 (n + 2) (by omega)
    have hw1 := hwt (n + 1) σc
    have hw2 := hwt (n + 1) σf
    have hw3 := hwt (n + 1) σh
    have hty1 := hty1 (n + 1) σh
    have hty2 := hty2 (n + 1) σh
    rw [epr] at hW rN hty1 hty2
    generalize tMeta 1 = τ at *
    generalize wt u = w at *
    simp only [patR] at r1 r4
    simp only [dPt_eq, cPt, dTy_eq, cTy_eq] at c0 rFa rFe r1 r2 r3 r4 r5 r6 hw1 hw2 hw3 hty1 hty2
    rcases hpick with ⟨g1, g2, rfl⟩ | ⟨g1, rfl⟩ | ⟨g1, g2, rfl⟩
    · have g1 : ¬ ((u : Int) < 0) := by omega
      have g2 : ¬ ((u : Int) > 4) := by omega
      simp only [a_28, sA, Nat.reduceAdd, Nat.reduceSub, Nat.reduceMul, Nat.reduceBEq, Nat.reduceLeDiff, Int.reduceBEq, Int.reduceBNe, Int.reduceLE, Int.reduceLT, Int.reduceGE, Int.reduceGT, Int.reduceNeg, kn, onel, onep, c0, hW, rN, rNa, rFa, rNe, rFe, r1, r2, r3, r4, r5, r6, hw1, hw2, hw3, hty1, hty2, hLv, z0, z1, g1, g2, bne_self_eq_false]
    · simp only [a_28, sA, Nat.reduceAdd, Nat.reduceSub, Nat.reduceMul, Nat.reduceBEq, Nat.reduceLeDiff, Int.reduceBEq, Int.reduceBNe, Int.reduceLE, Int.reduceLT, Int.reduceGE, Int.reduceGT, Int.reduceNeg, kn, onel, onep, c0, hW, rN, rNa, rFa, rNe, rFe, r1, r2, r3, r4, r5, r6, hw1, hw2, hw3, hty1, hty2, hLv, z0, z1, g1, bne_self_eq_false]
    · simp only [a_28, sA, Nat.reduceAdd, Nat.reduceSub, Nat.reduceMul, Nat.reduceBEq, Nat.reduceLeDiff, Int.reduceBEq, Int.reduceBNe, Int.reduceLE, Int.reduceLT, Int.reduceGE, Int.reduceGT, Int.reduceNeg, kn, onel, onep, c0, hW, rN, rNa, rFa, rNe, rFe, r1, r2, r3, r4, r5, r6, hw1, hw2, hw3, hty1, hty2, hLv, z0, z1, g1, g2, bne_self_eq_false]
end Go.Fu
