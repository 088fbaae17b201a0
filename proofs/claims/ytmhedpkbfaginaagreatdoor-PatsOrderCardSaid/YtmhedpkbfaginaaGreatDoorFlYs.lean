/-
  PatsTwice: the law answers true.
-/
import Derived.Test.YtmhedpkbfaginaaGreatDoorFlYr
set_option maxHeartbeats 4000000
set_option linter.unusedSimpArgs false
set_option linter.unusedVariables false
set_option linter.unusedSectionVars false
namespace Go.Fu
open Go Go.Mx
set_option maxRecDepth 100000
set_option maxHeartbeats 2000000
theorem join_same {own : Nat} (ho : own < 5) (x y : Pt) : (join (pinf own x) (pinf own y)).isSome = true := by
  cases hx : isK x with
  | false =>
    rw [pinf_not hx]
    rfl
  | true =>
    cases hy : isK y with
    | false =>
      rw [pinf_not hy, join_un]
      rfl
    | true =>
      by_cases h : own = 2 ∨ own = 4
      · rw [pinf_list h hx, pinf_list h hy]
        rcases h with rfl | rfl <;> cases lkE x <;> cases lkE y <;> rfl
      · rw [pinf_ground (by omega) hx, pinf_ground (by omega) hy]
        have five : ∀ n, n < 5 → n = 0 ∨ n = 1 ∨ n = 2 ∨ n = 3 ∨ n = 4 := by omega
        rcases five own ho with rfl | rfl | rfl | rfl | rfl <;> first | rfl | (exfalso; omega)
structure PNw (σ : Store) (pc mc : Nat) : Prop where
  pn : PN σ pc mc LW (conAts LW 0)
  lt : mc < σ.next
theorem PNw.fr {σ σ' : Store} {pc mc : Nat} (h : PNw σ pc mc) (f : Fr σ σ') : PNw σ' pc mc := ⟨⟨(f.objs _ h.pn.lt).trans h.pn.obj, (f.oth _ h.lt).trans h.pn.map, Nat.lt_of_lt_of_le h.pn.lt f.le⟩, Nat.lt_of_lt_of_le h.lt f.le⟩
theorem PNw.fx {σ σ' : Store} {pc mc ps m : Nat} (h : PNw σ pc mc) (f : Fx σ σ' (fun j => j = ps) m) (h1 : ps ≠ pc) (h2 : m ≠ mc) : PNw σ' pc mc := ⟨⟨(f.objs _ h.pn.lt (fun e => h1 e.symm)).trans h.pn.obj, (f.oth _ h.lt (Ne.symm h2)).trans h.pn.map, Nat.lt_of_lt_of_le h.pn.lt f.le⟩, Nat.lt_of_lt_of_le h.lt f.le⟩
theorem law_twice {d0 d1 : D} {xs ys : List Int} (hR0 : IR d0 xs) (hR1 : IR d1 ys) : ∃ n σ1, T SLp n n_291 [d0, d1] σ0 = some (.ret ⟨false, .bool true⟩, σ1) := by
  have o0 := oneV_ok hR0
  have o1 := oneV_ok hR1
  have c0 := fun n σ => call_one (S := SLp) rfl o0 n σ
  have c1 := fun n σ => call_one (S := SLp) rfl o1 n σ
  have hW := fun n σ => callK (S := SLp) rfl rfl world_pure n σ
  have hLv := fun n σ => callK (S := SLp) rfl rfl lives_ok n σ
  simp only [oneC] at c0 c1
  obtain ⟨ha, wx, sx, _⟩ := o0
  obtain ⟨hb, wy, sy, _⟩ := o1
  generalize (oneV d0).1 = x at *
  generalize (oneV d0).2 = a at *
  generalize (oneV d1).1 = y at *
  generalize (oneV d1).2 = b at *
  obtain ⟨σ1, pc, mc, f1, hpn, hmc, _, _, rN⟩ := new_all (S := SLp) rfl rfl rfl σ0
  have hp1 : PNw σ1 pc mc := ⟨hpn, hmc⟩
  have lc1 := hp1.pn.lt
  have lm1 := hp1.lt
  obtain ⟨σa, σb, ps, m, fb, sb, lps, lm, rNa, rFa⟩ := unew_one SLp_unify σ1
  have hp2 := hp1.fr fb
  have n1 : ps ≠ pc := by omega
  have n2 : m ≠ mc := by omega
  obtain ⟨σc, e1, a1, y1, v1, fc, hc, v1a, v1b, v1c, N1, r1⟩ := pat_run SLp_make hp2.pn hp2.lt sb n1 n2 StK.start (fun _ h => by cases h) ha wx (by omega)
  have hj : join .un (pinf a x) = some (pinf a x) := rfl
  rw [hj] at hc
  obtain ⟨he1, n3, K3, s3, t3, k3, l3, _⟩ := hc
  subst he1
  have hp3 := hp2.fx fc n1 n2
  obtain ⟨σd, e2, a2, y2, v2, fd, hd, v2a, v2b, v2c, N2, r2⟩ := pat_run SLp_make hp3.pn hp3.lt s3 n1 n2 t3 k3 hb wy (by omega)
  have hp4 := hp3.fx fd n1 n2
  have lc4 := hp4.pn.lt
  have lm4 := hp4.lt
  obtain ⟨σe, σf, pr, mr, ff, sf, lpr, lmr, rNe, rFe⟩ := unew_one SLp_unify σd
  have hp5 := hp4.fr ff
  have n3' : pr ≠ pc := by omega
  have n4' : mr ≠ mc := by omega
  obtain ⟨σg, e3, a3, y3, v3, fg, hg, v3a, v3b, v3c, N3, r3⟩ := pat_run SLp_make hp5.pn hp5.lt sf n3' n4' StK.start (fun _ h => by cases h) hb wy (by omega)
  have hj3 : join .un (pinf b y) = some (pinf b y) := rfl
  rw [hj3] at hg
  obtain ⟨he3, n5, K5, s5, t5, k5, l5, _⟩ := hg
  subst he3
  have hp6 := hp5.fx fg n3' n4'
  obtain ⟨σh, e4, a4, y4, v4, fh, hh, v4a, v4b, v4c, N4, r4⟩ := pat_run SLp_make hp6.pn hp6.lt s5 n3' n4' t5 k5 ha wx (by omega)
  rw [join_comm] at hh
  -- what is told
  have hβ : ∃ β : Bool, (e2 == 0) = β ∧ (e4 == 0) = β ∧ (β = false → a ≠ b) := by
    cases hjj : join (pinf a x) (pinf b y) with
    | some j =>
      rw [hjj] at hd hh
      exact ⟨true, by rw [hd.1]; rfl, by rw [hh.1]; rfl, fun h => by cases h⟩
    | none =>
      rw [hjj] at hd hh
      have hd : e2 ≠ 0 := hd
      have hh : e4 ≠ 0 := hh
      refine ⟨false, beq_false_of_ne hd, beq_false_of_ne hh, fun _ e => ?_⟩
      subst e
      have := join_same ha x y
      rw [hjj] at this
      cases this
  obtain ⟨β, b2, b4, hab⟩ := hβ
  refine ⟨N1 + N2 + N3 + N4 + 3003, σh, ?_⟩
  obtain ⟨n, hn⟩ : ∃ n, n = N1 + N2 + N3 + N4 + 3000 := ⟨_, rfl⟩
  rw [show N1 + N2 + N3 + N4 + 3003 = n + 2 + 1 by omega]
  rw [T_fun (af := a_64) rfl rfl rfl]
  have c0 := c0 (n + 1) σ0
  have c1 := c1 (n + 1) σ0
  have hW := hW (n + 1) σ0
  have hLv := hLv (n + 1) σh
  have rN := rN (n + 1) (by omega)
  have rNa := rNa (n + 1)
  have rFa := rFa n
  have rNe := rNe (n + 1)
  have rFe := rFe n
  have r1 := r1 (n + 2) (by omega)
  have r2 := r2 (n + 2) (by omega)
  have r3 := r3 (n + 2) (by omega)
  have r4 := r4 (n + 2) (by omega)
  have z0 : ((0 : Int) == 0) = true := rfl
  have epr : dPr worldM = .agg [dDl worldM, .nils, .nils, .nils] := rfl
  rw [epr] at hW rN
  generalize tMeta 1 = τ at *
  simp only [patR] at r1 r2 r3 r4
  simp only [dPt_eq, cPt, dTy_eq, cTy_eq] at c0 c1 rFa rFe r1 r2 r3 r4
  have hne : ((a : Int) != (b : Int)) = true ∨ β = true := by
    cases β with
    | true => exact .inr rfl
    | false =>
      refine .inl ?_
      have := hab rfl
      simp only [bne_iff_ne, ne_eq, Int.natCast_inj]
      exact this
  cases β with
  | true =>
    cases hg : ((a : Int) != (b : Int)) with
    | true => simp only [a_64, sA, Nat.reduceAdd, Nat.reduceSub, Nat.reduceMul, Nat.reduceBEq, Nat.reduceLeDiff, Int.reduceBEq, Int.reduceBNe, Int.reduceLE, Int.reduceLT, Int.reduceGE, Int.reduceGT, Int.reduceNeg, kn, onel, onep, c0, c1, hW, rN, rNa, rFa, rNe, rFe, r1, r2, r3, r4, hLv, z0, b2, b4, hg, beq_self_eq_true]
    | false => simp only [a_64, sA, Nat.reduceAdd, Nat.reduceSub, Nat.reduceMul, Nat.reduceBEq, Nat.reduceLeDiff, Int.reduceBEq, Int.reduceBNe, Int.reduceLE, Int.reduceLT, Int.reduceGE, Int.reduceGT, Int.reduceNeg, kn, onel, onep, c0, c1, hW, rN, rNa, rFa, rNe, rFe, r1, r2, r3, r4, hLv, z0, b2, b4, hg, beq_self_eq_true]
  | false =>
    have hg : ((a : Int) != (b : Int)) = true := by
      rcases hne with h | h
      · exact h
      · cases h
    simp only [a_64, sA, Nat.reduceAdd, Nat.reduceSub, Nat.reduceMul, Nat.reduceBEq, Nat.reduceLeDiff, Int.reduceBEq, Int.reduceBNe, Int.reduceLE, Int.reduceLT, Int.reduceGE, Int.reduceGT, Int.reduceNeg, kn, onel, onep, c0, c1, hW, rN, rNa, rFa, rNe, rFe, r1, r2, r3, r4, hLv, z0, b2, b4, hg, beq_self_eq_true]
end Go.Fu
