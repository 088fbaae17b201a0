/-
  Numbers that are picked; a field's type.
-/
import Derived.Test.YtmhedpkbfaginaaGreatDoorFlX
import Derived.Test.YtmhedpkbfaginaaGreatDoorFlH
set_option maxHeartbeats 4000000
set_option linter.unusedSimpArgs false
set_option linter.unusedVariables false
set_option linter.unusedSectionVars false
namespace Go.Fu
open Go Go.Mx
set_option maxRecDepth 10000
set_option maxHeartbeats 4000000
structure IR (d : D) (xs : List Int) : Prop where
  len : lenOf d = some xs.length
  idx : ∀ i (h : i < xs.length), indexD 1 d i = some (.eptr (.int .i64 xs[i]))
  np : noPtr d = true
  small : ∀ x ∈ xs, Small x
def pickI (x : Int) : Nat := (if x < 0 then -(x + 1) else x).toNat
def pickM (xs : List Int) (at' : Nat) : Nat := if h : at' < xs.length then pickI xs[at'] else 0
theorem pickI_lt {x : Int} (h : Small x) : pickI x < 9223372036854775808 := by
  unfold pickI Small at *
  split <;> omega
theorem pickM_lt {xs : List Int} (h : ∀ x ∈ xs, Small x) (i : Nat) : pickM xs i < 9223372036854775808 := by
  unfold pickM
  split
  · exact pickI_lt (h _ (List.getElem_mem _))
  · omega
theorem pick_pure {d : D} {xs : List Int} (hR : IR d xs) (i : Nat) (hi : i < 1099511627776) : OkP n_104 [d, .int .i64 i] ⟨false, .int .i64 (pickM xs i : Nat)⟩ := by
  refine pure_fun (af := a_74) (n := 1) (σ' := σ0) (T_sound [] 0) rfl rfl (by simp [noPtrL, hR.np, noPtr]) rfl ?_
  by_cases h : i < xs.length
  · have h1 : ¬ ((xs.length : Int) ≤ (i : Int)) := by omega
    have hx := hR.idx i h
    have hs := hR.small _ (List.getElem_mem h)
    have hp : pickM xs i = pickI xs[i] := by simp [pickM, h]
    rw [hp]
    generalize xs[i] = x at hx hs
    unfold Small at hs
    by_cases h2 : x < 0
    · have e1 : IntKind.i64.wrap (x + 1) = x + 1 := wrap64 (by omega) (by omega)
      have e2 : IntKind.i64.wrap (0 - (x + 1)) = (pickI x : Int) := by
        rw [wrap64 (by omega) (by omega)]
        simp only [pickI, if_pos h2]
        omega
      simp only [a_74, sA, Nat.reduceAdd, Nat.reduceSub, Nat.reduceMul, Nat.reduceBEq, Nat.reduceLeDiff, Int.reduceBEq, Int.reduceBNe, Int.reduceLE, Int.reduceLT, Int.reduceGE, Int.reduceGT, Int.reduceNeg, kn, hR.len, h1, natI, hx, h2, e1, e2]
    · have e2 : x = (pickI x : Int) := by
        simp only [pickI, if_neg h2]
        omega
      simp only [a_74, sA, Nat.reduceAdd, Nat.reduceSub, Nat.reduceMul, Nat.reduceBEq, Nat.reduceLeDiff, Int.reduceBEq, Int.reduceBNe, Int.reduceLE, Int.reduceLT, Int.reduceGE, Int.reduceGT, Int.reduceNeg, kn, hR.len, h1, natI, hx, h2]
      rw [← e2]
  · have h1 : ((xs.length : Int) ≤ (i : Int)) := by omega
    have hp : pickM xs i = 0 := by simp [pickM, h]
    rw [hp]
    simp only [a_74, sA, Nat.reduceAdd, Nat.reduceSub, Nat.reduceMul, Nat.reduceBEq, Nat.reduceLeDiff, Int.reduceBEq, Int.reduceBNe, Int.reduceLE, Int.reduceLT, Int.reduceGE, Int.reduceGT, Int.reduceNeg, kn, hR.len, h1]
    rfl
theorem tmodN (a b : Nat) : ((a : Int)).tmod (b : Int) = ((a % b : Nat) : Int) := by rw [Int.tmod_eq_emod_of_nonneg (by omega)]; omega
theorem tdivN (a b : Nat) : ((a : Int)).tdiv (b : Int) = ((a / b : Nat) : Int) := by rw [Int.tdiv_eq_ediv_of_nonneg (by omega)]; omega
section
variable {C : CallF} {n : Nat} {σ : Store}
end
end Go.Fu
