/-
  The signature is asked: constructors, data types.
-/
import Derived.Test.YtmhedpkbfaginaaGreatDoorFlO
set_option maxHeartbeats 4000000
set_option linter.unusedSimpArgs false
set_option linter.unusedVariables false
set_option linter.unusedSectionVars false
namespace Go.Fu
open Go Go.Mx
set_option maxRecDepth 10000
set_option maxHeartbeats 4000000
theorem con_run {S : Specs} (hS0 : has S n_38 = false) {σ : Store} {p m : Nat} {L : List Da} (h : PN σ p m L (conAts L 0)) (hL : L.length ≤ 1000) (s : Tx) (n : Nat) : T S (n + 1) n_38 [.ptr p 0, .str s] σ = some (.ret ⟨false, conR (conM s L)⟩, σ) := by
  rw [T_fun (af := a_93) hS0 rfl rfl]
  have ho := h.obj
  have hma : mapOf σ.oth (.map m) = some (esOf (conAts L 0) 0) := by simp only [mapOf, h.map, bindO, caseO_some]
  have hkd : keyD true (.str s) = true := rfl
  have hf := conAts_find s L 0
  cases hc : conM s L with
  | none =>
    rw [hc] at hf
    have h1 := findM_none s _ 0 hf
    have ez : dDa zDa = .agg [.str [], .int .i64 0, .nils, .nils, .nils] := rfl
    simp only [conR, ez]
    generalize esOf (conAts L 0) 0 = es at *
    simp only [a_93, sA, Nat.reduceAdd, Nat.reduceSub, Nat.reduceMul, Nat.reduceBEq, Nat.reduceLeDiff, Int.reduceBEq, Int.reduceBNe, Int.reduceLE, Int.reduceLT, Int.reduceGE, Int.reduceGT, Int.reduceNeg, kn, onel, ho, hma, hkd, h1]
  | some q =>
    rw [hc] at hf
    obtain ⟨i, e1, e2⟩ := hf
    obtain ⟨b, j, h1⟩ := findM_some s _ 0 _ e2
    obtain ⟨hi, e3⟩ := List.getElem?_eq_some_iff.1 e1
    have hx := idx_D L i hi
    rw [e3] at hx
    simp only [Nat.zero_add] at h1
    obtain ⟨d, k⟩ := q
    simp only [conR] at hx h1 ⊢
    generalize esOf (conAts L 0) 0 = es at *
    simp only [a_93, sA, Nat.reduceAdd, Nat.reduceSub, Nat.reduceMul, Nat.reduceBEq, Nat.reduceLeDiff, Int.reduceBEq, Int.reduceBNe, Int.reduceLE, Int.reduceLT, Int.reduceGE, Int.reduceGT, Int.reduceNeg, kn, onel, ho, hma, hkd, h1, hx, natI, dDa_eq]
def GA (σ : Store) (t : Nat) (cs : List Cell) : Store := { objs := (σ.next, cs) :: σ.objs, tys := (σ.next, ⟨t, 0⟩) :: σ.tys, oth := σ.oth, next := σ.next + 1 }
theorem agC {α : Type} (k j : Nat) (v : α) (l : List (Nat × α)) (hj : k ≠ j) : aget ((k, v) :: l) j = aget l j := by
  have : (k == j) = false := by simpa using hj
  simp [aget, ifB, this]
section
variable {C : CallF} {n : Nat} {σ : Store}
end
end Go.Fu
namespace Go.Fu
open Go Go.Mx
set_option maxRecDepth 10000
set_option maxHeartbeats 4000000
def SO (σ : Store) (id : Nat) (cs : List Cell) : Store := { σ with objs := aset σ.objs id cs }
def asgF : ACode := .region [⟨(some 10), .mov (.tmp 35), none⟩] none [3, 5, 6, 7, 14, 15, 16, 21, 22, 23, 33, 34, 35]
def RF (sl : List (Nat × Cell)) (s : LSt) : LRec := { slots := sl, params := [34, 35], assign := asgF, body := a_154, st := s }
structure YS (τ τ' : Store) (a c : Nat) (t : Ty) (sl : List (Nat × Cell)) (s : LSt) : Prop where
  oa : aget τ'.objs a = some (bT t)
  rl : aget τ'.oth c = some (.loop (RF sl s))
  fo : ∀ j, j ≠ a → aget τ'.objs j = aget τ.objs j
  ft : ∀ j, j ≠ c → aget τ'.oth j = aget τ.oth j
  nx : τ'.next = τ.next
theorem YS.set {τ σ : Store} {a c : Nat} {t : Ty} {sl : List (Nat × Cell)} {s : LSt} (h : YS τ σ a c t sl s) (u : LSt) : YS τ (setLoop σ c (RF sl s) u) a c t sl u := by
  refine ⟨h.oa, agA _ _ _, h.fo, fun j hj => ?_, h.nx⟩
  exact (agB _ _ _ (beq_false_of_ne fun e => hj e.symm) _).trans (h.ft j hj)
theorem YS.so {τ σ : Store} {a c : Nat} {t u : Ty} {sl : List (Nat × Cell)} {s : LSt} (h : YS τ σ a c t sl s) : YS τ (SO σ a (bT u)) a c u sl s := by
  refine ⟨agA _ _ _, h.rl, fun j hj => ?_, h.ft, h.nx⟩
  exact (agB _ _ _ (beq_false_of_ne fun e => hj e.symm) _).trans (h.fo j hj)
end Go.Fu
namespace Go.Fu
open Go Go.Mx
set_option maxRecDepth 10000
set_option maxHeartbeats 4000000
theorem loopN_inv {body : Env → Store → XRes} (P : Nat → Env → Store → Prop) (Q : AExit × Env × Store → Prop) (k : Nat) (hstep : ∀ i e σ, i < k → P i e σ → ∃ e' σ', body e σ = some (.normal, e', σ') ∧ P (i + 1) e' σ')
    (hend : ∀ e σ, P k e σ → ∃ r, body e σ = some r ∧ (∀ e σ, r ≠ (.normal, e, σ)) ∧ Q r) : ∀ (j n : Nat) (e : Env) (σ : Store), j ≤ k → k < n + j → P j e σ → ∃ r, loopN body n e σ = some r ∧ Q r
  | j, 0, e, σ, h1, h2, _ => by omega
  | j, n + 1, e, σ, h1, h2, hp => by
    rw [loopN]
    by_cases hj : j = k
    · subst hj
      obtain ⟨r, hr, hn, hq⟩ := hend e σ hp
      rw [hr]
      obtain ⟨x, e', σ'⟩ := r
      cases x with
      | normal => exact absurd rfl (hn e' σ')
      | _ => exact ⟨_, rfl, hq⟩
    · obtain ⟨e', σ', hb, hp'⟩ := hstep j e σ (by omega) hp
      rw [hb]
      exact loopN_inv P Q k hstep hend (j + 1) n e' σ' (by omega) (by omega) hp'
section
variable {n : Nat}
end
structure DS (σ : Store) (ids : List Nat) : Prop where
  all : ∀ x ∈ ids, aget σ.oth x = some .dfr ∧ x < σ.next
  once : ids.Nodup
end Go.Fu
namespace Go.Fu
open Go Go.Mx
set_option maxRecDepth 10000
set_option maxHeartbeats 4000000
structure FgS (S : Specs) : Prop where
  ty : aget S n_145 = some sp_typeOf
  al : aget S n_148 = some sp_All
  b0 : has S n_208 = false
  b1 : has S n_307 = false
  f0 : has S n_293 = false
theorem fold_SO {σ : Store} {id : Nat} {cs : List Cell} : ({ objs := aset σ.objs id cs, tys := σ.tys, oth := σ.oth, next := σ.next } : Store) = SO σ id cs := rfl
end Go.Fu
namespace Go.Fu
open Go Go.Mx
set_option maxRecDepth 10000
set_option maxHeartbeats 4000000
end Go.Fu
