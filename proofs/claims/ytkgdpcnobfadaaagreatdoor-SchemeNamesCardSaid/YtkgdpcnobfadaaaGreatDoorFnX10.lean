/-
  What stands twice is left out, run: all of it.
-/
import Derived.Test.YtkgdpcnobfadaaaGreatDoorFnX14
import Derived.Test.YtkgdpcnobfadaaaGreatDoorFnX8
set_option linter.unusedSimpArgs false
set_option linter.unusedVariables false
namespace Go.Fu
open Go Go.Mx
set_option maxRecDepth 10000
structure CInv (L : List Pr) (id K : Nat) (σ : Store) (k2 : Nat) (e : Env) (σ' : Store) : Prop where
  ex : ∃ (k : Nat) (A : List Pr), e = EC0 id L.length K k k2 ∧ k ≤ K + k2 - 1 ∧ A.length = L.length ∧ A.take k = cpt (L.take (K + k2)) ∧ A.drop (K + k2 - 1) = L.drop (K + k2 - 1) ∧ aget σ'.objs id = some (cellsOf (A.map dP))
  same : SameB id σ σ'
theorem zre {A L : List Pr} {a i : Nat} (h : A.drop a = L.drop a) (hi : a ≤ i) (hA : i < A.length) (hL : i < L.length) : A[i] = L[i] := by
  have h1 : (A.drop a)[i - a]? = A[i]? := by rw [List.getElem?_drop]; congr 1; omega
  have h2 : (L.drop a)[i - a]? = L[i]? := by rw [List.getElem?_drop]; congr 1; omega
  rw [h, h2, List.getElem?_eq_getElem hL, List.getElem?_eq_getElem hA] at h1
  exact (Option.some.inj h1).symm
theorem zzp {C : CallF} {n : Nat} (L : List Pr) (id K : Nat) (σ : Store) (hK : 0 < K) (hid : id < σ.next) (hl : L.length < 1000) (hc : ∀ p ∈ L, ∀ q ∈ L, EqC C p q) (k2 : Nat) (e : Env) (σ' : Store) (h0 : 0 < k2) (hj : K + k2 < L.length) (h : CInv L id K σ k2 e σ') :
    ∃ e' σ'', exec C n a_35 e σ' = some (.normal, e', σ'') ∧ CInv L id K σ (k2 + 1) e' σ'' := by
  obtain ⟨k, A, rfl, hk, hA, ht, hd, ha⟩ := h.ex
  have g1 : A[K + k2]'(by omega) = L[K + k2] := zre hd (by omega) _ _
  have g2 : A[K + (k2 - 1)]'(by omega) = L[K + (k2 - 1)]'(by omega) := zre hd (by omega) _ _
  have t1 := zf2 A (K + k2) (by omega)
  have t2 := zf2 A (K + (k2 - 1)) (by omega)
  rw [g1] at t1
  rw [g2] at t2
  have hcc := hc L[K + k2] (List.getElem_mem hj) (L[K + (k2 - 1)]'(by omega)) (List.getElem_mem _)
  have hcp := zm2 L (K + k2) (by omega) hj
  have hix : L[K + k2 - 1]'(by omega) = L[K + (k2 - 1)]'(by omega) := by congr 1; omega
  rw [hix] at hcp
  have hdrop : A.drop (K + k2) = L.drop (K + k2) := by
    have e1 : A.drop (K + k2) = (A.drop (K + k2 - 1)).drop 1 := by rw [List.drop_drop]; congr 1; omega
    have e2 : L.drop (K + k2) = (L.drop (K + k2 - 1)).drop 1 := by rw [List.drop_drop]; congr 1; omega
    rw [e1, e2, hd]
  cases hp : eqP L[K + k2] (L[K + (k2 - 1)]'(by omega)) with
  | true =>
    rw [hp, if_pos rfl, List.append_nil] at hcp
    refine ⟨_, σ', zcyb (C := C) (n := n) id L.length K k k2 A _ _ σ' hA hl h0 hj ha t1 t2 hcc hp, ⟨⟨k, A, rfl, by omega, hA, ?_, ?_, ha⟩, h.same⟩⟩
    · rw [ht]; exact hcp.symm
    · exact hdrop
  | false =>
    rw [hp, if_neg (by simp)] at hcp
    have hkl : k < L.length := by omega
    refine ⟨_, _, zcxb (C := C) (n := n) id L.length K k k2 A _ _ σ' hA hl h0 hj hkl ha t1 t2 hcc hp, ⟨⟨k + 1, A.set k L[K + k2], rfl, by omega, by simp [hA], ?_, ?_, ?_⟩, h.same.trans (zds h.same.wf _ (by rw [h.same.next]; exact hid))⟩⟩
    · have hS : k < (A.set k L[K + k2]).length := by simp; omega
      rw [← za8 _ _ hS, List.getElem_set_self, List.take_set_of_le (Nat.le_refl _), ht]
      exact hcp.symm
    · show (A.set k L[K + k2]).drop (K + k2) = L.drop (K + k2)
      rw [← hdrop, List.drop_set_of_lt (by omega)]
    · rw [zbv, if_pos rfl]
def CmpR (L : List Pr) (id : Nat) (σ σ' : Store) : Prop := SameB id σ σ' ∧ ∃ rest, aget σ'.objs id = some (cellsOf ((cpt L).map dP) ++ rest)
theorem zcmb (L : List Pr) : (∀ j, 0 < j → ∀ h : j < L.length, eqP L[j] (L[j - 1]'(by omega)) = false) ∨ ∃ K, 0 < K ∧ ∃ h : K < L.length, eqP L[K] (L[K - 1]'(by omega)) = true ∧ ∀ j, 0 < j → ∀ hj : j < K, eqP (L[j]'(by omega)) (L[j - 1]'(by omega)) = false := by
  have key : ∀ n, (∀ j, 0 < j → j < n → ∀ h : j < L.length, eqP L[j] (L[j - 1]'(by omega)) = false) ∨ ∃ K, 0 < K ∧ ∃ h : K < L.length, eqP L[K] (L[K - 1]'(by omega)) = true ∧ ∀ j, 0 < j → ∀ hj : j < K, eqP (L[j]'(by omega)) (L[j - 1]'(by omega)) = false := by
    intro n
    induction n with
    | zero => exact .inl fun j _ h => by omega
    | succ n ih =>
      rcases ih with ih | ih
      · by_cases hn : 0 < n ∧ n < L.length
        · cases hp : eqP (L[n]'hn.2) (L[n - 1]'(by omega)) with
          | true => exact .inr ⟨n, hn.1, hn.2, hp, fun j h0 hj => ih j h0 hj (by omega)⟩
          | false =>
            refine .inl fun j h0 hj h => ?_
            by_cases he : j = n
            · subst he; exact hp
            · exact ih j h0 (by omega) h
        · exact .inl fun j h0 hj h => ih j h0 (by omega) h
      · exact .inr ih
  rcases key L.length with h | h
  · exact .inl fun j h0 hj => h j h0 hj hj
  · exact .inr h
theorem zjq (L : List Pr) : ∀ i, i ≤ L.length → (∀ j, 0 < j → ∀ hj : j < i, ∀ h : j < L.length, eqP L[j] (L[j - 1]'(by omega)) = false) → cpt (L.take i) = L.take i
  | 0, _, _ => rfl
  | 1, h, _ => by
    cases L with
    | nil => simp at h
    | cons a b => rfl
  | i + 2, h, hj => by
    have ih := zjq L (i + 1) (by omega) fun j h0 hji hjl => hj j h0 (by omega) hjl
    have hlt : i + 1 < L.length := by omega
    have := hj (i + 1) (by omega) (by omega) hlt
    simp only [Nat.add_sub_cancel] at this
    rw [zm2 L (i + 1) (by omega) hlt, ih]
    simp only [Nat.add_sub_cancel]
    rw [this, if_neg (by simp), za8 L (i + 1) hlt]
section
variable {C : CallF} {n : Nat}
def EC1 (id len k : Nat) : Env := { slots := [(0, ⟨false, .arr k_1 id 0 len⟩), (1, ⟨false, fnC⟩), (5, ⟨false, .int .i64 k⟩)], locs := [], boxes := [], defers := [] }
theorem zry (L : List Pr) (id k : Nat) (σ : Store) (hl : L.length < 1000) (h0 : 0 < k) (hk : k < L.length) (ha : aget σ.objs id = some (cellsOf (L.map dP))) (hc : EqC C L[k] (L[k - 1]'(by omega))) (hp : eqP L[k] (L[k - 1]'(by omega)) = false) :
    exec C n a_36 (EC1 id L.length k) σ = some (.normal, EC1 id L.length (k + 1), σ) := by
  have hi : ((k : Int) < (L.length : Int)) := by omega
  have w1 := zam (i := k) (by omega)
  have w2 : IntKind.i64.wrap ((k : Int) - 1) = ((k - 1 : Nat) : Int) := by rw [zbc (by omega) (by omega)]; omega
  have l2 : k - 1 < L.length := by omega
  have t1 := zf2 L k hk
  have t2 := zf2 L (k - 1) l2
  have hcc := hc σ
  rw [hp] at hcc
  simp only [a_36, EC1, fnC, de0, de1, de2, szQ, szB, szL, sy0, sy1, sy2, sy3, sy4, sy5, zad, zaa, zac, zae, adel, zah, zag, zai, zaf, evalV, aget, aset, adel1, nth, AOp.kind, Nat.reduceAdd, Nat.reduceSub, Nat.reduceMul, Nat.reduceBEq, Nat.ble, bindO, Nat.reduceLeDiff, Int.reduceBEq, Int.reduceBNe, Int.reduceLE, Int.reduceLT, Int.reduceGE, Int.reduceGT, Int.reduceNeg, ks, lz, memE, memOp, zb0, hi, w1, w2, hk, l2, ha, t1, t2, hcc]
theorem zfxb (id len : Nat) (σ : Store) : exec C n a_36 (EC1 id len len) σ = some (.exit 0, { EC1 id len len with slots := [(0, ⟨false, .arr k_1 id 0 len⟩), (1, ⟨false, fnC⟩), (5, ⟨false, .int .i64 len⟩), (15, ⟨false, .bool false⟩)] }, σ) := by
  have hi : ¬ ((len : Int) < (len : Int)) := by omega
  simp only [a_36, EC1, fnC, de0, de1, de2, szQ, szB, szL, sy0, sy1, sy2, sy3, sy4, sy5, zad, zaa, zac, zae, adel, zah, zag, zai, zaf, evalV, aget, aset, adel1, nth, AOp.kind, Nat.reduceAdd, Nat.reduceSub, Nat.reduceMul, Nat.reduceBEq, Nat.ble, bindO, Nat.reduceLeDiff, Int.reduceBEq, Int.reduceBNe, Int.reduceLE, Int.reduceLT, Int.reduceGE, Int.reduceGT, Int.reduceNeg, ks, lz, hi]
theorem zczb (L : List Pr) (id K : Nat) (σ : Store) (hw : WF σ) (hid : id < σ.next) (hl : L.length < 1000) (hn : L.length < n) (h0 : 0 < K) (hk : K < L.length) (ha : aget σ.objs id = some (cellsOf (L.map dP))) (hc : ∀ p ∈ L, ∀ q ∈ L, EqC C p q) (hp : eqP L[K] (L[K - 1]'(by omega)) = true)
    (hb : ∀ j, 0 < j → ∀ hj : j < K, eqP (L[j]'(by omega)) (L[j - 1]'(by omega)) = false) :
    ∃ σ', exec C n a_36 (EC1 id L.length K) σ = some (.ret, { slots := [(4, ⟨false, .arr k_1 id 0 (cpt L).length⟩)], locs := [], boxes := [], defers := [] }, σ') ∧ CmpR L id σ σ' := by
  have hcK : cpt (L.take (K + 1)) = L.take K := by
    rw [zm2 L K h0 hk, hp, if_pos rfl, List.append_nil]
    exact zjq L K (by omega) fun j h0 hj h => hb j h0 hj
  obtain ⟨⟨x, e, σ1⟩, hloop, hx1, k, A, hx2, hk2, hA, ht, ha1, hsame⟩ := zbw (body := exec C n a_35) (CInv L id K σ)
    (fun x => x.1 = .exit 2 ∧ ∃ (k : Nat) (A : List Pr), x.2.1 = { EC0 id L.length K k (L.length - K) with slots := [(0, ⟨false, .arr k_1 id 0 L.length⟩), (1, ⟨false, fnC⟩), (5, ⟨false, .int .i64 k⟩), (6, ⟨false, .arr k_1 id K (L.length - K)⟩), (7, ⟨false, .int .i64 (L.length - K : Nat)⟩), (35, ⟨false, .bool false⟩)] } ∧ k ≤ L.length ∧ A.length = L.length ∧ A.take k = cpt L ∧ aget x.2.2.objs id = some (cellsOf (A.map dP)) ∧ SameB id σ x.2.2) (L.length - K)
    (fun k2 e σ' hj h => by
      by_cases hz : k2 = 0
      · obtain ⟨k, A, rfl, hk, hA, ht, hd, ha⟩ := h.ex
        subst hz
        exfalso
        simp only [Nat.add_zero] at ht hk
        have h1 := congrArg List.length ht
        rw [zjq L K (by omega) fun j h0 hj h => hb j h0 hj, List.length_take, List.length_take] at h1
        omega
      · exact zzp L id K σ h0 hid hl hc k2 e σ' (by omega) (by omega) h)
    (fun e σ' h => by
      obtain ⟨k, A, rfl, hk, hA, ht, hd, ha⟩ := h.ex
      rw [show K + (L.length - K) = L.length by omega, List.take_length] at ht
      exact ⟨_, zfwb id L.length K k (L.length - K) (by omega) σ', fun _ _ h => (by cases h), rfl, k, A, rfl, by omega, hA, ht, ha, h.same⟩) 1 n (EC0 id L.length K K 1) σ (by omega) (by omega)
    ⟨⟨K, L, rfl, by omega, rfl, hcK.symm, rfl, ha⟩, SameB.refl hw⟩
  simp only at hx1 hx2 ha1 hsame
  subst hx1 hx2
  have hkl : (cpt L).length = k := by rw [← ht, List.length_take]; omega
  rw [hkl]
  have hlen := zeg A
  have hsl : zbd 5 (.arr k_1 id 0 L.length) K none = some (.arr k_1 id K (L.length - K)) := by
    have d1 : decide (K ≤ L.length) = true := decide_eq_true (by omega)
    rw [zfl]
    simp only [Option.getD_none, d1, decide_eq_true (Nat.le_refl L.length), k_92, beq_self_eq_true, Bool.and_self, zae, Nat.zero_add]
  have hsl1 : zbd 5 (.arr k_1 id 0 L.length) k none = some (.arr k_1 id k (L.length - k)) := by
    have d1 : decide (k ≤ L.length) = true := decide_eq_true hk2
    rw [zfl]
    simp only [Option.getD_none, d1, decide_eq_true (Nat.le_refl L.length), k_92, beq_self_eq_true, Bool.and_self, zae, Nat.zero_add]
  have hsl2 : zbd 5 (.arr k_1 id 0 L.length) 0 (some k) = some (.arr k_1 id 0 k) := by
    have d1 : decide (k ≤ L.length) = true := decide_eq_true hk2
    rw [zfl]
    simp only [Option.getD_some, d1, decide_eq_true (Nat.zero_le k), k_92, beq_self_eq_true, Bool.and_self, zae, Nat.sub_zero, Nat.add_zero]
  have hcl : ∃ cs, zfp σ1 5 [.str [], .int .i64 0, .int .i64 0, .str [], .nils] (.arr k_1 id k (L.length - k)) = some (setO σ1 id cs) ∧ cs.take (k * 5) = cellsOf ((cpt L).map dP) := by
    have d1 : decide ((k + (L.length - k)) * 5 ≤ (cellsOf (A.map dP)).length) = true := decide_eq_true (by omega)
    refine ⟨zap (cellsOf (A.map dP)) (k * 5) (rowOf [.str [], .int .i64 0, .int .i64 0, .str [], .nils] (L.length - k)), ?_, ?_⟩
    · simp only [zfp, ha1, bindO, zaa, k_92, beq_self_eq_true, List.length_cons, List.length_nil, Nat.zero_add, Nat.reduceAdd, Bool.and_self, Bool.true_and, d1, zae]
      rfl
    · rw [zp4]
      have hsp : A.map dP = (cpt L).map dP ++ (A.drop k).map dP := by rw [← ht, ← List.map_append, List.take_append_drop]
      rw [hsp, zdm, List.take_left']
      rw [zeg, hkl]
  obtain ⟨cs, hcl, hcs⟩ := hcl
  refine ⟨setO σ1 id cs, ?_, hsame.trans (zds hsame.wf cs (by rw [hsame.next]; exact hid)), cs.drop (k * 5), ?_⟩
  · have hi : ((K : Int) < (L.length : Int)) := by omega
    have w2 : IntKind.i64.wrap ((K : Int) - 1) = ((K - 1 : Nat) : Int) := by rw [zbc (by omega) (by omega)]; omega
    have l2 : K - 1 < L.length := by omega
    have t1 := zf2 L K hk
    have t2 := zf2 L (K - 1) l2
    have hcc := hc L[K] (List.getElem_mem hk) L[K - 1] (List.getElem_mem l2) σ
    rw [hp] at hcc
    have c1 : ((1 : Nat) : Int) = 1 := rfl
    simp only [EC0, fnC, c1] at hloop
    simp only [a_36, EC1, fnC, de0, de1, de2, szQ, szB, szL, sy0, sy1, sy2, sy3, sy4, sy5, zad, zaa, zac, zae, adel, zah, zag, zai, zaf, evalV, aget, aset, adel1, nth, AOp.kind, Nat.reduceAdd, Nat.reduceSub, Nat.reduceMul, Nat.reduceBEq, Nat.ble, bindO, Nat.reduceLeDiff, Int.reduceBEq, Int.reduceBNe, Int.reduceLE, Int.reduceLT, Int.reduceGE, Int.reduceGT, Int.reduceNeg, ks, lz, memE, memOp, zb0, hi, w2, hk, l2, ha, t1, t2, hcc, hsl, hsl1, hsl2, hloop, hcl]
  · rw [zbv, if_pos rfl, ← hcs, List.take_append_drop]
end
end Go.Fu
namespace Go.Fu
open Go Go.Mx
set_option maxRecDepth 10000
theorem zv8 (L : List Pr) (h : ∀ j, 0 < j → ∀ h : j < L.length, eqP L[j] (L[j - 1]'(by omega)) = false) : cpt L = L := by
  have := zjq L L.length (Nat.le_refl _) fun j h0 _ hj => h j h0 hj
  rwa [List.take_length] at this
theorem zt5 (m : Nat) (L : List Pr) (hl : L.length < 1000) (hne : L ≠ []) (hm : L.length + 4 ≤ m) (id : Nat) (σ : Store) (hw : WF σ) (hid : id < σ.next) (ha : aget σ.objs id = some (cellsOf (L.map dP))) (hc : ∀ p ∈ L, ∀ q ∈ L, EqC (T m) p q) :
    ∃ σ', T (m + 1) n_95 [.arr k_1 id 0 L.length, fnC] σ = some (.ret ⟨false, .arr k_1 id 0 (cpt L).length⟩, σ') ∧ CmpR L id σ σ' := by
  have hpos : 0 < L.length := by cases L with
    | nil => exact absurd rfl hne
    | cons a b => simp
  rw [T_fun (af := a_48) rfl rfl]
  by_cases h2 : L.length < 2
  · have hcp : cpt L = L := zv8 L fun j h0 h => by omega
    rw [hcp]
    refine ⟨σ, ?_, SameB.refl hw, [], by rw [hcp, List.append_nil]; exact ha⟩
    have h3 : ((L.length : Int) < 2) := by omega
    simp only [a_48, fnC, de0, de1, de2, szQ, szB, szL, sy0, sy1, sy2, sy3, sy4, sy5, zad, zaa, zac, zae, adel, zah, zag, zai, zaf, evalV, aget, aset, adel1, nth, AOp.kind, Nat.reduceAdd, Nat.reduceSub, Nat.reduceMul, Nat.reduceBEq, Nat.ble, bindO, Nat.reduceLeDiff, Int.reduceBEq, Int.reduceBNe, Int.reduceLE, Int.reduceLT, Int.reduceGE, Int.reduceGT, Int.reduceNeg, ks, lz, h3]
  · have h3 : ¬ ((L.length : Int) < 2) := by omega
    rcases zcmb L with h | ⟨K, h0, hK, hp, hb⟩
    · have hcp := zv8 L h
      rw [hcp]
      refine ⟨σ, ?_, SameB.refl hw, [], by rw [hcp, List.append_nil]; exact ha⟩
      obtain ⟨⟨x, e, σ1⟩, hloop, hx1, hx2, hx3⟩ := zbw (body := exec (T m) m a_36) (fun k e σ' => e = EC1 id L.length (k + 1) ∧ σ' = σ)
        (fun x => x.1 = .exit 0 ∧ x.2.1 = { EC1 id L.length L.length with slots := [(0, ⟨false, .arr k_1 id 0 L.length⟩), (1, ⟨false, fnC⟩), (5, ⟨false, .int .i64 L.length⟩), (15, ⟨false, .bool false⟩)] } ∧ x.2.2 = σ) (L.length - 1)
        (fun k e σ'' hk hp => by
          obtain ⟨rfl, rfl⟩ := hp
          have hk' : k + 1 < L.length := by omega
          exact ⟨_, _, zry L id (k + 1) σ'' hl (by omega) hk' ha (hc _ (List.getElem_mem hk') _ (List.getElem_mem _)) (h (k + 1) (by omega) hk'), rfl, rfl⟩)
        (fun e σ'' hp => by
          obtain ⟨rfl, rfl⟩ := hp
          rw [show L.length - 1 + 1 = L.length by omega]
          exact ⟨_, zfxb id L.length σ'', fun _ _ h => (by cases h), rfl, rfl, rfl⟩) 0 m (EC1 id L.length 1) σ (by omega) (by omega) ⟨rfl, rfl⟩
      simp only at hx1 hx2 hx3
      subst hx1 hx2 hx3
      have c1 : ((1 : Nat) : Int) = 1 := rfl
      simp only [EC1, fnC, c1] at hloop
      simp only [a_48, fnC, de0, de1, de2, szQ, szB, szL, sy0, sy1, sy2, sy3, sy4, sy5, zad, zaa, zac, zae, adel, zah, zag, zai, zaf, evalV, aget, aset, adel1, nth, AOp.kind, Nat.reduceAdd, Nat.reduceSub, Nat.reduceMul, Nat.reduceBEq, Nat.ble, bindO, Nat.reduceLeDiff, Int.reduceBEq, Int.reduceBNe, Int.reduceLE, Int.reduceLT, Int.reduceGE, Int.reduceGT, Int.reduceNeg, ks, lz, h3, hloop]
    · obtain ⟨σ', hst, hR⟩ := zczb (C := T m) (n := m) L id K σ hw hid hl (by omega) h0 hK ha hc hp hb
      refine ⟨σ', ?_, hR⟩
      obtain ⟨⟨x, e, σ1⟩, hloop, hx1, hx2, hx3⟩ := zbw (body := exec (T m) m a_36) (fun k e σ' => e = EC1 id L.length (k + 1) ∧ σ' = σ)
        (fun x => x.1 = .ret ∧ x.2.1 = { slots := [(4, ⟨false, .arr k_1 id 0 (cpt L).length⟩)], locs := [], boxes := [], defers := [] } ∧ x.2.2 = σ') (K - 1)
        (fun k e σ'' hk hp => by
          obtain ⟨rfl, rfl⟩ := hp
          have hk' : k + 1 < L.length := by omega
          exact ⟨_, _, zry L id (k + 1) σ'' hl (by omega) hk' ha (hc _ (List.getElem_mem hk') _ (List.getElem_mem _)) (hb (k + 1) (by omega) (by omega)), rfl, rfl⟩)
        (fun e σ'' hp => by
          obtain ⟨rfl, rfl⟩ := hp
          rw [show K - 1 + 1 = K by omega]
          exact ⟨_, hst, fun _ _ h => (by cases h), rfl, rfl, rfl⟩) 0 m (EC1 id L.length 1) σ (by omega) (by omega) ⟨rfl, rfl⟩
      simp only at hx1 hx2 hx3
      subst hx1 hx2 hx3
      have c1 : ((1 : Nat) : Int) = 1 := rfl
      simp only [EC1, fnC, c1] at hloop
      simp only [a_48, fnC, de0, de1, de2, szQ, szB, szL, sy0, sy1, sy2, sy3, sy4, sy5, zad, zaa, zac, zae, adel, zah, zag, zai, zaf, evalV, aget, aset, adel1, nth, AOp.kind, Nat.reduceAdd, Nat.reduceSub, Nat.reduceMul, Nat.reduceBEq, Nat.ble, bindO, Nat.reduceLeDiff, Int.reduceBEq, Int.reduceBNe, Int.reduceLE, Int.reduceLT, Int.reduceGE, Int.reduceGT, Int.reduceNeg, ks, lz, h3, hloop]
theorem zt4 (m : Nat) (σ : Store) : T (m + 1) n_95 [.nils, fnC] σ = some (.ret ⟨false, .nils⟩, σ) := by
  rw [T_fun (af := a_48) rfl rfl]
  simp only [a_48, fnC, de0, de1, de2, szQ, szB, szL, sy0, sy1, sy2, sy3, sy4, sy5, zad, zaa, zac, zae, adel, zah, zag, zai, zaf, evalV, aget, aset, adel1, nth, AOp.kind, Nat.reduceAdd, Nat.reduceSub, Nat.reduceMul, Nat.reduceBEq, Nat.ble, bindO, Nat.reduceLeDiff, Int.reduceBEq, Int.reduceBNe, Int.reduceLE, Int.reduceLT, Int.reduceGE, Int.reduceGT, Int.reduceNeg, ks, lz]
def srtP (l : List Pr) : List Pr := cpt (srt l).reverse
def PrIn (σ : Store) (lo : Nat) (r : D) (l : List Pr) : Prop := (l = [] ∧ r = .nils) ∨ ∃ id, r = .arr k_1 id 0 l.length ∧ aget σ.objs id = some (cellsOf (l.map dP)) ∧ lo ≤ id ∧ id < σ.next ∧ l ≠ []
theorem zsr {P : Nat → Pr → Pr → Prop} (l : List Pr) (h : ∀ p ∈ l, ∀ q ∈ l, Evly fun n => P n p q) : Evly fun n => ∀ p ∈ l, ∀ q ∈ l, P n p q := by
  have h1 : Evly fun n => ∀ i, i < l.length → ∀ hi : i < l.length, ∀ j, j < l.length → ∀ hj : j < l.length, P n l[i] l[j] :=
    Evly.below _ fun i hi => (Evly.below (p := fun j n => ∀ hj : j < l.length, P n l[i] l[j]) _ fun j hj => (h l[i] (List.getElem_mem hi) l[j] (List.getElem_mem hj)).mono fun n h _ => h).mono fun n h _ j hj => h j hj
  refine h1.mono fun n h p hp q hq => ?_
  obtain ⟨i, hi, rfl⟩ := List.getElem_of_mem hp
  obtain ⟨j, hj, rfl⟩ := List.getElem_of_mem hq
  exact h i hi hi j hj hj
theorem zbob (l : List Pr) (hl : l.length < 20) (hok : ∀ p ∈ l, okP p) : Evly fun n => ∀ σ lo r, WF σ → PrIn σ lo r l → ∃ σ', T n n_168 [r, .fn (.func n_15) [] []] σ = some (.ret ⟨false, .tup []⟩, σ') ∧ ((l = [] ∧ σ' = σ) ∨ ∃ id, r = .arr k_1 id 0 l.length ∧ lo ≤ id ∧ id < σ.next ∧ SortR id l σ σ') := by
  obtain ⟨N, hN⟩ := zsr (P := fun n p q => CmpC (T n) p q) l fun p hp q hq => (zov p q (hok p hp) (hok q hq)).mono fun n h σ => h σ
  refine ⟨N + l.length + 20, fun n hn σ lo r hw hr => ?_⟩
  obtain ⟨m, rfl⟩ : ∃ m, n = m + 5 := ⟨n - 5, by omega⟩
  rcases hr with ⟨rfl, rfl⟩ | ⟨id, rfl, ha, hlo, hid, hne⟩
  · refine ⟨σ, ?_, .inl ⟨rfl, rfl⟩⟩
    have h1 := zz3 (m + 1) (.fn (.func n_15) [] []) σ
    have h2 := zom m .nils 0 (by omega) _ σ σ (by simpa using h1)
    exact zww (m + 4) .nils 0 _ rfl σ σ rfl h2
  · obtain ⟨σ', h1, hR⟩ := zz4 (m + 2) l (by omega) hne (by omega) id σ hw hid ha (fun p hp q hq => hN (m + 2) (by omega) p hp q hq)
    refine ⟨σ', ?_, .inr ⟨id, rfl, hlo, hid, hR⟩⟩
    exact zww (m + 4) _ l.length _ rfl σ σ' rfl (zom m _ l.length hl _ σ σ' h1)
end Go.Fu
namespace Go.Fu
open Go Go.Mx
set_option maxRecDepth 10000
def ltr (n : Nat) : List UInt8 := [UInt8.ofNat (97 + n)]
theorem zfqb : ∀ n, n < 26 → (Utf8.encode (IntKind.i32.wrap ((97 + n : Nat) : Int))).data.toList = [UInt8.ofNat (97 + n)] := by decide +kernel
theorem zxx (n : Nat) (hn : n < 26) : Evly fun m => ∀ σ, T m n_108 [.int .i64 (n : Int)] σ = some (.ret ⟨false, .str (ltr n)⟩, σ) := any _ fun m σ => by
  have h1 : ((n : Int)).tmod 26 = (n : Int) := by
    rw [Int.tmod_eq_emod_of_nonneg (by omega)]
    omega
  have h2 : IntKind.i64.wrap (97 + (n : Int)) = ((97 + n : Nat) : Int) := by rw [zbc (by omega) (by omega)]; omega
  have h3 : ((n : Int) < 26) := by omega
  rw [T_fun (af := a_118) rfl rfl]
  simp only [a_118, de0, de1, de2, szQ, szB, szL, sy0, sy1, sy2, sy3, sy4, sy5, zad, zaa, zac, zae, adel, zah, zag, zai, zaf, evalV, aget, aset, adel1, nth, AOp.kind, Nat.reduceAdd, Nat.reduceSub, Nat.reduceMul, Nat.reduceBEq, Nat.ble, bindO, Nat.reduceLeDiff, Int.reduceBEq, Int.reduceBNe, Int.reduceLE, Int.reduceLT, Int.reduceGE, Int.reduceGT, Int.reduceNeg, ks, lz, h1, h2, h3, ltr, zfqb n hn]
structure Nx (tl : List (List UInt8)) (k k' : Nat) : Prop where
  le : k ≤ k'
  taken : ∀ i, k ≤ i → i < k' → tl.contains (ltr i) = true
  free : tl.contains (ltr k') = false
theorem zhrb (tl : List (List UInt8)) (s : List UInt8) (hl : tl.length < 1048576) : Evly fun n => ∀ σ tk, ListD tl tk → T n n_10 [tk, .str s] σ = some (.ret ⟨false, .bool (tl.contains s)⟩, σ) := by
  have h0 : Evly fun n => ∀ σ, T n n_10 [.list k_0 [], .str s] σ = some (.ret ⟨false, .bool false⟩, σ) := ⟨4, fun n hn σ => by
    obtain ⟨m, rfl⟩ : ∃ m, n = m + 4 := ⟨n - 4, by omega⟩
    have hi : T (m + 3) n_64 [.list k_0 [], .str s] σ = some (.ret ⟨false, .int .i64 (-1)⟩, σ) := by
      have hl : loopN (exec (T (m + 2)) (m + 2) a_12) (m + 2) { slots := [(0, ⟨false, .list k_0 []⟩), (1, ⟨false, .str s⟩), (7, ⟨false, .int .i64 0⟩), (8, ⟨false, .int .i64 0⟩)], locs := [], boxes := [], defers := [] } σ = some (.exit 0, { slots := [(0, ⟨false, .list k_0 []⟩), (1, ⟨false, .str s⟩), (7, ⟨false, .int .i64 0⟩), (8, ⟨false, .int .i64 0⟩), (9, ⟨false, .bool false⟩)], locs := [], boxes := [], defers := [] }, σ) := za7 (by
        simp only [a_12, de0, de1, de2, szQ, szB, szL, sy0, sy1, sy2, sy3, sy4, sy5, zad, zaa, zac, zae, adel, zah, zag, zai, zaf, evalV, aget, aset, adel1, nth, AOp.kind, Nat.reduceAdd, Nat.reduceSub, Nat.reduceMul, Nat.reduceBEq, Nat.ble, bindO, Nat.reduceLeDiff, Int.reduceBEq, Int.reduceBNe, Int.reduceLE, Int.reduceLT, Int.reduceGE, Int.reduceGT, Int.reduceNeg, ks, lz])
      rw [T_fun (af := a_23) rfl rfl]
      simp only [a_23, de0, de1, de2, szQ, szB, szL, sy0, sy1, sy2, sy3, sy4, sy5, zad, zaa, zac, zae, adel, zah, zag, zai, zaf, evalV, aget, aset, adel1, nth, AOp.kind, Nat.reduceAdd, Nat.reduceSub, Nat.reduceMul, Nat.reduceBEq, Nat.ble, bindO, Nat.reduceLeDiff, Int.reduceBEq, Int.reduceBNe, Int.reduceLE, Int.reduceLT, Int.reduceGE, Int.reduceGT, Int.reduceNeg, ks, lz, hl]
    rw [T_fun (af := a_57) rfl rfl]
    simp only [a_57, de0, de1, de2, szQ, szB, szL, sy0, sy1, sy2, sy3, sy4, sy5, zad, zaa, zac, zae, adel, zah, zag, zai, zaf, evalV, aget, aset, adel1, nth, AOp.kind, Nat.reduceAdd, Nat.reduceSub, Nat.reduceMul, Nat.reduceBEq, Nat.ble, bindO, Nat.reduceLeDiff, Int.reduceBEq, Int.reduceBNe, Int.reduceLE, Int.reduceLT, Int.reduceGE, Int.reduceGT, Int.reduceNeg, ks, lz, hi]⟩
  refine ((zly tl s hl).and h0).mono fun n h σ tk hk => ?_
  rcases hk with rfl | ⟨rfl, rfl⟩
  · exact h.1 σ
  · exact h.2 σ
section
variable {C : CallF} {n : Nat}
def ENx (cap : Nat) : Env := { slots := [(0, ⟨false, .ptr cap 0⟩)], locs := [], boxes := [], defers := [] }
def ENy (cap : Nat) (s : List UInt8) : Env := { slots := [(0, ⟨false, .ptr cap 0⟩), (2, ⟨false, .str s⟩), (21, ⟨false, .bool false⟩)], locs := [], boxes := [], defers := [] }
def IsN (cap : Nat) (e : Env) : Prop := e = ENx cap ∨ ∃ s, e = ENy cap s
theorem zdhb (e : Env) (cap lid : Nat) (vs ns : List (List UInt8)) (tk : D) (k : Nat) (σ : Store) (he : IsN cap e) (hne : cap ≠ lid) (hk : k < 26) (h1 : aget σ.objs cap = some [⟨false, .ptr lid 0⟩]) (h2 : aget σ.objs lid = some (leO vs tk ns k))
    (hl : ∀ σ, C n_108 [.int .i64 (k : Int)] σ = some (.ret ⟨false, .str (ltr k)⟩, σ)) (hc : ∀ σ, C n_10 [tk, .str (ltr k)] σ = some (.ret ⟨false, .bool true⟩, σ)) :
    exec C n a_46 e σ = some (.normal, ENy cap (ltr k), setO σ lid (leO vs tk ns (k + 1 : Nat))) := by
  have w1 := zam (i := k) (by omega)
  have h3 : aget (aset σ.objs lid (leO vs tk ns (k + 1 : Nat))) cap = some [⟨false, .ptr lid 0⟩] := by rw [zao, if_neg hne]; exact h1
  simp only [leO] at h2 h3
  rcases he with rfl | ⟨s, rfl⟩
  · simp only [a_46, ENx, ENy, de0, de1, de2, szQ, szB, szL, sy0, sy1, sy2, sy3, sy4, sy5, zad, zaa, zac, zae, adel, zah, zag, zai, zaf, evalV, aget, aset, adel1, nth, AOp.kind, Nat.reduceAdd, Nat.reduceSub, Nat.reduceMul, Nat.reduceBEq, Nat.ble, bindO, Nat.reduceLeDiff, Int.reduceBEq, Int.reduceBNe, Int.reduceLE, Int.reduceLT, Int.reduceGE, Int.reduceGT, Int.reduceNeg, ks, lz, memE, memOp, h1, h2, h3, hl, hc, w1, setO, leO, zce]
  · simp only [a_46, ENx, ENy, de0, de1, de2, szQ, szB, szL, sy0, sy1, sy2, sy3, sy4, sy5, zad, zaa, zac, zae, adel, zah, zag, zai, zaf, evalV, aget, aset, adel1, nth, AOp.kind, Nat.reduceAdd, Nat.reduceSub, Nat.reduceMul, Nat.reduceBEq, Nat.ble, bindO, Nat.reduceLeDiff, Int.reduceBEq, Int.reduceBNe, Int.reduceLE, Int.reduceLT, Int.reduceGE, Int.reduceGT, Int.reduceNeg, ks, lz, memE, memOp, h1, h2, h3, hl, hc, w1, setO, leO, zce]
theorem zdib (e : Env) (cap lid : Nat) (vs ns : List (List UInt8)) (tk : D) (k : Nat) (σ : Store) (he : IsN cap e) (hne : cap ≠ lid) (hk : k < 26) (h1 : aget σ.objs cap = some [⟨false, .ptr lid 0⟩]) (h2 : aget σ.objs lid = some (leO vs tk ns k))
    (hl : ∀ σ, C n_108 [.int .i64 (k : Int)] σ = some (.ret ⟨false, .str (ltr k)⟩, σ)) (hc : ∀ σ, C n_10 [tk, .str (ltr k)] σ = some (.ret ⟨false, .bool false⟩, σ)) :
    exec C n a_46 e σ = some (.ret, { slots := [(1, ⟨false, .str (ltr k)⟩)], locs := [], boxes := [], defers := [] }, setO σ lid (leO vs tk ns (k + 1 : Nat))) := by
  have w1 := zam (i := k) (by omega)
  have h3 : aget (aset σ.objs lid (leO vs tk ns (k + 1 : Nat))) cap = some [⟨false, .ptr lid 0⟩] := by rw [zao, if_neg hne]; exact h1
  simp only [leO] at h2 h3
  rcases he with rfl | ⟨s, rfl⟩
  · simp only [a_46, ENx, ENy, de0, de1, de2, szQ, szB, szL, sy0, sy1, sy2, sy3, sy4, sy5, zad, zaa, zac, zae, adel, zah, zag, zai, zaf, evalV, aget, aset, adel1, nth, AOp.kind, Nat.reduceAdd, Nat.reduceSub, Nat.reduceMul, Nat.reduceBEq, Nat.ble, bindO, Nat.reduceLeDiff, Int.reduceBEq, Int.reduceBNe, Int.reduceLE, Int.reduceLT, Int.reduceGE, Int.reduceGT, Int.reduceNeg, ks, lz, memE, memOp, h1, h2, h3, hl, hc, w1, setO, leO, zce]
  · simp only [a_46, ENx, ENy, de0, de1, de2, szQ, szB, szL, sy0, sy1, sy2, sy3, sy4, sy5, zad, zaa, zac, zae, adel, zah, zag, zai, zaf, evalV, aget, aset, adel1, nth, AOp.kind, Nat.reduceAdd, Nat.reduceSub, Nat.reduceMul, Nat.reduceBEq, Nat.ble, bindO, Nat.reduceLeDiff, Int.reduceBEq, Int.reduceBNe, Int.reduceLE, Int.reduceLT, Int.reduceGE, Int.reduceGT, Int.reduceNeg, ks, lz, memE, memOp, h1, h2, h3, hl, hc, w1, setO, leO, zce]
end
theorem zegb (tl : List (List UInt8)) (htl : tl.length < 1048576) (k k' : Nat) (hN : Nx tl k k') (hk : k' < 26) : Evly fun n => ∀ σ cap lid vs ns tk, WF σ → ListD tl tk → cap ≠ lid → lid < σ.next → aget σ.objs cap = some [⟨false, .ptr lid 0⟩] → aget σ.objs lid = some (leO vs tk ns k) →
    ∃ σ', T n n_63 [.ptr cap 0] σ = some (.ret ⟨false, .str (ltr k')⟩, σ') ∧ ExtB lid σ σ' ∧ aget σ'.objs lid = some (leO vs tk ns (k' + 1 : Nat)) := by
  have hl : Evly fun n => ∀ i : Nat, i < 26 → ∀ σ, T n n_108 [.int .i64 (i : Int)] σ = some (.ret ⟨false, .str (ltr i)⟩, σ) := Evly.below _ fun i hi => zxx i hi
  have hc : Evly fun n => ∀ i : Nat, i < 26 → ∀ σ tk, ListD tl tk → T n n_10 [tk, .str (ltr i)] σ = some (.ret ⟨false, .bool (tl.contains (ltr i))⟩, σ) := Evly.below _ fun i _ => zhrb tl (ltr i) htl
  refine (hl.and hc).step 40 fun m hm h σ cap lid vs ns tk hw htk hne hlid h1 h2 => ?_
  obtain ⟨⟨x, e, σ3⟩, hloop, hx1, hx2, hx3, ho3⟩ := zbw (body := exec (T m) m a_46) (fun j e σ' => IsN cap e ∧ ExtB lid σ σ' ∧ aget σ'.objs cap = some [⟨false, .ptr lid 0⟩] ∧ aget σ'.objs lid = some (leO vs tk ns (k + j : Nat)))
    (fun x => x.1 = .ret ∧ x.2.1 = { slots := [(1, ⟨false, .str (ltr k')⟩)], locs := [], boxes := [], defers := [] } ∧ ExtB lid σ x.2.2 ∧ aget x.2.2.objs lid = some (leO vs tk ns (k' + 1 : Nat))) (k' - k)
    (fun j e σ' hj hp => by
      obtain ⟨he, hx, g1, g2⟩ := hp
      have ht := hN.taken (k + j) (by omega) (by omega)
      exact ⟨_, _, zdhb e cap lid vs ns tk (k + j) σ' he hne (by omega) g1 g2 (fun σ => h.1 (k + j) (by omega) σ) (fun σ => by have := h.2 (k + j) (by omega) σ tk htk; rw [ht] at this; exact this), .inr ⟨_, rfl⟩, hx.trans (zm3 hx.wf lid _ (Nat.lt_of_lt_of_le hlid hx.next)), by rw [zbv, if_neg hne]; exact g1, by rw [zbv, if_pos rfl]; rfl⟩)
    (fun e σ' hp => by
      obtain ⟨he, hx, g1, g2⟩ := hp
      have hle := hN.le
      rw [show k + (k' - k) = k' by omega] at g2
      exact ⟨_, zdib e cap lid vs ns tk k' σ' he hne hk g1 g2 (fun σ => h.1 k' hk σ) (fun σ => by have := h.2 k' hk σ tk htk; rw [hN.free] at this; exact this), fun _ _ h => (by cases h), rfl, rfl, hx.trans (zm3 hx.wf lid _ (Nat.lt_of_lt_of_le hlid hx.next)), by rw [zbv, if_pos rfl]⟩) 0 m (ENx cap) σ (by omega) (by omega) ⟨.inl rfl, (Ext.refl hw).toB lid, h1, h2⟩
  simp only at hx1 hx2 hx3 ho3
  subst hx1 hx2
  refine ⟨σ3, ?_, hx3, ho3⟩
  simp only [ENx] at hloop
  rw [T_fun (af := a_145) rfl rfl]
  simp only [a_145, de0, de1, de2, szQ, szB, szL, sy0, sy1, sy2, sy3, sy4, sy5, zad, zaa, zac, zae, adel, zah, zag, zai, zaf, evalV, aget, aset, adel1, nth, AOp.kind, Nat.reduceAdd, Nat.reduceSub, Nat.reduceMul, Nat.reduceBEq, Nat.ble, bindO, Nat.reduceLeDiff, Int.reduceBEq, Int.reduceBNe, Int.reduceLE, Int.reduceLT, Int.reduceGE, Int.reduceGT, Int.reduceNeg, ks, lz, hloop]
end Go.Fu
namespace Go.Fu
open Go Go.Mx
set_option maxRecDepth 10000
def nxF (tl : List (List UInt8)) : Nat → Nat → Nat
  | 0, k => k
  | f + 1, k => if tl.contains (ltr k) then nxF tl f (k + 1) else k
def nxt (tl : List (List UInt8)) (k : Nat) : Nat := nxF tl 30 k
def kk (tl : List (List UInt8)) : Nat → Nat
  | 0 => 0
  | i + 1 => nxt tl (kk tl i) + 1
def lets (tl : List (List UInt8)) : Nat → List (List UInt8)
  | 0 => []
  | i + 1 => lets tl i ++ [ltr (nxt tl (kk tl i))]
theorem zez (tl : List (List UInt8)) : ∀ i, (lets tl i).length = i
  | 0 => rfl
  | i + 1 => by simp [lets, zez tl i]
section
variable {C : CallF} {n : Nat}
def ELt (cap : Nat) (tl : List (List UInt8)) (k i : Nat) : Env := { slots := [(3, ⟨false, .fn (.func n_63) [] [.ptr cap 0]⟩), (4, ⟨ow i, dSs (lets tl i)⟩), (10, ⟨false, .int .i64 k⟩), (11, ⟨false, .int .i64 i⟩)], locs := [], boxes := [], defers := [] }
theorem zdeb (cap : Nat) (tl : List (List UInt8)) (k i : Nat) (σ σ' : Store) (hi : i < k) (hk : k < 100000) (hc : C n_63 [.ptr cap 0] σ = some (.ret ⟨false, .str (ltr (nxt tl (kk tl i)))⟩, σ')) :
    exec C n a_83 (ELt cap tl k i) σ = some (.normal, ELt cap tl k (i + 1), σ') := by
  have h1 : ((i : Int) < (k : Int)) := by omega
  have w1 := zam (i := i) (by omega)
  have hll := zez tl i
  have hap : zbe k_0 16 ⟨ow i, dSs (lets tl i)⟩ [.str (ltr (nxt tl (kk tl i)))] = some ⟨true, dSs (lets tl (i + 1))⟩ := by
    have := zfo (lets tl i) (ltr (nxt tl (kk tl i))) (ow i) (by
      intro h
      cases i with
      | zero => exact absurd rfl h
      | succ i => rfl) (by omega)
    exact this
  simp only [a_83, ELt, de0, de1, de2, szQ, szB, szL, sy0, sy1, sy2, sy3, sy4, sy5, zad, zaa, zac, zae, adel, zah, zag, zai, zaf, evalV, aget, aset, adel1, nth, AOp.kind, Nat.reduceAdd, Nat.reduceSub, Nat.reduceMul, Nat.reduceBEq, Nat.ble, bindO, Nat.reduceLeDiff, Int.reduceBEq, Int.reduceBNe, Int.reduceLE, Int.reduceLT, Int.reduceGE, Int.reduceGT, Int.reduceNeg, ks, lz, h1, hc, hap, w1, zcc]
theorem zf8b (cap : Nat) (tl : List (List UInt8)) (k : Nat) (σ : Store) : exec C n a_83 (ELt cap tl k k) σ = some (.exit 0, { ELt cap tl k k with slots := [(3, ⟨false, .fn (.func n_63) [] [.ptr cap 0]⟩), (4, ⟨ow k, dSs (lets tl k)⟩), (10, ⟨false, .int .i64 k⟩), (11, ⟨false, .int .i64 k⟩), (12, ⟨false, .bool false⟩)] }, σ) := by
  have hi : ¬ ((k : Int) < (k : Int)) := by omega
  simp only [a_83, ELt, de0, de1, de2, szQ, szB, szL, sy0, sy1, sy2, sy3, sy4, sy5, zad, zaa, zac, zae, adel, zah, zag, zai, zaf, evalV, aget, aset, adel1, nth, AOp.kind, Nat.reduceAdd, Nat.reduceSub, Nat.reduceMul, Nat.reduceBEq, Nat.ble, bindO, Nat.reduceLeDiff, Int.reduceBEq, Int.reduceBNe, Int.reduceLE, Int.reduceLT, Int.reduceGE, Int.reduceGT, Int.reduceNeg, ks, hi]
end
theorem zum (tl ns : List (List UInt8)) (htl : tl.length < 1048576) (hns : ns.length < 100000) (hN : ∀ i, i < ns.length → Nx tl (kk tl i) (nxt tl (kk tl i)) ∧ nxt tl (kk tl i) < 26) :
    Evly fun n => ∀ σ lid vs tk, WF σ → ListD tl tk → lid < σ.next → aget σ.objs lid = some (leO vs tk ns 0) → ∃ o σ', T n n_205 [.ptr lid 0] σ = some (.ret ⟨o, dSs (lets tl ns.length)⟩, σ') ∧ ExtB lid σ σ' ∧ aget σ'.objs lid = some (leO vs tk ns (kk tl ns.length : Nat)) := by
  have hc : Evly fun n => ∀ i, i < ns.length → ∀ σ cap lid vs ns' tk, WF σ → ListD tl tk → cap ≠ lid → lid < σ.next → aget σ.objs cap = some [⟨false, .ptr lid 0⟩] → aget σ.objs lid = some (leO vs tk ns' (kk tl i : Nat)) →
      ∃ σ', T n n_63 [.ptr cap 0] σ = some (.ret ⟨false, .str (ltr (nxt tl (kk tl i)))⟩, σ') ∧ ExtB lid σ σ' ∧ aget σ'.objs lid = some (leO vs tk ns' (nxt tl (kk tl i) + 1 : Nat)) :=
    Evly.below _ fun i hi => zegb tl htl _ _ (hN i hi).1 (hN i hi).2
  refine hc.step (ns.length + 4) fun m hm h σ lid vs tk hw htk hlid ho => ?_
  have hxb := zlw hw [⟨false, .ptr lid 0⟩] ⟨t_169, 0⟩
  have hne : σ.next ≠ lid := by omega
  have hob : aget ((σ.next, [⟨false, .ptr lid 0⟩]) :: σ.objs) lid = some (leO vs tk ns (kk tl 0 : Nat)) := (hxb.objs lid hlid).trans ho
  obtain ⟨⟨x, e, σ3⟩, hloop, hx1, hx2, hx3, ho3⟩ := zbw (body := exec (T m) m a_83) (fun i e σ' => e = ELt σ.next tl ns.length i ∧ ExtB lid { objs := (σ.next, [⟨false, .ptr lid 0⟩]) :: σ.objs, tys := (σ.next, ⟨t_169, 0⟩) :: σ.tys, oth := σ.oth, next := σ.next + 1 } σ' ∧ aget σ'.objs lid = some (leO vs tk ns (kk tl i : Nat)))
    (fun x => x.1 = .exit 0 ∧ x.2.1 = { ELt σ.next tl ns.length ns.length with slots := [(3, ⟨false, .fn (.func n_63) [] [.ptr σ.next 0]⟩), (4, ⟨ow ns.length, dSs (lets tl ns.length)⟩), (10, ⟨false, .int .i64 ns.length⟩), (11, ⟨false, .int .i64 ns.length⟩), (12, ⟨false, .bool false⟩)] } ∧ ExtB lid { objs := (σ.next, [⟨false, .ptr lid 0⟩]) :: σ.objs, tys := (σ.next, ⟨t_169, 0⟩) :: σ.tys, oth := σ.oth, next := σ.next + 1 } x.2.2 ∧ aget x.2.2.objs lid = some (leO vs tk ns (kk tl ns.length : Nat))) ns.length
    (fun i e σ' hi hp => by
      obtain ⟨rfl, hx, g⟩ := hp
      have hcap : aget σ'.objs σ.next = some [⟨false, .ptr lid 0⟩] := (hx.objs σ.next (by simp) hne).trans (by simp [aget, ifB])
      obtain ⟨σ'', h1, h2, h3⟩ := h i hi σ' σ.next lid vs ns tk hx.wf htk hne (Nat.lt_of_lt_of_le (show lid < σ.next + 1 by omega) hx.next) hcap g
      exact ⟨_, σ'', zdeb σ.next tl ns.length i σ' σ'' hi hns h1, rfl, hx.trans h2, h3⟩)
    (fun e σ' hp => by
      obtain ⟨rfl, hx, g⟩ := hp
      exact ⟨_, zf8b σ.next tl ns.length σ', fun _ _ h => (by cases h), rfl, rfl, hx, g⟩) 0 m (ELt σ.next tl ns.length 0) _ (by omega) (by omega) ⟨rfl, (Ext.refl hxb.wf).toB lid, hob⟩
  simp only at hx1 hx2 hx3 ho3
  subst hx1 hx2
  refine ⟨ow ns.length, σ3.trunc σ.next, ?_, znx hw ((hxb.toB lid).trans hx3), (zbq _ _ _ hlid).trans ho3⟩
  have hne2 : (σ.next == lid) = false := beq_false_of_ne hne
  have hz : dSs (lets tl 0) = .nils := rfl
  have hln : lenOf (dSs ns) = some ns.length := by simp only [dSs, zax, List.length_map]
  simp only [leO] at ho
  simp only [ELt, zeroI, zcp, hz] at hloop
  rw [T_fun (af := a_144) rfl rfl]
  simp only [a_144, de0, de1, de2, szQ, szB, szL, sy0, sy1, sy2, sy3, sy4, sy5, zad, zaa, zac, zae, adel, zah, zag, zai, zaf, evalV, aget, aset, adel1, nth, AOp.kind, Nat.reduceAdd, Nat.reduceSub, Nat.reduceMul, Nat.reduceBEq, Nat.ble, bindO, Nat.reduceLeDiff, Int.reduceBEq, Int.reduceBNe, Int.reduceLE, Int.reduceLT, Int.reduceGE, Int.reduceGT, Int.reduceNeg, ks, lz, memE, memOp, hne2, ho, hln, hloop]
end Go.Fu
