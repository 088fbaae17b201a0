/-
  Sizes, and whether something is too great: the program's.
-/
import Derived.Test.YtmhedpkbfaginaaGreatDoorFlWe
set_option maxHeartbeats 4000000
set_option linter.unusedSimpArgs false
set_option linter.unusedVariables false
set_option linter.unusedSectionVars false
namespace Go.Fu
open Go Go.Mx
set_option maxRecDepth 100000
set_option maxHeartbeats 1000000
def entQ (x : Int × D) (b : Nat) : D × D × Nat := (.int .i64 x.1, x.2, b)
def esQ : List (Int × D) → Nat → List (D × D × Nat)
  | [], _ => []
  | x :: r, b => entQ x b :: esQ r (b + 1)
theorem esQ_snoc : ∀ (l : List (Int × D)) (x : Int × D) (b : Nat), esQ (l ++ [x]) b = esQ l b ++ [entQ x (b + l.length)]
  | [], x, b => rfl
  | y :: r, x, b => by
    have h : b + 1 + r.length = b + (y :: r).length := by simp only [List.length_cons]; omega
    simp only [List.cons_append, esQ, esQ_snoc r x (b + 1), h]
def knoQ (k : Int) : List (Int × D) → Option D
  | [] => none
  | x :: r => if x.1 = k then some x.2 else knoQ k r
theorem knoQ_snoc (k : Int) (y : Int × D) : ∀ l : List (Int × D), knoQ k (l ++ [y]) = match knoQ k l with
    | some t => some t
    | none => if y.1 = k then some y.2 else none
  | [] => rfl
  | x :: r => by
    simp only [List.cons_append, knoQ, knoQ_snoc k y r]
    by_cases h : x.1 = k
    · simp only [if_pos h]
    · simp only [if_neg h]
theorem findQ_none {k : Int} : ∀ {l : List (Int × D)} (b : Nat), knoQ k l = none → findM (.int .i64 k) (esQ l b) = some none
  | [], _, _ => rfl
  | x :: r, b, h => by
    simp only [knoQ] at h
    by_cases hx : x.1 = k
    · rw [if_pos hx] at h
      cases h
    · rw [if_neg hx] at h
      have h1 : (k == x.1) = false := by
        cases e : k == x.1 with
        | false => rfl
        | true => exact absurd (eq_of_beq e).symm hx
      have hs : sameD (.int .i64 k) (.int .i64 x.1) = some (k == x.1) := rfl
      simp only [esQ, entQ, findM, hs, h1, bindO, caseO_some, ifB_false, findQ_none (b + 1) h]
      rfl
theorem findQ_some {k : Int} {t : D} : ∀ {l : List (Int × D)} (b : Nat), knoQ k l = some t → ∃ c j, findM (.int .i64 k) (esQ l b) = some (some (t, c, j)) ∧ (esQ l b).set j (.int .i64 k, t, c) = esQ l b
  | [], _, h => by cases h
  | x :: r, b, h => by
    have hs : sameD (.int .i64 k) (.int .i64 x.1) = some (k == x.1) := rfl
    simp only [knoQ] at h
    by_cases hx : x.1 = k
    · rw [if_pos hx] at h
      cases h
      have h1 : (k == x.1) = true := by rw [hx]; simp
      refine ⟨b, 0, by simp only [esQ, entQ, findM, hs, h1, bindO, caseO_some, ifB_true], ?_⟩
      rw [← hx]
      rfl
    · rw [if_neg hx] at h
      have h1 : (k == x.1) = false := by
        cases e : k == x.1 with
        | false => rfl
        | true => exact absurd (eq_of_beq e).symm hx
      obtain ⟨c, j, hr, hr2⟩ := findQ_some (b + 1) h
      refine ⟨c, j + 1, ?_, ?_⟩
      · simp only [esQ, entQ, findM, hs, h1, bindO, caseO_some, ifB_false, hr]
      · simp only [esQ, List.set_cons_succ, hr2]
def NVal (K : Kn) (N : List (Int × D)) : Prop := ∀ k e, knoQ k N = some e → ∃ v d, e = .int .i64 ((v : Nat) : Int) ∧ sizeF d K (tMeta k) = some v
theorem sumF_mono {q r : Ty → Option Nat} : ∀ {l : List Ty} {n v : Nat}, (∀ x ∈ l, ∀ v, q x = some v → r x = some v) → sumF q n l = some v → sumF r n l = some v
  | [], _, _, _, h => h
  | x :: l, n, v, hq, h => by
    simp only [sumF] at h ⊢
    cases h1 : q x with
    | none => rw [h1] at h; cases h
    | some w =>
      rw [h1] at h
      rw [hq x (by simp) w h1]
      exact sumF_mono (fun y hy => hq y (by simp [hy])) h
theorem sizeF_mono {K : Kn} : ∀ {d : Nat} {t : Ty} {v : Nat}, sizeF d K t = some v → sizeF (d + 1) K t = some v
  | 0, _, _, h => by cases h
  | d + 1, t, v, h => by
    rw [sizeF] at h ⊢
    cases hx : (if t.f = 1 then kno t.n K else none) with
    | some x =>
      rw [hx] at h
      exact sizeF_mono h
    | none =>
      rw [hx] at h
      exact sumF_mono (fun x _ v h => sizeF_mono h) h
theorem sizeF_meta {K : Kn} {d : Nat} {k : Int} {x : Ty} (h : kno k K = some x) : sizeF (d + 1) K (tMeta k) = sizeF d K x := by
  have e : (if (tMeta k).f = 1 then kno (tMeta k).n K else none) = some x := by
    rw [if_pos (show (tMeta k).f = 1 from rfl)]
    exact h
  rw [sizeF, e]
theorem sizeF_le {K : Kn} {d e : Nat} {t : Ty} {v : Nat} (h : sizeF d K t = some v) (hd : d ≤ e) : sizeF e K t = some v := by
  induction hd with
  | refl => exact h
  | step _ ih => exact sizeF_mono ih
theorem sizeF_det {K : Kn} {d e : Nat} {t : Ty} {v w : Nat} (h : sizeF d K t = some v) (h' : sizeF e K t = some w) : v = w := by
  have h1 := sizeF_le h (Nat.le_max_left d e)
  have h2 := sizeF_le h' (Nat.le_max_right d e)
  rw [h1] at h2
  exact Option.some.inj h2
theorem sumF_few {q : Ty → Option Nat} : ∀ {l : List Ty} {n v : Nat}, n ≤ 501 → sumF q n l = some v → v ≤ 501
  | [], _, _, hn, h => by
    cases h
    exact hn
  | x :: l, n, v, hn, h => by
    simp only [sumF] at h
    cases h1 : q x with
    | none => rw [h1] at h; cases h
    | some w =>
      rw [h1] at h
      exact sumF_few (Nat.min_le_right _ _) h
theorem sizeF_few {K : Kn} : ∀ {d : Nat} {t : Ty} {v : Nat}, sizeF d K t = some v → v ≤ 501
  | 0, _, _, h => by cases h
  | d + 1, t, v, h => by
    rw [sizeF] at h
    cases hx : (if t.f = 1 then kno t.n K else none) with
    | some x =>
      rw [hx] at h
      exact sizeF_few h
    | none =>
      rw [hx] at h
      refine sumF_few ?_ h
      by_cases h4 : t.f = 4
      · rw [if_pos h4]; omega
      · rw [if_neg h4]; omega
theorem adel_aset {α : Type} (k : Nat) (v : α) : ∀ l : List (Nat × α), adel1 (aset l k v) k = adel1 l k
  | [] => by simp [aset, adel1, ifB]
  | (a, x) :: r => by
    simp only [aset]
    cases e : a == k with
    | true => simp [adel1, ifB, e]
    | false =>
      cases hb : Nat.ble k a with
      | true => simp [adel1, ifB, e]
      | false => simp only [ifB_false, adel1, e, adel_aset k v r]
theorem adel_comm {α : Type} (a b : Nat) : ∀ l : List (Nat × α), adel1 (adel1 l a) b = adel1 (adel1 l b) a
  | [] => rfl
  | (k, x) :: r => by
    simp only [adel1]
    cases e1 : k == a with
    | true =>
      cases e2 : k == b with
      | true => simp only [ifB_true, adel_comm a b r]
      | false => simp only [ifB_true, ifB_false, adel1, e1, adel_comm a b r]
    | false =>
      cases e2 : k == b with
      | true => simp only [ifB_true, ifB_false, adel1, e2, adel_comm a b r]
      | false => simp only [ifB_false, adel1, e1, e2, adel_comm a b r]
theorem aget_adel {α : Type} (a j : Nat) (h : a ≠ j) : ∀ l : List (Nat × α), aget (adel1 l a) j = aget l j
  | [] => rfl
  | (k, x) :: r => by
    simp only [adel1]
    cases e1 : k == a with
    | true =>
      have e2 : (k == j) = false := by
        cases e : k == j with
        | false => rfl
        | true => exact absurd ((eq_of_beq e1).symm.trans (eq_of_beq e)) h
      simp only [ifB_true, aget, e2, ifB_false, aget_adel a j h r]
    | false =>
      simp only [ifB_false, aget, aget_adel a j h r]
structure NR (σ σ' : Store) (nm : Nat) : Prop where
  objs : σ'.objs = σ.objs
  tys : σ'.tys = σ.tys
  next : σ'.next = σ.next
  oth : adel1 σ'.oth nm = adel1 σ.oth nm
theorem NR.refl (σ : Store) (nm : Nat) : NR σ σ nm := ⟨rfl, rfl, rfl, rfl⟩
theorem NR.trans {a b c : Store} {nm : Nat} (h : NR a b nm) (k : NR b c nm) : NR a c nm := ⟨k.objs.trans h.objs, k.tys.trans h.tys, k.next.trans h.next, k.oth.trans h.oth⟩
theorem NR.SM (σ : Store) (nm : Nat) (x : Oth) : NR σ (SM σ nm x) nm := ⟨rfl, rfl, rfl, adel_aset _ _ _⟩
theorem NR.other {a b : Store} {nm : Nat} (h : NR a b nm) (j : Nat) (hj : nm ≠ j) : aget b.oth j = aget a.oth j := by
  rw [← aget_adel nm j hj b.oth, h.oth, aget_adel nm j hj]
theorem NR.sb {σ σ' : Store} {nm p m n c : Nat} {es : List (D × D × Nat)} (h : NR σ σ' nm) (hm : nm ≠ m) (hB : SB σ p m n es c) : SB σ' p m n es c :=
  ⟨by rw [h.objs]; exact hB.obj, (h.other m hm).trans hB.map, by rw [h.next]; exact hB.lt, by rw [h.next]; exact hB.ltm⟩
section
variable {C : CallF} {n : Nat} {σ : Store}
def Esz (p nm : Nat) (L : List Ty) (i : Nat) (v : Nat) : Env := { slots := [(0, ⟨false, .ptr p 0⟩), (2, ⟨false, .map nm⟩), (11, ⟨false, .int .i64 v⟩), (54, ⟨false, dTl L⟩), (55, ⟨false, .int .i64 L.length⟩), (56, ⟨false, .int .i64 i⟩)], locs := [], boxes := [], defers := [] }
theorem sz_step (p nm : Nat) (L : List Ty) (i : Nat) (hi : i < L.length) (hl : L.length < 1000000) (v w : Nat) (hv : v ≤ 501) (hw : w ≤ 501) {σ' : Store} (h1 : C n_63 [.ptr p 0, dTy L[i], .map nm] σ = some (.ret ⟨false, .int .i64 w⟩, σ')) : exec C n none a_83 (Esz p nm L i v) σ = some (.normal, Esz p nm L (i + 1) (min (v + w) 501), σ') := by
  have hlt : ((i : Int) < L.length) := by omega
  have w1 := wrap64_succ (i := i) (by omega)
  have hx := idx_T L i hi
  have w2 : IntKind.i64.wrap ((v : Int) + (w : Int)) = ((v + w : Nat) : Int) := by
    rw [wrap64 (by omega) (by omega)]
    rfl
  have e : (ifB (decide ((501 : Int) < ((v + w : Nat) : Int))) (501 : Int) ((v + w : Nat) : Int)) = ((min (v + w) 501 : Nat) : Int) := by
    by_cases h : v + w ≤ 501
    · have : ¬ ((501 : Int) < ((v + w : Nat) : Int)) := by omega
      rw [decide_eq_false this, ifB_false, Nat.min_eq_left h]
    · have : ((501 : Int) < ((v + w : Nat) : Int)) := by omega
      rw [decide_eq_true this, ifB_true, Nat.min_eq_right (by omega)]
      rfl
  generalize L[i] = f at *
  simp only [dTy_eq, cTy_eq] at hx h1
  simp only [a_83, Esz, sA, Nat.reduceAdd, Nat.reduceSub, Nat.reduceMul, Nat.reduceBEq, Nat.reduceLeDiff, Int.reduceBEq, Int.reduceBNe, Int.reduceLE, Int.reduceLT, Int.reduceGE, Int.reduceGT, Int.reduceNeg, kn, onel, hlt, natI, hx, h1, w1, w2, e]
theorem sz_end (p nm : Nat) (L : List Ty) (v : Nat) : exec C n none a_83 (Esz p nm L L.length v) σ = some (.exit 0, { Esz p nm L L.length v with slots := [(0, ⟨false, .ptr p 0⟩), (2, ⟨false, .map nm⟩), (11, ⟨false, .int .i64 v⟩), (54, ⟨false, dTl L⟩), (55, ⟨false, .int .i64 L.length⟩), (56, ⟨false, .int .i64 L.length⟩), (57, ⟨false, .bool false⟩)] }, σ) := by
  have hlt : ¬ ((L.length : Int) < L.length) := by omega
  simp only [a_83, Esz, sA, Nat.reduceAdd, Nat.reduceSub, Nat.reduceMul, Nat.reduceBEq, Nat.reduceLeDiff, Int.reduceBEq, Int.reduceBNe, Int.reduceLE, Int.reduceLT, Int.reduceGE, Int.reduceGT, Int.reduceNeg, kn, onel, hlt]
end
def SzR (S : Specs) (K : Kn) (p nm : Nat) (t : Ty) (v B : Nat) (σ : Store) : Prop := ∃ σ' N', NR σ σ' nm ∧ aget σ'.oth nm = some (.map (esQ N' 0) N'.length) ∧ NVal K N' ∧ ∀ n, B ≤ n → T S n n_63 [.ptr p 0, dTy t, .map nm] σ = some (.ret ⟨false, .int .i64 (v : Nat)⟩, σ')
theorem sz_loop {S : Specs} {K : Kn} {p nm : Nat} {Q : Store → Prop} (L : List Ty) (hL : L.length < 1000000) (q : Ty → Option Nat) (hq : ∀ t v, q t = some v → v ≤ 501) (hQ : ∀ σ σ', NR σ σ' nm → Q σ → Q σ')
    (hC : ∀ i (hi : i < L.length) v, q L[i] = some v → ∃ B, ∀ σ N, Q σ → aget σ.oth nm = some (.map (esQ N 0) N.length) → NVal K N → SzR S K p nm L[i] v B σ) : ∀ (k i n0 v : Nat), i + k = L.length → n0 ≤ 501 → sumF q n0 (L.drop i) = some v → ∃ B, ∀ σ N, Q σ → aget σ.oth nm = some (.map (esQ N 0) N.length) → NVal K N → ∃ σ' N', NR σ σ' nm ∧ aget σ'.oth nm = some (.map (esQ N' 0) N'.length) ∧ NVal K N' ∧ ∀ n m, B ≤ n → B ≤ m → loopN (exec (T S n) n none a_83) m (Esz p nm L i n0) σ = some (.exit 0, { slots := [(0, ⟨false, .ptr p 0⟩), (2, ⟨false, .map nm⟩), (11, ⟨false, .int .i64 v⟩), (54, ⟨false, dTl L⟩), (55, ⟨false, .int .i64 L.length⟩), (56, ⟨false, .int .i64 L.length⟩), (57, ⟨false, .bool false⟩)], locs := [], boxes := [], defers := [] }, σ')
  | 0, i, n0, v, h, h0, ha => by
    have : i = L.length := by omega
    subst this
    rw [List.drop_length] at ha
    cases ha
    refine ⟨1, fun σ N hσ hN hV => ⟨σ, N, NR.refl σ nm, hN, hV, fun n m _ hm => ?_⟩⟩
    obtain ⟨m, rfl⟩ : ∃ k, m = k + 1 := ⟨m - 1, by omega⟩
    exact loopN_stop (sz_end p nm L _)
  | k + 1, i, n0, v, h, h0, ha => by
    have hi : i < L.length := by omega
    rw [List.drop_eq_getElem_cons hi] at ha
    simp only [sumF] at ha
    cases h1 : q L[i] with
    | none => rw [h1] at ha; cases ha
    | some w =>
      rw [h1] at ha
      simp only [Option.bind_some] at ha
      obtain ⟨B1, s1⟩ := hC i hi w h1
      obtain ⟨B2, s2⟩ := sz_loop L hL q hq hQ hC k (i + 1) (min (n0 + w) 501) v (by omega) (Nat.min_le_right _ _) (by simpa using ha)
      refine ⟨B1 + B2 + 1, fun σ N hσ hN hV => ?_⟩
      obtain ⟨σ1, N1, f1, m1, v1, r1⟩ := s1 σ N hσ hN hV
      obtain ⟨σ2, N2, f2, m2, v2, r2⟩ := s2 σ1 N1 (hQ _ _ f1 hσ) m1 v1
      refine ⟨σ2, N2, f1.trans f2, m2, v2, fun n m hn hm => ?_⟩
      obtain ⟨m, rfl⟩ : ∃ k, m = k + 1 := ⟨m - 1, by omega⟩
      rw [loopN_succ (sz_step p nm L i hi hL n0 w h0 (hq _ _ h1) (r1 n (by omega)))]
      exact r2 n m (by omega) (by omega)
theorem size_run {S : Specs} (hS : UnifyS S) {p m q c nm : Nat} {K : Kn} (hK : ∀ x ∈ K, Fine x.2) (hnm : nm ≠ m) : ∀ (d : Nat) (t : Ty) (v : Nat), Fine t → sizeF d K t = some v → ∃ B, ∀ σ N, SB σ p m q (esK K 0) c → aget σ.oth nm = some (.map (esQ N 0) N.length) → NVal K N → SzR S K p nm t v B σ
  | 0, _, _, _, h => by cases h
  | d + 1, t, v, ht, h => by
    have hS1 := hS.2.2.2.2.2.2.2.1
    have hkd : keyD false (.int .i64 t.n) = true := rfl
    have h0 := h
    rw [sizeF] at h
    cases hx : (if t.f = 1 then kno t.n K else none) with
    | some x =>
      rw [hx] at h
      simp only at h
      have h1 : t.f = 1 := by
        by_cases e : t.f = 1
        · exact e
        · rw [if_neg e] at hx; cases hx
      rw [if_pos h1] at hx
      have b1 : (t.f == 1) = true := by rw [h1]; rfl
      obtain ⟨c1, j1, hf1⟩ := find_some 0 hx
      simp only [dTy_eq, cTy_eq] at hf1
      obtain ⟨B1, s1⟩ := size_run hS hK hnm d x v (hK _ (kno_mem hx)) h
      refine ⟨B1 + 2, fun σ N hB hN hV => ?_⟩
      have ho := hB.obj
      have hma : mapOf σ.oth (.map m) = some (esK K 0) := by simp only [mapOf, hB.map, bindO, caseO_some]
      have hmn : mapOf σ.oth (.map nm) = some (esQ N 0) := by simp only [mapOf, hN, bindO, caseO_some]
      cases hn : knoQ t.n N with
      | some e =>
        obtain ⟨w, d', rfl, hw⟩ := hV _ _ hn
        have ev : v = w := by
          refine sizeF_det h0 (e := d') ?_
          cases d' with
          | zero => cases hw
          | succ d' =>
            rw [sizeF_meta hx] at hw
            have e : (if t.f = 1 then kno t.n K else none) = some x := by rw [if_pos h1, hx]
            rw [sizeF, e]
            exact hw
        subst ev
        obtain ⟨c2, j2, hf2, _⟩ := findQ_some 0 hn
        refine ⟨σ, N, NR.refl _ _, hN, hV, fun n hn => ?_⟩
        obtain ⟨n, rfl⟩ : ∃ k, n = k + 1 := ⟨n - 1, by omega⟩
        rw [T_fun (af := a_13) hS1 rfl rfl]
        simp only [a_13, sA, Nat.reduceAdd, Nat.reduceSub, Nat.reduceMul, Nat.reduceBEq, Nat.reduceLeDiff, Int.reduceBEq, Int.reduceBNe, Int.reduceLE, Int.reduceLT, Int.reduceGE, Int.reduceGT, Int.reduceNeg, kn, onel, dTy_eq, cTy_eq, ho, hma, hmn, hkd, hf1, hf2, b1]
      | none =>
        have hf2 := findQ_none 0 hn
        obtain ⟨σ1, N1, f1, m1, v1, r1⟩ := s1 σ N hB hN hV
        have hv := sizeF_few h
        have ma1 : mapAt σ1.oth (.map nm) = some (nm, esQ N1 0, N1.length) := by simp only [mapAt, m1, bindO, caseO_some]
        have szt : sizeF (d + 1) K (tMeta t.n) = some v := by
          rw [sizeF_meta hx]
          exact h
        cases hn1 : knoQ t.n N1 with
        | some e =>
          obtain ⟨w, d', rfl, hw⟩ := v1 _ _ hn1
          have ev : v = w := sizeF_det szt hw
          subst ev
          obtain ⟨c2, j2, hf3, hset⟩ := findQ_some 0 hn1
          have hmn2 : mapOf (SM σ1 nm (.map (esQ N1 0) N1.length)).oth (.map nm) = some (esQ N1 0) := by simp only [mapOf, SM_self, bindO, caseO_some]
          refine ⟨SM σ1 nm (.map (esQ N1 0) N1.length), N1, f1.trans (NR.SM _ _ _), SM_self, v1, fun n hn => ?_⟩
          obtain ⟨n, rfl⟩ : ∃ k, n = k + 1 := ⟨n - 1, by omega⟩
          have r1 := r1 n (by omega)
          rw [T_fun (af := a_13) hS1 rfl rfl]
          simp only [dTy_eq, cTy_eq] at r1
          simp only [a_13, sA, Nat.reduceAdd, Nat.reduceSub, Nat.reduceMul, Nat.reduceBEq, Nat.reduceLeDiff, Int.reduceBEq, Int.reduceBNe, Int.reduceLE, Int.reduceLT, Int.reduceGE, Int.reduceGT, Int.reduceNeg, kn, onel, dTy_eq, cTy_eq, ho, hma, hmn, hkd, hf1, hf2, b1, r1, memE, mUpd, ma1, hf3, hset, hmn2]
        | none =>
          have hf3 := findQ_none 0 hn1
          have esn : esQ N1 0 ++ [((D.int .i64 t.n), (D.int .i64 (v : Int)), N1.length)] = esQ (N1 ++ [(t.n, .int .i64 (v : Int))]) 0 := by
            rw [esQ_snoc, Nat.zero_add]
            rfl
          have eln : N1.length + 1 = (N1 ++ [(t.n, D.int .i64 (v : Int))]).length := by simp
          have hV2 : NVal K (N1 ++ [(t.n, .int .i64 (v : Int))]) := by
            intro k e hk
            rw [knoQ_snoc] at hk
            cases hk1 : knoQ k N1 with
            | some e' =>
              rw [hk1] at hk
              cases hk
              exact v1 _ _ hk1
            | none =>
              rw [hk1] at hk
              simp only at hk
              by_cases e0 : t.n = k
              · rw [if_pos e0] at hk
                cases hk
                subst e0
                exact ⟨v, d + 1, rfl, szt⟩
              · rw [if_neg e0] at hk
                cases hk
          have hkn : knoQ t.n (N1 ++ [(t.n, .int .i64 (v : Int))]) = some (.int .i64 (v : Int)) := by
            rw [knoQ_snoc, hn1]
            simp only [if_pos]
          obtain ⟨c4, j4, hf4, _⟩ := findQ_some 0 hkn
          generalize hNN : N1 ++ [(t.n, D.int .i64 (v : Int))] = N2 at *
          have hmn2 : mapOf (SM σ1 nm (.map (esQ N2 0) N2.length)).oth (.map nm) = some (esQ N2 0) := by simp only [mapOf, SM_self, bindO, caseO_some]
          refine ⟨SM σ1 nm (.map (esQ N2 0) N2.length), N2, f1.trans (NR.SM _ _ _), SM_self, hV2, fun n hn => ?_⟩
          obtain ⟨n, rfl⟩ : ∃ k, n = k + 1 := ⟨n - 1, by omega⟩
          have r1 := r1 n (by omega)
          rw [T_fun (af := a_13) hS1 rfl rfl]
          simp only [dTy_eq, cTy_eq] at r1
          simp only [a_13, sA, Nat.reduceAdd, Nat.reduceSub, Nat.reduceMul, Nat.reduceBEq, Nat.reduceLeDiff, Int.reduceBEq, Int.reduceBNe, Int.reduceLE, Int.reduceLT, Int.reduceGE, Int.reduceGT, Int.reduceNeg, kn, onel, dTy_eq, cTy_eq, ho, hma, hmn, hkd, hf1, hf2, b1, r1, memE, mUpd, ma1, hf3, esn, eln, hmn2, hf4]
    | none =>
      rw [hx] at h
      simp only at h
      have few := ht.few
      obtain ⟨B1, s1⟩ := sz_loop (S := S) (K := K) (p := p) (nm := nm) (Q := fun σ => SB σ p m q (esK K 0) c) t.as_ (by omega) (sizeF d K) (fun _ _ h => sizeF_few h) (fun σ σ' hr hq => hr.sb hnm hq) (fun i hi w hw => size_run hS hK hnm d t.as_[i] w (ht.sub _ (List.getElem_mem hi)) hw) t.as_.length 0 (if t.f = 4 then 0 else 1) v (by omega) (by by_cases e : t.f = 4 <;> simp [e]) (by simpa using h)
      refine ⟨B1 + 2, fun σ N hB hN hV => ?_⟩
      have ho := hB.obj
      have hma : mapOf σ.oth (.map m) = some (esK K 0) := by simp only [mapOf, hB.map, bindO, caseO_some]
      obtain ⟨σ1, N1, f1, m1, v1, r1⟩ := s1 σ N hB hN hV
      refine ⟨σ1, N1, f1, m1, v1, fun n hn => ?_⟩
      obtain ⟨n, rfl⟩ : ∃ k, n = k + 1 := ⟨n - 1, by omega⟩
      have r1 := r1 n n (by omega) (by omega)
      have hlen := len_T t.as_
      rw [T_fun (af := a_13) hS1 rfl rfl]
      simp only [Esz, zeroI] at r1
      cases hk : kno t.n K with
      | none =>
        have hf1 := find_none 0 hk
        by_cases h4 : t.f = 4
        · have b4 : (t.f == 4) = true := by rw [h4]; rfl
          rw [if_pos h4] at r1
          simp only [zeroI] at r1
          simp only [a_13, sA, Nat.reduceAdd, Nat.reduceSub, Nat.reduceMul, Nat.reduceBEq, Nat.reduceLeDiff, Int.reduceBEq, Int.reduceBNe, Int.reduceLE, Int.reduceLT, Int.reduceGE, Int.reduceGT, Int.reduceNeg, kn, onel, dTy_eq, cTy_eq, ho, hma, hkd, hf1, b4, hlen, r1]
        · have b4 : (t.f == 4) = false := beq_false_of_ne h4
          rw [if_neg h4] at r1
          simp only [oneI] at r1
          simp only [a_13, sA, Nat.reduceAdd, Nat.reduceSub, Nat.reduceMul, Nat.reduceBEq, Nat.reduceLeDiff, Int.reduceBEq, Int.reduceBNe, Int.reduceLE, Int.reduceLT, Int.reduceGE, Int.reduceGT, Int.reduceNeg, kn, onel, dTy_eq, cTy_eq, ho, hma, hkd, hf1, b4, hlen, r1]
      | some x =>
        have h1 : t.f ≠ 1 := by
          intro e
          rw [if_pos e, hk] at hx
          cases hx
        have b1 : (t.f == 1) = false := beq_false_of_ne h1
        obtain ⟨c1, j1, hf1⟩ := find_some 0 hk
        simp only [dTy_eq, cTy_eq] at hf1
        by_cases h4 : t.f = 4
        · have b4 : (t.f == 4) = true := by rw [h4]; rfl
          rw [if_pos h4] at r1
          simp only [zeroI] at r1
          simp only [a_13, sA, Nat.reduceAdd, Nat.reduceSub, Nat.reduceMul, Nat.reduceBEq, Nat.reduceLeDiff, Int.reduceBEq, Int.reduceBNe, Int.reduceLE, Int.reduceLT, Int.reduceGE, Int.reduceGT, Int.reduceNeg, kn, onel, dTy_eq, cTy_eq, ho, hma, hkd, hf1, b1, b4, hlen, r1]
        · have b4 : (t.f == 4) = false := beq_false_of_ne h4
          rw [if_neg h4] at r1
          simp only [oneI] at r1
          simp only [a_13, sA, Nat.reduceAdd, Nat.reduceSub, Nat.reduceMul, Nat.reduceBEq, Nat.reduceLeDiff, Int.reduceBEq, Int.reduceBNe, Int.reduceLE, Int.reduceLT, Int.reduceGE, Int.reduceGT, Int.reduceNeg, kn, onel, dTy_eq, cTy_eq, ho, hma, hkd, hf1, b1, b4, hlen, r1]
end Go.Fu
namespace Go.Fu
open Go Go.Mx
set_option maxRecDepth 100000
set_option maxHeartbeats 1000000
theorem leftM_in {seen : List Nat} {x : D × D × Nat} : ∀ {es : List (D × D × Nat)}, x ∈ leftM seen es → x ∈ es ∧ mem seen x.2.2 = false
  | [], h => by cases h
  | y :: r, h => by
    simp only [leftM] at h
    cases e : mem seen y.2.2 with
    | true =>
      rw [e, ifB_true] at h
      exact ⟨List.mem_cons_of_mem _ (leftM_in h).1, (leftM_in h).2⟩
    | false =>
      rw [e, ifB_false] at h
      rcases List.mem_cons.1 h with rfl | h
      · exact ⟨List.mem_cons_self, e⟩
      · exact ⟨List.mem_cons_of_mem _ (leftM_in h).1, (leftM_in h).2⟩
theorem leftM_le (b : Nat) (seen : List Nat) : ∀ es : List (D × D × Nat), (leftM (b :: seen) es).length ≤ (leftM seen es).length
  | [] => Nat.le_refl _
  | y :: r => by
    have ih := leftM_le b seen r
    simp only [leftM, mem]
    cases e : b == y.2.2 with
    | true =>
      rw [ifB_true, ifB_true]
      cases mem seen y.2.2 with
      | true => exact ih
      | false =>
        rw [ifB_false]
        exact Nat.le_trans ih (Nat.le_succ _)
    | false =>
      rw [ifB_false]
      cases mem seen y.2.2 with
      | true => exact ih
      | false =>
        simp only [ifB_false, List.length_cons]
        omega
theorem leftM_lt {seen : List Nat} {x : D × D × Nat} : ∀ {es : List (D × D × Nat)}, x ∈ leftM seen es → (leftM (x.2.2 :: seen) es).length < (leftM seen es).length
  | [], h => by cases h
  | y :: r, h => by
    simp only [leftM] at h
    have hle := leftM_le x.2.2 seen r
    simp only [leftM, mem]
    cases e : mem seen y.2.2 with
    | true =>
      rw [e, ifB_true] at h
      have ih := leftM_lt h
      cases x.2.2 == y.2.2 with
      | true => simpa [ifB] using ih
      | false => simpa [ifB] using ih
    | false =>
      rw [e, ifB_false] at h
      rcases List.mem_cons.1 h with rfl | h
      · simp only [beq_self_eq_true, ifB_true, ifB_false, List.length_cons]
        omega
      · have ih := leftM_lt h
        cases x.2.2 == y.2.2 with
        | true =>
          simp only [ifB_true, ifB_false, List.length_cons]
          omega
        | false =>
          simp only [ifB_false, List.length_cons]
          omega
theorem rangeN_all {B : Env → Store → Option (AExit × Env × Store)} {it nx more out : Nat} {drop clr : List Nat} {R : AExit × Env × Store} (es : List (D × D × Nat)) (Inv : List Nat → Env → Store → Prop)
    (h1 : ∀ seen e σ, Inv seen e σ → ∃ p q, addr e (.tmp it) = some p ∧ mitOf σ.oth p = some q ∧ q.seen = seen ∧ q.es = es ∧ oldM q.since q.es = true ∧ Nat.ble q.since q.stepped = true ∧ ∀ x ∈ leftM seen es, ∃ e' σ', B (setM1 e nx more [.bool true, x.1, x.2.1] true) (stepM q x.2.2 σ) = some (.normal, e', σ') ∧ Inv (x.2.2 :: seen) e' σ')
    (h2 : ∀ seen e σ, Inv seen e σ → finM drop clr .normal (setM1 e nx more [.bool false] false) σ = R) :
    ∀ (n : Nat) (seen : List Nat) (e : Env) (σ : Store), Inv seen e σ → (leftM seen es).length < n → rangeN B it nx more out drop clr n e σ = some R
  | 0, _, _, _, _, h => absurd h (by omega)
  | n + 1, seen, e, σ, hI, hn => by
    obtain ⟨p, q, g1, g2, g3, g4, g5, g6, g7⟩ := h1 seen e σ hI
    have key : ∀ x ∈ leftM seen es, goM out drop clr (rangeN B it nx more out drop clr n) (B (setM1 e nx more [.bool true, x.1, x.2.1] true) (stepM q x.2.2 σ)) = some R := by
      intro x hx
      obtain ⟨e', σ', r1, r2⟩ := g7 x hx
      rw [r1]
      exact rangeN_all es Inv h1 h2 n _ e' σ' r2 (by have := leftM_lt hx; omega)
    have h3 := h2 seen e σ hI
    rw [g4] at g5
    rw [rangeN]
    simp only [g1, g2, bindO, caseO_some, g5, g6, Bool.and_self, ifB_true, g3, g4]
    cases hl : leftM seen es with
    | nil => simp only [h3]
    | cons x r =>
      rw [hl] at key
      have k1 := key x (by simp)
      have k2 : allR (fun y => goM out drop clr (rangeN B it nx more out drop clr n) (B (setM1 e nx more [.bool true, y.1, y.2.1] true) (stepM q y.2.2 σ))) R r = true := allR_of fun y hy => key y (by simp [hy])
      simp only [k1, k2, bindO, caseO_some, ifB_true]
theorem esK_old : ∀ (K : Kn) (b s : Nat), b + K.length ≤ s → oldM s (esK K b) = true
  | [], _, _, _ => rfl
  | x :: r, b, s, h => by
    have h1 : Nat.ble (b + 1) s = true := by rw [Nat.ble_eq]; simp only [List.length_cons] at h; omega
    simp only [esK, entK, oldM, h1, Bool.true_and]
    exact esK_old r (b + 1) s (by simp only [List.length_cons] at h; omega)
theorem esK_ent : ∀ (K : Kn) (b : Nat) (x : D × D × Nat), x ∈ esK K b → b ≤ x.2.2 ∧ ∃ y ∈ K, x.1 = .int .i64 y.1 ∧ x.2.1 = dTy y.2 ∧ entAt x.2.2 (esK K b) = some (x.1, x.2.1)
  | y :: r, b, x, h => by
    simp only [esK] at h
    rcases List.mem_cons.1 h with rfl | h
    · refine ⟨Nat.le_refl _, y, List.mem_cons_self, rfl, rfl, ?_⟩
      simp only [esK, entK, entAt, beq_self_eq_true, ifB_true]
    · obtain ⟨h1, z, h2, h3, h4, h5⟩ := esK_ent r (b + 1) x h
      refine ⟨by omega, z, List.mem_cons_of_mem _ h2, h3, h4, ?_⟩
      have : (b == x.2.2) = false := by
        cases e : b == x.2.2 with
        | false => rfl
        | true =>
          have := eq_of_beq e
          omega
      simp only [esK, entK, entAt, this, ifB_false, h5]
theorem leftM_all : ∀ (es : List (D × D × Nat)), leftM [] es = es
  | [] => rfl
  | x :: r => by simp only [leftM, mem, ifB_false, leftM_all r]
theorem esK_len : ∀ (K : Kn) (b : Nat), (esK K b).length = K.length
  | [], _ => rfl
  | x :: r, b => by simp only [esK, List.length_cons, esK_len r (b + 1)]
def Egr (p nm it : Nat) (o : Option D) : Env := { slots := match o with
  | none => [(0, ⟨false, .ptr p 0⟩), (3, ⟨false, .map nm⟩), (10, ⟨false, .ptr it 0⟩)]
  | some t => [(0, ⟨false, .ptr p 0⟩), (3, ⟨false, .map nm⟩), (10, ⟨false, .ptr it 0⟩), (11, ⟨false, t⟩), (20, ⟨false, .bool false⟩)], locs := [], boxes := [], defers := [] }
section
variable {C : CallF} {n : Nat} {σ : Store}
theorem gr_step (p m nm it : Nat) (o : Option D) (k : Int) (t : D) (b : Nat) (v : Nat) (hv : v ≤ 500) (since : Nat) (seen : List Nat) (cl : Nat) (es : List (D × D × Nat)) (hit : mitOf σ.oth (.ptr it 0) = some ⟨it, m, since, b :: seen, cl, es, cl⟩) (hen : entAt b es = some (.int .i64 k, t)) (h0 : C n_27 [.int .i64 k] σ = some (.ret ⟨false, dTy (tMeta k)⟩, σ)) {σ' : Store} (h1 : C n_63 [.ptr p 0, dTy (tMeta k), .map nm] σ = some (.ret ⟨false, .int .i64 (v : Nat)⟩, σ')) : exec C n none a_82 (setM1 (Egr p nm it o) 11 12 [.bool true, .int .i64 k, t] true) σ = some (.normal, Egr p nm it (some (.tup [.bool true, .int .i64 k, t])), σ') := by
  have hg : ¬ ((v : Int) > 500) := by omega
  generalize tMeta k = u at *
  simp only [dTy_eq, cTy_eq] at h0 h1
  cases o with
  | none => simp only [a_82, Egr, setM1, sA, Nat.reduceAdd, Nat.reduceSub, Nat.reduceMul, Nat.reduceBEq, Nat.reduceLeDiff, Int.reduceBEq, Int.reduceBNe, Int.reduceLE, Int.reduceLT, Int.reduceGE, Int.reduceGT, Int.reduceNeg, kn, onel, hit, hen, h0, h1, hg, beq_self_eq_true]
  | some d => simp only [a_82, Egr, setM1, sA, Nat.reduceAdd, Nat.reduceSub, Nat.reduceMul, Nat.reduceBEq, Nat.reduceLeDiff, Int.reduceBEq, Int.reduceBNe, Int.reduceLE, Int.reduceLT, Int.reduceGE, Int.reduceGT, Int.reduceNeg, kn, onel, hit, hen, h0, h1, hg, beq_self_eq_true]
end
theorem fine_meta (n : Int) : Fine (tMeta n) := .mk (by simp) (fun _ h => by cases h)
theorem all_bound {P : Int × Ty → Nat → Prop} (hm : ∀ x a b, a ≤ b → P x a → P x b) : ∀ (K : Kn), (∀ x ∈ K, ∃ B, P x B) → ∃ B, ∀ x ∈ K, P x B
  | [], _ => ⟨0, fun _ h => by cases h⟩
  | x :: r, h => by
    obtain ⟨B1, h1⟩ := h x (by simp)
    obtain ⟨B2, h2⟩ := all_bound hm r fun y hy => h y (by simp [hy])
    refine ⟨B1 + B2, fun y hy => ?_⟩
    rcases List.mem_cons.1 hy with rfl | hy
    · exact hm _ _ _ (by omega) h1
    · exact hm _ _ _ (by omega) (h2 y hy)
theorem fold_GM {σ : Store} {x : Oth} : ({ objs := σ.objs, tys := σ.tys, oth := (σ.next, x) :: σ.oth, next := σ.next + 1 } : Store) = GM σ x := rfl
structure GrI (τ : Store) (p m q nm it : Nat) (K : Kn) (seen : List Nat) (e : Env) (ρ : Store) : Prop where
  env : ∃ o, e = Egr p nm it o
  objs : ρ.objs = τ.objs
  tys : ρ.tys = τ.tys
  next : ρ.next = τ.next
  oth : adel1 (adel1 ρ.oth it) nm = adel1 (adel1 τ.oth it) nm
  it : aget ρ.oth it = some (.mit m K.length seen K.length)
  sb : SB ρ p m q (esK K 0) K.length
  nm : ∃ N, aget ρ.oth nm = some (.map (esQ N 0) N.length) ∧ NVal K N
theorem gr_round {S : Specs} (hMe : aget S n_27 = some sp_meta) {τ : Store} {p m q nm it B : Nat} {K : Kn} (hne : nm ≠ it) (hnm2 : nm ≠ m) (him : it ≠ m) (hB : ∀ x ∈ K, ∃ v, v ≤ 500 ∧ ∀ σ N, SB σ p m q (esK K 0) K.length → aget σ.oth nm = some (.map (esQ N 0) N.length) → NVal K N → SzR S K p nm (tMeta x.1) v B σ) (n : Nat) (hn : B + 2 ≤ n) (seen : List Nat) (e : Env) (ρ : Store) (h : GrI τ p m q nm it K seen e ρ) : ∃ p' q', addr e (.tmp 10) = some p' ∧ mitOf ρ.oth p' = some q' ∧ q'.seen = seen ∧ q'.es = esK K 0 ∧ oldM q'.since q'.es = true ∧ Nat.ble q'.since q'.stepped = true ∧ ∀ x ∈ leftM seen (esK K 0), ∃ e' σ', exec (T S n) n none a_82 (setM1 e 11 12 [.bool true, x.1, x.2.1] true) (stepM q' x.2.2 ρ) = some (.normal, e', σ') ∧ GrI τ p m q nm it K (x.2.2 :: seen) e' σ' := by
  obtain ⟨o, rfl⟩ := h.env
  refine ⟨.ptr it 0, ⟨it, m, K.length, seen, K.length, esK K 0, K.length⟩, ?_, ?_, rfl, rfl, esK_old K 0 _ (by show 0 + K.length ≤ K.length; omega), by rw [Nat.ble_eq]; exact Nat.le_refl _, fun x hx => ?_⟩
  · cases o <;> rfl
  · simp only [mitOf, h.it, h.sb.map, bindO, caseO_some]
  · obtain ⟨_, y, hy, e1, e2, e3⟩ := esK_ent K 0 x (leftM_in hx).1
    obtain ⟨N, hN, hV⟩ := h.nm
    obtain ⟨k, t, b⟩ := x
    simp only at e1 e2 e3
    subst e1
    subst e2
    obtain ⟨ρ1, hρ1⟩ : ∃ ρ1, ρ1 = stepM ⟨it, m, K.length, seen, K.length, esK K 0, K.length⟩ b ρ := ⟨_, rfl⟩
    have em : (it == m) = false := beq_false_of_ne him
    have en : (it == nm) = false := beq_false_of_ne (Ne.symm hne)
    have i1 : aget ρ1.oth it = some (.mit m K.length (b :: seen) K.length) := by
      rw [hρ1]
      exact agA _ _ _
    have sb1 : SB ρ1 p m q (esK K 0) K.length := by
      rw [hρ1]
      exact ⟨h.sb.obj, (agB _ _ _ em _).trans h.sb.map, h.sb.lt, h.sb.ltm⟩
    have n1 : aget ρ1.oth nm = some (.map (esQ N 0) N.length) := by
      rw [hρ1]
      exact (agB _ _ _ en _).trans hN
    have mi : mitOf ρ1.oth (.ptr it 0) = some ⟨it, m, K.length, b :: seen, K.length, esK K 0, K.length⟩ := by
      simp only [mitOf, i1, sb1.map, bindO, caseO_some]
    obtain ⟨v, hv, hs⟩ := hB y hy
    obtain ⟨σ', N', f1, m1, v1, r1⟩ := hs ρ1 N sb1 n1 hV
    obtain ⟨n, rfl⟩ : ∃ k, n = k + 1 := ⟨n - 1, by omega⟩
    refine ⟨Egr p nm it (some (.tup [.bool true, .int .i64 y.1, dTy y.2])), σ', ?_, ⟨⟨some (.tup [.bool true, .int .i64 y.1, dTy y.2]), rfl⟩, ?_, ?_, ?_, ?_, ?_, f1.sb hnm2 sb1, N', m1, v1⟩⟩
    · rw [← hρ1]
      exact gr_step p m nm it o y.1 _ b v hv K.length seen K.length (esK K 0) mi e3 (call_meta hMe _ _ _) (r1 _ (by omega))
    · rw [f1.objs, hρ1]
      exact h.objs
    · rw [f1.tys, hρ1]
      exact h.tys
    · rw [f1.next, hρ1]
      exact h.next
    · rw [adel_comm, f1.oth, adel_comm, hρ1]
      show adel1 (adel1 (aset ρ.oth it _) it) nm = _
      rw [adel_aset]
      exact h.oth
    · rw [f1.other it hne]
      exact i1
theorem great_run {S : Specs} (hS : UnifyS S) {p m q d : Nat} {K : Kn} (hK : ∀ x ∈ K, Fine x.2) (hF : FitK d K) (σ : Store) (hB : SB σ p m q (esK K 0) K.length) : ∃ σ', Fr σ σ' ∧ ∃ N, ∀ n, N ≤ n → T S n n_140 [.ptr p 0] σ = some (.ret ⟨false, .bool false⟩, σ') := by
  have hS2 := hS.2.2.2.2.2.2.2.2.1
  have hMe := hS.2.2.2.2.2.2.2.2.2.2.2.2.2.2.2.1
  obtain ⟨nm, hnm⟩ : ∃ nm, nm = σ.next := ⟨_, rfl⟩
  obtain ⟨it, hit⟩ : ∃ it, it = σ.next + 1 := ⟨_, rfl⟩
  have hne : nm ≠ it := by omega
  have hpm := hB.lt
  have hmm := hB.ltm
  have hnm2 : nm ≠ m := by omega
  have him : it ≠ m := by omega
  obtain ⟨τ0, hτ0⟩ : ∃ τ0, τ0 = GM σ (.map [] 0) := ⟨_, rfl⟩
  obtain ⟨τ, hτ⟩ : ∃ τ, τ = GM τ0 (.mit m K.length [] K.length) := ⟨_, rfl⟩
  obtain ⟨Z, hZ⟩ : ∃ Z : Store, Z = { objs := adel1 (adel1 τ.objs it) nm, tys := τ.tys, oth := adel1 (adel1 τ.oth it) nm, next := τ.next } := ⟨_, rfl⟩
  have f00 : Fr σ τ0 := by rw [hτ0]; exact fr_GM _ _
  have f0 : Fr σ τ := by rw [hτ]; exact f00.trans (fr_GM _ _)
  have hB0 := hB.fr f00
  have hB1 := hB.fr f0
  have hno : aget τ.oth nm = some (.map (esQ [] 0) ([] : List (Int × D)).length) := by
    rw [hτ, hτ0, hnm]
    exact (agC _ _ _ _ (by show σ.next + 1 ≠ σ.next; omega)).trans (agS _ _ _)
  have hio : aget τ.oth it = some (.mit m K.length [] K.length) := by
    rw [hτ, hτ0, hit]
    exact agS _ _ _
  have hn0 : τ0.next = it := by rw [hτ0, hit]; rfl
  have hn2 : τ.next = σ.next + 2 := by rw [hτ, hτ0]; rfl
  have key : ∃ N, ∀ n l, N ≤ n → K.length + 1 ≤ l → rangeN (exec (T S n) n none a_82) 10 11 12 0 [it, nm] [4, 10, 11, 12, 13, 14, 15, 16, 17, 18, 19, 20] l (Egr p nm it none) τ = some (.normal, { slots := [(0, ⟨false, .ptr p 0⟩), (3, ⟨false, .map nm⟩)], locs := [], boxes := [], defers := [] }, Z) := by
    obtain ⟨B, hBd⟩ := all_bound (P := fun x B => ∃ v, v ≤ 500 ∧ ∀ σ N, SB σ p m q (esK K 0) K.length → aget σ.oth nm = some (.map (esQ N 0) N.length) → NVal K N → SzR S K p nm (tMeta x.1) v B σ) (fun x a b hab ⟨v, hv, h⟩ => ⟨v, hv, fun σ N h1 h2 h3 => by
        obtain ⟨σ', N', g1, g2, g3, g4⟩ := h σ N h1 h2 h3
        exact ⟨σ', N', g1, g2, g3, fun n hn => g4 n (Nat.le_trans hab hn)⟩⟩) K (fun x hx => by
        obtain ⟨v, hs, hv⟩ := hF x hx
        obtain ⟨B, hB⟩ := size_run hS hK hnm2 (p := p) (q := q) (c := K.length) d (tMeta x.1) v (fine_meta _) hs
        exact ⟨B, v, hv, hB⟩)
    refine ⟨B + 2, fun n l hn hl => ?_⟩
    refine rangeN_all (esK K 0) (GrI τ p m q nm it K) (fun seen e ρ h => gr_round hMe hne hnm2 him hBd n hn seen e ρ h) (fun seen e ρ h => ?_) l [] (Egr p nm it none) τ ⟨⟨none, rfl⟩, rfl, rfl, rfl, rfl, hio, hB1, [], hno, fun _ _ h => by cases h⟩ (by rw [leftM_all, esK_len]; omega)
    obtain ⟨o, rfl⟩ := h.env
    have e1 : dropIds [it, nm] ρ = Z := by
      rw [hZ, ← h.objs, ← h.tys, ← h.next, ← h.oth]
      rfl
    rw [finM, e1]
    cases o <;> rfl
  obtain ⟨N, hN⟩ := key
  refine ⟨Z, ?_, N + K.length + 4, fun n hn => ?_⟩
  · refine ⟨?_, fun j hj => ?_, fun j hj => ?_, fun j hj => ?_⟩
    · rw [hZ]
      show σ.next ≤ τ.next
      omega
    · rw [hZ]
      show aget (adel1 (adel1 τ.objs it) nm) j = _
      rw [aget_adel nm j (by omega), aget_adel it j (by omega)]
      exact f0.objs j hj
    · rw [hZ]
      show aget (adel1 (adel1 τ.oth it) nm) j = _
      rw [aget_adel nm j (by omega), aget_adel it j (by omega)]
      exact f0.oth j hj
    · rw [hZ]
      exact f0.tys j hj
  · obtain ⟨n, rfl⟩ : ∃ k, n = k + 1 := ⟨n - 1, by omega⟩
    have hr := hN n n (by omega) (by omega)
    have ho := hB0.obj
    have hm := hB0.map
    rw [T_fun (af := a_133) hS2 rfl rfl]
    simp only [Egr] at hr
    have hid : ∀ (a b : Nat), idsAt { slots := [(0, ⟨false, .ptr p 0⟩), (3, ⟨false, .map a⟩), (10, ⟨false, .ptr b 0⟩)], locs := [], boxes := [], defers := [] } [10, 3] = [b, a] := fun _ _ => rfl
    have hτl : ({ objs := τ0.objs, tys := τ0.tys, oth := (it, .mit m K.length [] K.length) :: τ0.oth, next := it + 1 } : Store) = τ := by rw [hτ, GM, hn0]
    simp only [a_133, sA, Nat.reduceAdd, Nat.reduceSub, Nat.reduceMul, Nat.reduceBEq, Nat.reduceLeDiff, Int.reduceBEq, Int.reduceBNe, Int.reduceLE, Int.reduceLT, Int.reduceGE, Int.reduceGT, Int.reduceNeg, kn, onel, memE, mMake, ← hnm, ← hτ0, ho, hm, hn0, hτl, exec_rangeM, hid, hr]
end Go.Fu
