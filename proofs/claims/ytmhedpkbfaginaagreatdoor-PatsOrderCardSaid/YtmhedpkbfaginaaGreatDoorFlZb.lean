/-
  A number becomes a type, two types become one: the program's.
-/
import Derived.Test.YtmhedpkbfaginaaGreatDoorFlWg
import Derived.Test.YtmhedpkbfaginaaGreatDoorFlWe
set_option maxHeartbeats 4000000
set_option linter.unusedSimpArgs false
set_option linter.unusedVariables false
set_option linter.unusedSectionVars false
namespace Go.Fu
open Go Go.Mx
set_option maxRecDepth 100000
set_option maxHeartbeats 1000000
structure Fm (σ σ' : Store) (m : Nat) : Prop where
  le : σ.next ≤ σ'.next
  objs : ∀ j, j < σ.next → aget σ'.objs j = aget σ.objs j
  oth : ∀ j, j < σ.next → j ≠ m → aget σ'.oth j = aget σ.oth j
  tys : ∀ j, j < σ.next → aget σ'.tys j = aget σ.tys j
theorem Fr.fm {σ σ' : Store} {m : Nat} (h : Fr σ σ') : Fm σ σ' m := ⟨h.le, h.objs, fun j hj _ => h.oth j hj, h.tys⟩
theorem Fm.trans {a b c : Store} {m : Nat} (h : Fm a b m) (k : Fm b c m) : Fm a c m :=
  ⟨Nat.le_trans h.le k.le, fun j hj => (k.objs j (Nat.lt_of_lt_of_le hj h.le)).trans (h.objs j hj), fun j hj hm => (k.oth j (Nat.lt_of_lt_of_le hj h.le) hm).trans (h.oth j hj hm), fun j hj => (k.tys j (Nat.lt_of_lt_of_le hj h.le)).trans (h.tys j hj)⟩
def SK (σ : Store) (p m n : Nat) (K : Kn) : Prop := SB σ p m n (esK K 0) K.length
theorem SK.put {σ : Store} {p m n : Nat} {K : Kn} (h : SK σ p m n K) (k : Int) (t : Ty) : SK (SM σ m (.map (esK (K ++ [(k, t)]) 0) (K ++ [(k, t)]).length)) p m n (K ++ [(k, t)]) := ⟨h.obj, SM_self, h.lt, h.ltm⟩
theorem Fm.SM {σ : Store} {m : Nat} (x : Oth) : Fm σ (SM σ m x) m :=
  ⟨Nat.le_refl _, fun _ _ => rfl, fun j _ hj => agB _ _ _ (beq_false_of_ne (Ne.symm hj)) _, fun _ _ => rfl⟩
theorem bind_run {S : Specs} (hS : UnifyS S) {p m q d : Nat} {K K' : Kn} (hK : ∀ x ∈ K, Fine x.2) {k : Int} {t : Ty} (ht : Fine t) (hb : BindK d K k t K') (σ : Store) (hB : SK σ p m q K) : ∃ σ', Fm σ σ' m ∧ SK σ' p m q K' ∧ ∃ N, ∀ n, N ≤ n → T S n n_139 [.ptr p 0, .int .i64 k, dTy t] σ = some (.ret ⟨false, .int .i64 0⟩, σ') := by
  have hS1 := hS.2.2.2.2.2.2.2.2.2.1
  have hMe := hS.2.2.2.2.2.2.2.2.2.2.2.2.2.2.2.1
  have hAp := hS.2.2.2.2.2.2.2.2.2.2.2.2.2.2.2.2
  -- what is put behind
  have tail : ∀ (k' : Int) (t' : Ty), Fine t' → withinF d K k' t' = some false → kno k' K = none → FitK d (K ++ [(k', t')]) → ∃ σ1 σ2, Fr σ σ1 ∧ Fm σ1 σ2 m ∧ SK σ2 p m q (K ++ [(k', t')]) ∧ SK σ1 p m q K ∧ ∃ N, ∀ n, N ≤ n → T S n n_106 [.ptr p 0, .int .i64 k', dTy t'] σ = some (.ret ⟨false, .bool false⟩, σ1) ∧ T S n n_40 [dTy t', .nils] σ1 = some (.ret ⟨false, dTy t'⟩, σ1) ∧ T S n n_140 [.ptr p 0] (SM σ1 m (.map (esK (K ++ [(k', t')]) 0) (K ++ [(k', t')]).length)) = some (.ret ⟨false, .bool false⟩, σ2) := by
    intro k' t' ht' hw hk hf
    obtain ⟨σ1, f1, N1, r1⟩ := within_run hS hK d t' false ht' hw σ hB
    have hB1 : SK σ1 p m q K := SB.fr hB f1
    have hB2 := hB1.put k' t'
    have hK2 : ∀ x ∈ K ++ [(k', t')], Fine x.2 := by
      intro x hx
      rcases List.mem_append.1 hx with hx | hx
      · exact hK x hx
      · rw [List.mem_singleton.1 hx]
        exact ht'
    obtain ⟨σ2, f2, N2, r2⟩ := great_run hS hK2 hf _ hB2
    refine ⟨σ1, σ2, f1, (Fm.SM _).trans f2.fm, SB.fr hB2 f2, hB1, N1 + N2 + 2, fun n hn => ⟨r1 n (by omega), ?_, r2 n (by omega)⟩⟩
    obtain ⟨n, rfl⟩ : ∃ k, n = k + 1 := ⟨n - 1, by omega⟩
    exact call_App hAp t' [] ht' (fun _ h => by cases h) (by simp) n σ1
  have upd : ∀ (k' : Int) (t' : Ty) (σ1 : Store), SK σ1 p m q K → kno k' K = none → mapAt σ1.oth (.map m) = some (m, esK K 0, K.length) ∧ findM (.int .i64 k') (esK K 0) = some none ∧ esK K 0 ++ [(D.int .i64 k', dTy t', K.length)] = esK (K ++ [(k', t')]) 0 ∧ K.length + 1 = (K ++ [(k', t')]).length := by
    intro k' t' σ1 h hk
    refine ⟨?_, find_none 0 hk, ?_, by simp⟩
    · simp only [mapAt, h.map, bindO, caseO_some]
    · rw [esK_snoc, Nat.zero_add]
      rfl
  have hok : ∀ t : Ty, (D.agg (cTy t)).ok = true := fun t => by
    rw [← dTy_eq]
    exact ok_dTy t
  cases hb with
  | own h1 h2 =>
    refine ⟨σ, (Fr.refl σ).fm, hB, 1, fun n hn => ?_⟩
    obtain ⟨n, rfl⟩ : ∃ k, n = k + 1 := ⟨n - 1, by omega⟩
    have b1 : (t.f == 1) = true := by rw [h1]; rfl
    have b2 : (t.n == k) = true := by rw [h2]; simp
    rw [T_fun (af := a_34) hS1 rfl rfl]
    simp only [a_34, sA, Nat.reduceAdd, Nat.reduceSub, Nat.reduceMul, Nat.reduceBEq, Nat.reduceLeDiff, Int.reduceBEq, Int.reduceBNe, Int.reduceLE, Int.reduceLT, Int.reduceGE, Int.reduceGT, Int.reduceNeg, kn, onel, dTy_eq, cTy_eq, b1, b2]
  | less h1 h2 hw hk hs =>
    obtain ⟨σ1, σ2, f1, f2, s2, s1, N, hN⟩ := tail t.n (tMeta k) (fine_meta _) hw hk hs
    refine ⟨σ2, f1.fm.trans f2, s2, N + 2, fun n hn => ?_⟩
    obtain ⟨n, rfl⟩ : ∃ k, n = k + 1 := ⟨n - 1, by omega⟩
    obtain ⟨r1, r2, r3⟩ := hN n (by omega)
    obtain ⟨u1, u2, u3, u4⟩ := upd t.n (tMeta k) σ1 s1 hk
    obtain ⟨n, rfl⟩ : ∃ k, n = k + 1 := ⟨n - 1, by omega⟩
    have h0 := call_meta hMe k n σ
    have ho := s1.obj
    have b1 : (t.f == 1) = true := by rw [h1]; rfl
    have b2 : (t.n == k) = false := beq_false_of_ne (by omega)
    have b3 : t.n > k := h2
    have kd : keyD false (.int .i64 t.n) = true := rfl
    have hk2 := hok (tMeta k)
    rw [T_fun (af := a_34) hS1 rfl rfl]
    generalize K ++ [(t.n, tMeta k)] = K2 at *
    generalize tMeta k = u at *
    simp only [dTy_eq, cTy_eq] at h0 r1 r2 u3 hk2
    simp only [a_34, sA, Nat.reduceAdd, Nat.reduceSub, Nat.reduceMul, Nat.reduceBEq, Nat.reduceLeDiff, Int.reduceBEq, Int.reduceBNe, Int.reduceLE, Int.reduceLT, Int.reduceGE, Int.reduceGT, Int.reduceNeg, kn, onel, dTy_eq, cTy_eq, b1, b2, b3, h0, r1, r2, r3, memE, mUpd, ho, u1, u2, u3, u4, kd, hk2]
  | put h1 h2 hw hk hs =>
    obtain ⟨σ1, σ2, f1, f2, s2, s1, N, hN⟩ := tail k t ht hw hk hs
    refine ⟨σ2, f1.fm.trans f2, s2, N + 2, fun n hn => ?_⟩
    obtain ⟨n, rfl⟩ : ∃ k, n = k + 1 := ⟨n - 1, by omega⟩
    obtain ⟨r1, r2, r3⟩ := hN n (by omega)
    obtain ⟨u1, u2, u3, u4⟩ := upd k t σ1 s1 hk
    have ho := s1.obj
    have kd : keyD false (.int .i64 k) = true := rfl
    have hk2 := hok t
    rw [T_fun (af := a_34) hS1 rfl rfl]
    generalize K ++ [(k, t)] = K2 at *
    simp only [dTy_eq, cTy_eq] at r1 r2 u3 hk2
    cases b1 : t.f == 1 with
    | true =>
      have b2 : (t.n == k) = false := beq_false_of_ne fun e => h1 ⟨eq_of_beq b1, e⟩
      have b3 : ¬ (t.n > k) := fun e => h2 ⟨eq_of_beq b1, e⟩
      simp only [a_34, sA, Nat.reduceAdd, Nat.reduceSub, Nat.reduceMul, Nat.reduceBEq, Nat.reduceLeDiff, Int.reduceBEq, Int.reduceBNe, Int.reduceLE, Int.reduceLT, Int.reduceGE, Int.reduceGT, Int.reduceNeg, kn, onel, dTy_eq, cTy_eq, b1, b2, b3, r1, r2, r3, memE, mUpd, ho, u1, u2, u3, u4, kd, hk2]
    | false =>
      simp only [a_34, sA, Nat.reduceAdd, Nat.reduceSub, Nat.reduceMul, Nat.reduceBEq, Nat.reduceLeDiff, Int.reduceBEq, Int.reduceBNe, Int.reduceLE, Int.reduceLT, Int.reduceGE, Int.reduceGT, Int.reduceNeg, kn, onel, dTy_eq, cTy_eq, b1, r1, r2, r3, memE, mUpd, ho, u1, u2, u3, u4, kd, hk2]
end Go.Fu
namespace Go.Fu
open Go Go.Mx
set_option maxRecDepth 100000
set_option maxHeartbeats 1000000
section
variable {C : CallF} {n : Nat} {σ : Store}
def Eon (p : Nat) (u v : Ty) (i : Nat) : Env := { slots := [(0, ⟨false, .ptr p 0⟩), (59, ⟨false, .int .i64 u.as_.length⟩), (60, ⟨false, .int .i64 i⟩)], locs := [(4, 4, 0), (5, 5, 0)], boxes := [(4, bT u), (5, bT v)], defers := [] }
theorem on_step (p : Nat) (u v : Ty) (i : Nat) (hi : i < u.as_.length) (hj : i < v.as_.length) (hl : u.as_.length < 1000000) {σ' : Store} (h1 : C n_92 [.ptr p 0, dTy u.as_[i], dTy v.as_[i]] σ = some (.ret ⟨false, .int .i64 0⟩, σ')) : exec C n none a_46 (Eon p u v i) σ = some (.normal, Eon p u v (i + 1), σ') := by
  have hlt : ((i : Int) < u.as_.length) := by omega
  have w := wrap64_succ (i := i) (by omega)
  have hx := idx_T u.as_ i hi
  have hy := idx_T v.as_ i hj
  generalize u.as_[i] = a at *
  generalize v.as_[i] = b at *
  simp only [dTy_eq, cTy_eq] at h1 hx hy
  simp only [a_46, Eon, bT, sA, Nat.reduceAdd, Nat.reduceSub, Nat.reduceMul, Nat.reduceBEq, Nat.reduceLeDiff, Int.reduceBEq, Int.reduceBNe, Int.reduceLE, Int.reduceLT, Int.reduceGE, Int.reduceGT, Int.reduceNeg, kn, onel, natI, hlt, hx, hy, h1, w, bne_self_eq_false]
theorem on_stop (p : Nat) (u v : Ty) (i : Nat) (hi : i < u.as_.length) (hj : i < v.as_.length) (e : Int) (he : e ≠ 0) {σ' : Store} (h1 : C n_92 [.ptr p 0, dTy u.as_[i], dTy v.as_[i]] σ = some (.ret ⟨false, .int .i64 e⟩, σ')) : exec C n none a_46 (Eon p u v i) σ = some (.ret, { slots := [(6, ⟨false, .int .i64 e⟩)], locs := [], boxes := [], defers := [] }, σ') := by
  have hlt : ((i : Int) < u.as_.length) := by omega
  have hx := idx_T u.as_ i hi
  have hy := idx_T v.as_ i hj
  have hne : (e != 0) = true := by simpa using he
  generalize u.as_[i] = a at *
  generalize v.as_[i] = b at *
  simp only [dTy_eq, cTy_eq] at h1 hx hy
  simp only [a_46, Eon, bT, sA, Nat.reduceAdd, Nat.reduceSub, Nat.reduceMul, Nat.reduceBEq, Nat.reduceLeDiff, Int.reduceBEq, Int.reduceBNe, Int.reduceLE, Int.reduceLT, Int.reduceGE, Int.reduceGT, Int.reduceNeg, kn, onel, natI, hlt, hx, hy, h1, hne]
theorem on_end (p : Nat) (u v : Ty) : exec C n none a_46 (Eon p u v u.as_.length) σ = some (.exit 1, { Eon p u v u.as_.length with slots := [(0, ⟨false, .ptr p 0⟩), (59, ⟨false, .int .i64 u.as_.length⟩), (60, ⟨false, .int .i64 u.as_.length⟩), (61, ⟨false, .bool false⟩)] }, σ) := by
  have hlt : ¬ ((u.as_.length : Int) < u.as_.length) := by omega
  simp only [a_46, Eon, bT, sA, Nat.reduceAdd, Nat.reduceSub, Nat.reduceMul, Nat.reduceBEq, Nat.reduceLeDiff, Int.reduceBEq, Int.reduceBNe, Int.reduceLE, Int.reduceLT, Int.reduceGE, Int.reduceGT, Int.reduceNeg, kn, onel, hlt]
end
def FineK (K : Kn) : Prop := ∀ x ∈ K, Fine x.2
theorem FineK.snoc {K : Kn} {k : Int} {t : Ty} (h : FineK K) (ht : Fine t) : FineK (K ++ [(k, t)]) := by
  intro x hx
  rcases List.mem_append.1 hx with hx | hx
  · exact h x hx
  · rw [List.mem_singleton.1 hx]
    exact ht
theorem BindK.fine {d : Nat} {K K' : Kn} {k : Int} {t : Ty} (h : BindK d K k t K') (hK : FineK K) (ht : Fine t) : FineK K' := by
  cases h with
  | own _ _ => exact hK
  | less _ _ _ _ _ => exact hK.snoc (fine_meta _)
  | put _ _ _ _ _ => exact hK.snoc ht
def OnR (S : Specs) (p m q : Nat) (K' : Kn) (e : Int) (ds : List D) (σ : Store) : Prop := ∃ σ', Fm σ σ' m ∧ SK σ' p m q K' ∧ ∃ N, ∀ n, N ≤ n → T S n n_92 ds σ = some (.ret ⟨false, .int .i64 e⟩, σ')
def onE (p : Nat) (u v : Ty) (e : Int) : AExit × Env := if e = 0 then (.exit 1, { slots := [(0, ⟨false, .ptr p 0⟩), (59, ⟨false, .int .i64 u.as_.length⟩), (60, ⟨false, .int .i64 u.as_.length⟩), (61, ⟨false, .bool false⟩)], locs := [(4, 4, 0), (5, 5, 0)], boxes := [(4, bT u), (5, bT v)], defers := [] }) else (.ret, { slots := [(6, ⟨false, .int .i64 e⟩)], locs := [], boxes := [], defers := [] })
theorem on_loop {S : Specs} {p m q d h : Nat} (u v : Ty) (hu : Fine u) (hv : Fine v) (IH : ∀ K a b e K', OneK d h K a b e K' → FineK K → Fine a → Fine b → FineK K' ∧ ∀ σ, SK σ p m q K → OnR S p m q K' e [.ptr p 0, dTy a, dTy b] σ) : ∀ (k i : Nat) (K : Kn) (e : Int) (K' : Kn), i + k = u.as_.length → i + k = v.as_.length → OneL d h K (u.as_.drop i) (v.as_.drop i) e K' → FineK K → FineK K' ∧ ∀ σ, SK σ p m q K → ∃ σ', Fm σ σ' m ∧ SK σ' p m q K' ∧ ∃ N, ∀ n l, N ≤ n → N ≤ l → loopN (exec (T S n) n none a_46) l (Eon p u v i) σ = some ((onE p u v e).1, (onE p u v e).2, σ')
  | 0, i, K, e, K', h1, h2, hL, hK => by
    have : i = u.as_.length := by omega
    subst this
    have e2 : v.as_.drop u.as_.length = [] := by rw [List.drop_eq_nil_iff]; omega
    rw [List.drop_length, e2] at hL
    cases hL
    refine ⟨hK, fun σ hB => ⟨σ, (Fr.refl σ).fm, hB, 1, fun n l _ hl => ?_⟩⟩
    obtain ⟨l, rfl⟩ : ∃ k, l = k + 1 := ⟨l - 1, by omega⟩
    exact loopN_stop (on_end p u v)
  | k + 1, i, K, e, K', h1, h2, hL, hK => by
    have hi : i < u.as_.length := by omega
    have hj : i < v.as_.length := by omega
    have fu := hu.few
    rw [List.drop_eq_getElem_cons hi, List.drop_eq_getElem_cons hj] at hL
    cases hL with
    | ok ho hr =>
      obtain ⟨hK1, r1⟩ := IH _ _ _ _ _ ho hK (hu.sub _ (List.getElem_mem hi)) (hv.sub _ (List.getElem_mem hj))
      obtain ⟨hK2, r2⟩ := on_loop u v hu hv IH k (i + 1) _ e K' (by omega) (by omega) hr hK1
      refine ⟨hK2, fun σ hB => ?_⟩
      obtain ⟨σ1, f1, s1, N1, g1⟩ := r1 σ hB
      obtain ⟨σ2, f2, s2, N2, g2⟩ := r2 σ1 s1
      refine ⟨σ2, f1.trans f2, s2, N1 + N2 + 1, fun n l hn hl => ?_⟩
      obtain ⟨l, rfl⟩ : ∃ k, l = k + 1 := ⟨l - 1, by omega⟩
      rw [loopN_succ (on_step p u v i hi hj (by omega) (g1 n (by omega)))]
      exact g2 n l (by omega) (by omega)
    | no ho he =>
      obtain ⟨hK1, r1⟩ := IH _ _ _ _ _ ho hK (hu.sub _ (List.getElem_mem hi)) (hv.sub _ (List.getElem_mem hj))
      refine ⟨hK1, fun σ hB => ?_⟩
      obtain ⟨σ1, f1, s1, N1, g1⟩ := r1 σ hB
      refine ⟨σ1, f1, s1, N1 + 1, fun n l hn hl => ?_⟩
      obtain ⟨l, rfl⟩ : ∃ k, l = k + 1 := ⟨l - 1, by omega⟩
      rw [loopN_ret (on_stop p u v i hi hj e he (g1 n (by omega))), onE, if_neg he]
theorem one_run {S : Specs} (hS : UnifyS S) {p m q d : Nat} : ∀ (h : Nat) (K : Kn) (a b : Ty) (e : Int) (K' : Kn), OneK d h K a b e K' → FineK K → Fine a → Fine b → FineK K' ∧ ∀ σ, SK σ p m q K → OnR S p m q K' e [.ptr p 0, dTy a, dTy b] σ
  | 0, K, a, b, e, K', hO, hK, ha, hb => by cases hO
  | h + 1, K, a, b, e, K', hO, hK, ha, hb => by
    have hS1 := hS.2.2.2.2.2.2.2.2.2.2.1
    cases hO with
    | left h1 h2 h3 hB =>
      rename_i u v
      have fu := fine_look hK ha h1
      have fv := fine_look hK hb h2
      refine ⟨hB.fine hK fv, fun σ hs => ?_⟩
      obtain ⟨σ1, f1, s1, N1, g1⟩ := bind_run hS hK fv hB σ hs
      refine ⟨σ1, f1, s1, N1 + d + 3, fun n hn => ?_⟩
      obtain ⟨n, rfl⟩ : ∃ k, n = k + 2 := ⟨n - 2, by omega⟩
      have l1 := look_s hS hs h1 n (by omega)
      have l2 := look_s hS hs h2 n (by omega)
      have g1 := g1 (n + 1) (by omega)
      have b1 : (u.f == 1) = true := by rw [h3]; rfl
      rw [T_fun (af := a_12) hS1 rfl rfl]
      simp only [dTy_eq, cTy_eq] at l1 l2 g1
      simp only [a_12, sA, Nat.reduceAdd, Nat.reduceSub, Nat.reduceMul, Nat.reduceBEq, Nat.reduceLeDiff, Int.reduceBEq, Int.reduceBNe, Int.reduceLE, Int.reduceLT, Int.reduceGE, Int.reduceGT, Int.reduceNeg, kn, onel, dTy_eq, cTy_eq, l1, l2, b1, g1]
    | right h1 h2 h3 h4 hB =>
      rename_i u v
      have fu := fine_look hK ha h1
      have fv := fine_look hK hb h2
      refine ⟨hB.fine hK fu, fun σ hs => ?_⟩
      obtain ⟨σ1, f1, s1, N1, g1⟩ := bind_run hS hK fu hB σ hs
      refine ⟨σ1, f1, s1, N1 + d + 3, fun n hn => ?_⟩
      obtain ⟨n, rfl⟩ : ∃ k, n = k + 2 := ⟨n - 2, by omega⟩
      have l1 := look_s hS hs h1 n (by omega)
      have l2 := look_s hS hs h2 n (by omega)
      have g1 := g1 (n + 1) (by omega)
      have b1 : (u.f == 1) = false := beq_false_of_ne h3
      have b2 : (v.f == 1) = true := by rw [h4]; rfl
      rw [T_fun (af := a_12) hS1 rfl rfl]
      simp only [dTy_eq, cTy_eq] at l1 l2 g1
      simp only [a_12, sA, Nat.reduceAdd, Nat.reduceSub, Nat.reduceMul, Nat.reduceBEq, Nat.reduceLeDiff, Int.reduceBEq, Int.reduceBNe, Int.reduceLE, Int.reduceLT, Int.reduceGE, Int.reduceGT, Int.reduceNeg, kn, onel, dTy_eq, cTy_eq, l1, l2, b1, b2, g1]
    | form h1 h2 h3 h4 h5 =>
      rename_i u v
      refine ⟨hK, fun σ hs => ⟨σ, (Fr.refl σ).fm, hs, d + 3, fun n hn => ?_⟩⟩
      obtain ⟨n, rfl⟩ : ∃ k, n = k + 2 := ⟨n - 2, by omega⟩
      have l1 := look_s hS hs h1 n (by omega)
      have l2 := look_s hS hs h2 n (by omega)
      have b1 : (u.f == 1) = false := beq_false_of_ne h3
      have b2 : (v.f == 1) = false := beq_false_of_ne h4
      have b3 : (u.f != v.f) = true := by simpa using h5
      rw [T_fun (af := a_12) hS1 rfl rfl]
      simp only [dTy_eq, cTy_eq] at l1 l2
      simp only [a_12, sA, Nat.reduceAdd, Nat.reduceSub, Nat.reduceMul, Nat.reduceBEq, Nat.reduceLeDiff, Int.reduceBEq, Int.reduceBNe, Int.reduceLE, Int.reduceLT, Int.reduceGE, Int.reduceGT, Int.reduceNeg, kn, onel, dTy_eq, cTy_eq, l1, l2, b1, b2, b3]
    | name h1 h2 h3 h4 h5 h6 h7 =>
      rename_i u v
      refine ⟨hK, fun σ hs => ⟨σ, (Fr.refl σ).fm, hs, d + 3, fun n hn => ?_⟩⟩
      obtain ⟨n, rfl⟩ : ∃ k, n = k + 2 := ⟨n - 2, by omega⟩
      have l1 := look_s hS hs h1 n (by omega)
      have l2 := look_s hS hs h2 n (by omega)
      have b1 : (u.f == 1) = false := beq_false_of_ne h3
      have b2 : (v.f == 1) = false := beq_false_of_ne h4
      have b3 : (u.f != v.f) = false := by rw [h5]; simp
      have b5 : (u.f == 5) = false := beq_false_of_ne h6
      have b6 : (!(u.s == v.s)) = true := by simpa using h7
      have b7 : (u.s == v.s) = false := beq_false_of_ne h7
      rw [T_fun (af := a_12) hS1 rfl rfl]
      simp only [dTy_eq, cTy_eq] at l1 l2
      simp only [a_12, sA, Nat.reduceAdd, Nat.reduceSub, Nat.reduceMul, Nat.reduceBEq, Nat.reduceLeDiff, Int.reduceBEq, Int.reduceBNe, Int.reduceLE, Int.reduceLT, Int.reduceGE, Int.reduceGT, Int.reduceNeg, kn, onel, dTy_eq, cTy_eq, l1, l2, b1, b2, b3, b5, b6, b7]
    | args h1 h2 h3 h4 h5 h6 h7 h8 hL =>
      rename_i u v
      have fu := fine_look hK ha h1
      have fv := fine_look hK hb h2
      obtain ⟨hK2, r2⟩ := on_loop u v fu fv (fun K a b e K' hO hK ha hb => one_run hS h K a b e K' hO hK ha hb) u.as_.length 0 K e K' (by omega) (by omega) (by simpa using hL) hK
      refine ⟨hK2, fun σ hs => ?_⟩
      obtain ⟨σ1, f1, s1, N1, g1⟩ := r2 σ hs
      refine ⟨σ1, f1, s1, N1 + d + 3, fun n hn => ?_⟩
      obtain ⟨n, rfl⟩ : ∃ k, n = k + 2 := ⟨n - 2, by omega⟩
      have l1 := look_s hS hs h1 n (by omega)
      have l2 := look_s hS hs h2 n (by omega)
      have g1 := g1 (n + 1) (n + 1) (by omega) (by omega)
      have b1 : (u.f == 1) = false := beq_false_of_ne h3
      have b2 : (v.f == 1) = false := beq_false_of_ne h4
      have b3 : (u.f != v.f) = false := by rw [h5]; simp
      have b5 : (u.f == 5) = false := beq_false_of_ne h6
      have b7 : (u.s == v.s) = true := by rw [h7]; simp
      have hlen := len_T u.as_
      rw [T_fun (af := a_12) hS1 rfl rfl]
      simp only [Eon, bT, zeroI] at g1
      simp only [dTy_eq, cTy_eq] at l1 l2
      by_cases he : e = 0
      · subst he
        simp only [onE, if_pos, bT] at g1
        simp only [a_12, sA, Nat.reduceAdd, Nat.reduceSub, Nat.reduceMul, Nat.reduceBEq, Nat.reduceLeDiff, Int.reduceBEq, Int.reduceBNe, Int.reduceLE, Int.reduceLT, Int.reduceGE, Int.reduceGT, Int.reduceNeg, kn, onel, dTy_eq, cTy_eq, l1, l2, b1, b2, b3, b5, b7, Bool.not_true, hlen, g1]
      · simp only [onE, if_neg he] at g1
        simp only [a_12, sA, Nat.reduceAdd, Nat.reduceSub, Nat.reduceMul, Nat.reduceBEq, Nat.reduceLeDiff, Int.reduceBEq, Int.reduceBNe, Int.reduceLE, Int.reduceLT, Int.reduceGE, Int.reduceGT, Int.reduceNeg, kn, onel, dTy_eq, cTy_eq, l1, l2, b1, b2, b3, b5, b7, Bool.not_true, hlen, g1]
structure Fp (σ σ' : Store) (p m : Nat) : Prop where
  le : σ.next ≤ σ'.next
  objs : ∀ j, j < σ.next → j ≠ p → aget σ'.objs j = aget σ.objs j
  oth : ∀ j, j < σ.next → j ≠ m → aget σ'.oth j = aget σ.oth j
  tys : ∀ j, j < σ.next → aget σ'.tys j = aget σ.tys j
theorem unify_run {S : Specs} (hS : UnifyS S) {p m q d h : Nat} {K K' : Kn} {a b : Ty} {e : Int} (hO : OneK d h K a b e K') (hK : FineK K) (ha : Fine a) (hb : Fine b) (σ : Store) (hs : SK σ p m q K) : FineK K' ∧ ∃ σ', Fp σ σ' p m ∧ (e = 0 → SK σ' p m q K') ∧ ∃ N, ∀ n, N ≤ n → T S n n_55 [.ptr p 0, dTy a, dTy b] σ = some (.ret ⟨false, .int .i64 e⟩, σ') := by
  obtain ⟨hK2, r⟩ := one_run hS h K a b e K' hO hK ha hb
  refine ⟨hK2, ?_⟩
  have hS1 := hS.2.2.2.2.2.2.2.2.2.2.2.1
  have hS2 := hS.2.2.2.2.2.2.2.2.2.2.2.2.1
  obtain ⟨τ, hτ⟩ : ∃ τ, τ = GM σ (.map (esK K 0) K.length) := ⟨_, rfl⟩
  have f0 : Fr σ τ := by rw [hτ]; exact fr_GM _ _
  have s0 : SK τ p m q K := SB.fr hs f0
  obtain ⟨σ1, f1, s1, N1, g1⟩ := r τ s0
  have hcl : ∀ n, T S (n + 1) n_144 [.map m] σ = some (.ret ⟨false, .map σ.next⟩, τ) := by
    intro n
    have hm := hs.map
    rw [T_fun (af := a_113) hS2 rfl rfl]
    simp only [a_113, sA, Nat.reduceAdd, Nat.reduceSub, Nat.reduceMul, Nat.reduceBEq, Nat.reduceLeDiff, Int.reduceBEq, Int.reduceBNe, Int.reduceLE, Int.reduceLT, Int.reduceGE, Int.reduceGT, Int.reduceNeg, kn, onel, hm, fold_GM, ← hτ]
  have ho := hs.obj
  have ho1 := s1.obj
  by_cases he : e = 0
  · subst he
    refine ⟨σ1, ⟨Nat.le_trans f0.le f1.le, fun j hj _ => (f1.objs j (Nat.lt_of_lt_of_le hj f0.le)).trans (f0.objs j hj), fun j hj hm => (f1.oth j (Nat.lt_of_lt_of_le hj f0.le) hm).trans (f0.oth j hj), fun j hj => (f1.tys j (Nat.lt_of_lt_of_le hj f0.le)).trans (f0.tys j hj)⟩, fun _ => s1, N1 + 3, fun n hn => ?_⟩
    obtain ⟨n, rfl⟩ : ∃ k, n = k + 2 := ⟨n - 2, by omega⟩
    have g1 := g1 (n + 1) (by omega)
    have hcl := hcl n
    rw [T_fun (af := a_81) hS1 rfl rfl]
    simp only [dTy_eq, cTy_eq] at g1
    simp only [a_81, sA, Nat.reduceAdd, Nat.reduceSub, Nat.reduceMul, Nat.reduceBEq, Nat.reduceLeDiff, Int.reduceBEq, Int.reduceBNe, Int.reduceLE, Int.reduceLT, Int.reduceGE, Int.reduceGT, Int.reduceNeg, kn, onel, dTy_eq, cTy_eq, ho, hcl, g1, bne_self_eq_false]
  · have hne : (e != 0) = true := by simpa using he
    refine ⟨SO σ1 p [⟨false, .int .i64 q⟩, ⟨false, .map σ.next⟩], ⟨Nat.le_trans f0.le f1.le, fun j hj hp => ?_, fun j hj hm => (f1.oth j (Nat.lt_of_lt_of_le hj f0.le) hm).trans (f0.oth j hj), fun j hj => (f1.tys j (Nat.lt_of_lt_of_le hj f0.le)).trans (f0.tys j hj)⟩, fun h => absurd h he, N1 + 3, fun n hn => ?_⟩
    · exact ((agB _ _ _ (beq_false_of_ne (Ne.symm hp)) _).trans (f1.objs j (Nat.lt_of_lt_of_le hj f0.le))).trans (f0.objs j hj)
    · obtain ⟨n, rfl⟩ : ∃ k, n = k + 2 := ⟨n - 2, by omega⟩
      have g1 := g1 (n + 1) (by omega)
      have hcl := hcl n
      rw [T_fun (af := a_81) hS1 rfl rfl]
      simp only [dTy_eq, cTy_eq] at g1
      simp only [a_81, sA, Nat.reduceAdd, Nat.reduceSub, Nat.reduceMul, Nat.reduceBEq, Nat.reduceLeDiff, Int.reduceBEq, Int.reduceBNe, Int.reduceLE, Int.reduceLT, Int.reduceGE, Int.reduceGT, Int.reduceNeg, kn, onel, dTy_eq, cTy_eq, ho, hcl, g1, hne, ho1, fold_SO]
end Go.Fu
namespace Go.Fu
open Go Go.Mx
set_option maxRecDepth 10000
theorem look_mono {K : Kn} : ∀ {d : Nat} {t u : Ty}, lookF d K t = some u → lookF (d + 1) K t = some u
  | d + 1, t, u, h => by
    rw [lookF] at h ⊢
    by_cases h1 : t.f = 1
    · rw [if_pos h1] at h ⊢
      cases hk : kno t.n K with
      | none =>
        rw [hk] at h
        exact h
      | some v =>
        rw [hk] at h
        exact look_mono h
    · rw [if_neg h1] at h ⊢
      exact h
theorem look_le {K : Kn} {d e : Nat} {t u : Ty} (h : lookF d K t = some u) (hd : d ≤ e) : lookF e K t = some u := by
  induction hd with
  | refl => exact h
  | step _ ih => exact look_mono ih
theorem look_other {K : Kn} {k : Int} {x : Ty} (hk : kno k K = none) : ∀ {d : Nat} {t u : Ty}, lookF d K t = some u → ¬ (u.f = 1 ∧ u.n = k) → lookF d (K ++ [(k, x)]) t = some u
  | d + 1, t, u, h, hu => by
    rw [lookF] at h ⊢
    by_cases h1 : t.f = 1
    · rw [if_pos h1] at h ⊢
      cases hx : kno t.n K with
      | none =>
        rw [hx] at h
        cases h
        have : ¬ k = t.n := fun e => hu ⟨h1, e.symm⟩
        rw [kno_snoc, hx]
        simp only [if_neg this]
      | some v =>
        rw [hx] at h
        rw [kno_snoc, hx]
        exact look_other hk h hu
    · rw [if_neg h1] at h ⊢
      exact h
theorem look_hit {K : Kn} {k : Int} {x : Ty} (hx : x.f ≠ 1) : ∀ {d : Nat} {t u : Ty}, lookF d K t = some u → u.f = 1 → u.n = k → lookF (d + 1) (K ++ [(k, x)]) t = some x
  | d + 1, t, u, h, h1, h2 => by
    have ht : t.f = 1 := by
      by_cases e : t.f = 1
      · exact e
      · rw [lookF, if_neg e] at h
        cases h
        exact absurd h1 e
    rw [lookF, if_pos ht] at h
    rw [lookF, if_pos ht]
    cases hk : kno t.n K with
    | none =>
      rw [hk] at h
      cases h
      rw [kno_snoc, hk]
      simp only [if_pos h2.symm]
      rw [lookF, if_neg hx]
    | some v =>
      rw [hk] at h
      rw [kno_snoc, hk]
      exact look_hit hx h h1 h2
theorem size_look {K : Kn} : ∀ {d : Nat} {t u : Ty}, lookF d K t = some u → u.as_ = [] → u.f ≠ 4 → t.f = 1 ∨ t = u → sizeF d K t = some 1
  | d + 1, t, u, h, h1, h2, h3 => by
    rw [lookF] at h
    by_cases ht : t.f = 1
    · rw [if_pos ht] at h
      cases hk : kno t.n K with
      | none =>
        rw [hk] at h
        cases h
        have e : (if t.f = 1 then kno t.n K else none) = none := by rw [if_pos ht, hk]
        rw [sizeF, e]
        simp only [h1, sumF, if_neg h2]
      | some v =>
        rw [hk] at h
        have e : (if t.f = 1 then kno t.n K else none) = some v := by rw [if_pos ht, hk]
        rw [sizeF, e]
        by_cases hv : v.f = 1
        · exact size_look h h1 h2 (.inl hv)
        · refine size_look h h1 h2 (.inr ?_)
          cases d with
          | zero => cases h
          | succ d =>
            have h' : lookF (d + 1) K v = some u := h
            rw [lookF, if_neg hv] at h'
            exact Option.some.inj h'
    · rw [if_neg ht] at h
      cases h
      have e : (if t.f = 1 then kno t.n K else none) = none := if_neg ht
      rw [sizeF, e]
      simp only [h1, sumF, if_neg h2]
def elT : Nat → Ty
  | 0 => tMeta 2
  | 1 => wt 0
  | _ => wt 1
theorem elT_f {e : Nat} (h : e ≠ 0) : (elT e).f = 3 ∧ (elT e).as_ = [] := by
  match e, h with
  | 0, h => exact absurd rfl h
  | 1, _ => exact ⟨rfl, rfl⟩
  | n + 2, _ => exact ⟨rfl, rfl⟩
structure EK (K : Kn) (e : Nat) (z : Ty) : Prop where
  few : e ≤ 2
  zero : e = 0 → lookF 2 K z = some (tMeta 2)
  more : e ≠ 0 → lookF 3 K z = some (elT e)
  flat : z.f = 1 ∨ (e ≠ 0 ∧ z = elT e)
theorem EK.look {K : Kn} {e : Nat} {z : Ty} (h : EK K e z) : lookF 3 K z = some (elT e) := by
  by_cases he : e = 0
  · subst he
    exact look_mono (h.zero rfl)
  · exact h.more he
theorem EK.size {K : Kn} {e : Nat} {z : Ty} (h : EK K e z) : sizeF 3 K z = some 1 := by
  refine size_look h.look ?_ ?_ ?_
  · by_cases he : e = 0
    · subst he; rfl
    · exact (elT_f he).2
  · by_cases he : e = 0
    · subst he
      show (1 : Int) ≠ 4
      omega
    · rw [(elT_f he).1]
      omega
  · rcases h.flat with h | h
    · exact .inl h
    · exact .inr h.2
theorem EK.other {K : Kn} {e : Nat} {z : Ty} (h : EK K e z) {k : Int} {x : Ty} (hk : kno k K = none) (h2 : e = 0 → k ≠ 2) : EK (K ++ [(k, x)]) e z := by
  refine ⟨h.few, fun he => look_other hk (h.zero he) ?_, fun he => look_other hk (h.more he) ?_, h.flat⟩
  · rintro ⟨_, e2⟩
    exact h2 he e2.symm
  · rintro ⟨e1, _⟩
    rw [(elT_f he).1] at e1
    omega
theorem EK.two {K : Kn} {z : Ty} (h : EK K 0 z) {e : Nat} (he : e ≠ 0) (hf : e ≤ 2) : EK (K ++ [(2, elT e)]) e z := by
  refine ⟨hf, fun h0 => absurd h0 he, fun _ => look_hit (by rw [(elT_f he).1]; omega) (h.zero rfl) rfl rfl, ?_⟩
  rcases h.flat with h | h
  · exact .inl h
  · exact absurd rfl h.1
theorem lookF_own {K : Kn} {d : Nat} {t : Ty} (h : t.f ≠ 1) : lookF (d + 1) K t = some t := by rw [lookF, if_neg h]
theorem EK.con {K : Kn} {e : Nat} (he : e ≠ 0) (hf : e ≤ 2) : EK K e (elT e) := by
  refine ⟨hf, fun h0 => absurd h0 he, fun _ => ?_, .inr ⟨he, rfl⟩⟩
  have : (elT e).f ≠ 1 := by rw [(elT_f he).1]; omega
  exact lookF_own (d := 2) this
theorem lookF_meta {K : Kn} {d : Nat} {k : Int} {x : Ty} (h : kno k K = some x) : lookF (d + 1) K (tMeta k) = lookF d K x := by
  have e : (tMeta k).f = 1 := rfl
  rw [lookF, if_pos e]
  show (match kno k K with | none => _ | some u => _) = _
  rw [h]
theorem lookF_free {K : Kn} {d : Nat} {k : Int} (h : kno k K = none) : lookF (d + 1) K (tMeta k) = some (tMeta k) := by
  have e : (tMeta k).f = 1 := rfl
  rw [lookF, if_pos e]
  show (match kno k K with | none => _ | some u => _) = _
  rw [h]
inductive Inf where
  | un | int | bool | tt
  | li (e : Nat)
def RootK (K : Kn) (n : Nat) : Inf → Prop
  | .un => kno 1 K = none ∧ n = 1
  | .int => kno 1 K = some (wt 0)
  | .bool => kno 1 K = some (wt 1)
  | .tt => kno 1 K = some (wt 3)
  | .li e => (∃ z, kno 1 K = some (tL z) ∧ EK K e z) ∧ (e = 0 → 2 ≤ n ∧ kno 2 K = none)
structure StK (K : Kn) (n : Nat) (i : Inf) : Prop where
  keys : ∀ x ∈ K, 1 ≤ x.1 ∧ x.1 ≤ (n : Int)
  one : 1 ≤ n
  root : RootK K n i
  others : ∀ k : Nat, 2 ≤ k → k ≤ n → ∃ e, i = .li e ∧ EK K e (tMeta k)
theorem kno_fresh {K : Kn} {k : Int} (h : ∀ x ∈ K, x.1 ≠ k) : kno k K = none := by
  cases hk : kno k K with
  | none => rfl
  | some t => exact absurd rfl (h _ (kno_mem hk))
theorem StK.fresh {K : Kn} {n : Nat} {i : Inf} (h : StK K n i) : kno ((n + 1 : Nat) : Int) K = none := kno_fresh fun x hx => by
  have := h.keys x hx
  omega
theorem mem_kno {k : Int} {t : Ty} : ∀ {l : Kn}, (k, t) ∈ l → ∃ t', kno k l = some t'
  | x :: r, h => by
    simp only [kno]
    by_cases e : x.1 = k
    · exact ⟨x.2, if_pos e⟩
    · rw [if_neg e]
      rcases List.mem_cons.1 h with rfl | h
      · exact absurd rfl e
      · exact mem_kno h
theorem size_tL {K : Kn} {d : Nat} {z : Ty} (h : sizeF d K z = some 1) : sizeF (d + 1) K (tL z) = some 2 := by
  cases d with
  | zero => cases h
  | succ d =>
    have e : (if (tL z).f = 1 then kno (tL z).n K else none) = none := if_neg (by show (4 : Int) ≠ 1; omega)
    have e2 : (if (tCon [76]).f = 1 then kno (tCon [76]).n K else none) = none := if_neg (by show (3 : Int) ≠ 1; omega)
    have h4 : (tL z).f = 4 := rfl
    have h3 : sizeF (d + 1) K (tCon [76]) = some 1 := by
      rw [sizeF, e2]
      rfl
    rw [sizeF, e]
    simp only [if_pos h4]
    show sumF (sizeF (d + 1) K) 0 [tCon [76], z] = some 2
    simp only [sumF, h3, h, Option.bind_some]
    rfl
theorem StK.fit {K : Kn} {n : Nat} {i : Inf} (h : StK K n i) : FitK 6 K := by
  intro x hx
  obtain ⟨k, t⟩ := x
  obtain ⟨k1, k2⟩ := h.keys _ hx
  simp only at k1 k2
  by_cases e : k = 1
  · subst e
    obtain ⟨t', ht'⟩ := mem_kno hx
    have hr := h.root
    have con : ∀ s : Tx, sizeF 5 K (tCon s) = some 1 := fun s => by
      have e2 : (if (tCon s).f = 1 then kno (tCon s).n K else none) = none := if_neg (by show (3 : Int) ≠ 1; omega)
      rw [sizeF, e2]
      rfl
    cases i with
    | un =>
      rw [hr.1] at ht'
      cases ht'
    | int => exact ⟨1, (sizeF_meta hr).trans (con _), by omega⟩
    | bool => exact ⟨1, (sizeF_meta hr).trans (con _), by omega⟩
    | tt => exact ⟨1, (sizeF_meta hr).trans (con _), by omega⟩
    | li e =>
      obtain ⟨⟨z, hz, ez⟩, _⟩ := hr
      refine ⟨2, (sizeF_meta hz).trans (sizeF_le (size_tL (sizeF_le ez.size (Nat.le_refl 3))) (by omega)), by omega⟩
  · obtain ⟨j, rfl⟩ : ∃ j : Nat, k = (j : Int) := ⟨k.toNat, by omega⟩
    obtain ⟨e, _, ek⟩ := h.others j (by omega) (by omega)
    exact ⟨1, sizeF_le ek.size (by omega), by omega⟩
end Go.Fu
namespace Go.Fu
open Go Go.Mx
set_option maxRecDepth 10000
def joinE (a b : Nat) : Option Nat := if a = 0 then some b else if b = 0 then some a else if a = b then some a else none
def join : Inf → Inf → Option Inf
  | .un, j => some j
  | i, .un => some i
  | .int, .int => some .int
  | .bool, .bool => some .bool
  | .tt, .tt => some .tt
  | .li e, .li f => (joinE e f).map .li
  | _, _ => none
def infT : Nat → Inf
  | 0 => .int
  | 1 => .bool
  | 2 => .li 1
  | 3 => .tt
  | _ => .li 2
theorem within_flat {K : Kn} {d : Nat} {k : Int} {t u : Ty} (h : lookF (d + 1) K t = some u) (h1 : ¬ (u.f = 1 ∧ u.n = k)) (h2 : u.as_ = []) : withinF (d + 1) K k t = some false := by
  rw [withinF, h]
  simp only [Option.bind_some, if_neg h1, h2, anyF]
theorem within_L {K : Kn} {d : Nat} {k : Int} {z u : Ty} (h : lookF (d + 1) K z = some u) (h1 : ¬ (u.f = 1 ∧ u.n = k)) (h2 : u.as_ = []) : withinF (d + 2) K k (tL z) = some false := by
  have e1 : lookF (d + 1 + 1) K (tL z) = some (tL z) := lookF_own (by show (4 : Int) ≠ 1; omega)
  have e2 : ¬ ((tL z).f = 1 ∧ (tL z).n = k) := fun e => absurd e.1 (by show (4 : Int) ≠ 1; omega)
  have e3 : withinF (d + 1) K k (tCon [76]) = some false := within_flat (lookF_own (by show (3 : Int) ≠ 1; omega)) (fun e => absurd e.1 (by show (3 : Int) ≠ 1; omega)) rfl
  rw [withinF, e1]
  simp only [Option.bind_some, if_neg e2]
  show anyF (withinF (d + 1) K k) [tCon [76], z] = some false
  simp only [anyF, e3, within_flat h h1 h2, Option.bind_some]
  rfl
theorem elT_ne {e : Nat} (he : e ≠ 0) (k : Int) : ¬ ((elT e).f = 1 ∧ (elT e).n = k) := fun h => by
  rw [(elT_f he).1] at h
  omega
theorem keys_put {K : Kn} {n k : Nat} {t : Ty} (h : ∀ x ∈ K, 1 ≤ x.1 ∧ x.1 ≤ (n : Int)) {m : Nat} (hm : n ≤ m) (h1 : 1 ≤ k) (h2 : k ≤ m) : ∀ x ∈ K ++ [((k : Int), t)], 1 ≤ x.1 ∧ x.1 ≤ (m : Int) := by
  intro x hx
  rcases List.mem_append.1 hx with hx | hx
  · have := h x hx
    omega
  · rw [List.mem_singleton.1 hx]
    exact ⟨by show (1 : Int) ≤ k; omega, by show (k : Int) ≤ m; omega⟩
theorem kno_put {K : Kn} {k j : Int} {t x : Ty} (h : kno j K = some x) : kno j (K ++ [(k, t)]) = some x := by rw [kno_snoc, h]
theorem kno_new {K : Kn} {k : Int} {t : Ty} (h : kno k K = none) : kno k (K ++ [(k, t)]) = some t := by
  rw [kno_snoc, h]
  exact if_pos rfl
theorem kno_off {K : Kn} {k j : Int} {t : Ty} (h : kno j K = none) (hj : k ≠ j) : kno j (K ++ [(k, t)]) = none := by
  rw [kno_snoc, h]
  exact if_neg hj
theorem StK.two {K : Kn} {n : Nat} (h : StK K n (.li 0)) {f : Nat} (hf : f ≠ 0) (h2 : f ≤ 2) : StK (K ++ [(2, elT f)]) n (.li f) := by
  obtain ⟨⟨z, hz, ez⟩, h0⟩ := h.root
  obtain ⟨hn, hk⟩ := h0 rfl
  refine ⟨keys_put (k := 2) h.keys (Nat.le_refl n) (by omega) hn, h.one, ⟨⟨z, kno_put hz, ez.two hf h2⟩, fun e => absurd e hf⟩, fun k hk1 hk2 => ?_⟩
  obtain ⟨e, he, ek⟩ := h.others k hk1 hk2
  cases he
  exact ⟨f, rfl, ek.two hf h2⟩
theorem elT_s {e f : Nat} (he : e ≠ 0) (hf : f ≠ 0) (h1 : e ≤ 2) (h2 : f ≤ 2) (h : e ≠ f) : (elT e).s ≠ (elT f).s := by
  match e, f, he, hf, h1, h2, h with
  | 0, _, he, _, _, _, _ => exact absurd rfl he
  | _ + 1, 0, _, hf, _, _, _ => exact absurd rfl hf
  | 1, 1, _, _, _, _, h => exact absurd rfl h
  | 1, 2, _, _, _, _, _ => exact (by decide : ([73, 110, 116] : List UInt8) ≠ [66, 111, 111, 108])
  | 2, 1, _, _, _, _, _ => exact (by decide : ([66, 111, 111, 108] : List UInt8) ≠ [73, 110, 116])
  | 2, 2, _, _, _, _, h => exact absurd rfl h
theorem one_same {K : Kn} {h : Nat} {a b u : Ty} (h1 : lookF 6 K a = some u) (h2 : lookF 6 K b = some u) (h3 : u.f = 3) (h4 : u.as_ = []) : OneK 6 (h + 1) K a b 0 K :=
  .args h1 h2 (by omega) (by omega) rfl (by omega) rfl rfl (by rw [h4]; exact .nil)
theorem el_con {K : Kn} {n e : Nat} {z : Ty} (h : StK K n (.li e)) (hz : EK K e z) {f : Nat} (hf : f ≠ 0) (h2 : f ≤ 2) (hh : Nat) : ∃ r K', OneK 6 (hh + 1) K z (elT f) r K' ∧ (match joinE e f with
    | some g => r = 0 ∧ StK K' n (.li g)
    | none => r ≠ 0) := by
  have lf : lookF 6 K (elT f) = some (elT f) := lookF_own (d := 5) (by rw [(elT_f hf).1]; omega)
  have lz : lookF 6 K z = some (elT e) := look_le hz.look (by omega)
  by_cases he : e = 0
  · subst he
    refine ⟨0, K ++ [(2, elT f)], ?_, ?_⟩
    · obtain ⟨_, hk⟩ := h.root.2 rfl
      exact .left lz lf rfl (.put (by rw [(elT_f hf).1]; omega) (by rw [(elT_f hf).1]; omega) (within_flat (d := 5) lf (elT_ne hf _) (elT_f hf).2) hk (h.two hf h2).fit)
    · simp only [joinE, if_pos]
      exact ⟨trivial, h.two hf h2⟩
  · by_cases hef : e = f
    · subst hef
      refine ⟨0, K, one_same lz lf (elT_f hf).1 (elT_f hf).2, ?_⟩
      simp only [joinE, if_neg he, if_pos]
      exact ⟨trivial, h⟩
    · refine ⟨31, K, .name lz lf (by rw [(elT_f he).1]; omega) (by rw [(elT_f hf).1]; omega) (by rw [(elT_f he).1, (elT_f hf).1]) (by rw [(elT_f he).1]; omega) (elT_s he hf hz.few h2 hef), ?_⟩
      simp only [joinE, if_neg he, if_neg hf, if_neg hef]
      omega
theorem StK.more {K : Kn} {n e : Nat} (h : StK K n (.li e)) (he2 : e ≤ 2) : StK (K ++ [(((n + 1 : Nat) : Int), elT e)]) (n + 1) (.li e) := by
  obtain ⟨⟨z, hz, ez⟩, h0⟩ := h.root
  have hone := h.one
  have hfr := h.fresh
  have hne : e = 0 → ((n + 1 : Nat) : Int) ≠ 2 := fun e0 => by
    have := (h0 e0).1
    omega
  have ek0 : ∀ w, EK K e w → EK (K ++ [(((n + 1 : Nat) : Int), elT e)]) e w := fun w hw => hw.other hfr hne
  refine ⟨keys_put (k := n + 1) h.keys (by omega) (by omega) (Nat.le_refl _), by omega, ⟨⟨z, kno_put hz, ek0 z ez⟩, fun e0 => ⟨by have := (h0 e0).1; omega, kno_off (h0 e0).2 (hne e0)⟩⟩, fun k hk1 hk2 => ?_⟩
  by_cases ek : k = n + 1
  · subst ek
    have hn := kno_new (t := elT e) hfr
    refine ⟨e, rfl, he2, fun e0 => ?_, fun e0 => ?_, .inl rfl⟩
    · subst e0
      rw [lookF_meta (d := 1) hn]
      exact lookF_free (d := 0) (kno_off (h0 rfl).2 (hne rfl))
    · rw [lookF_meta (d := 2) hn]
      exact lookF_own (d := 1) (by rw [(elT_f e0).1]; omega)
  · obtain ⟨e', he', ek'⟩ := h.others k hk1 (by omega)
    cases he'
    exact ⟨e, rfl, ek0 _ ek'⟩
theorem el_meta {K : Kn} {n e : Nat} {z : Ty} (h : StK K n (.li e)) (hz : EK K e z) (hh : Nat) : OneK 6 (hh + 1) K z (tMeta ((n + 1 : Nat) : Int)) 0 (K ++ [(((n + 1 : Nat) : Int), elT e)]) := by
  have lz : lookF 6 K z = some (elT e) := look_le hz.look (by omega)
  have hfr := h.fresh
  have lf : lookF 6 K (tMeta ((n + 1 : Nat) : Int)) = some (tMeta ((n + 1 : Nat) : Int)) := lookF_free (d := 5) hfr
  have hfit := (h.more hz.few).fit
  by_cases he : e = 0
  · subst he
    obtain ⟨hn, hk⟩ := h.root.2 rfl
    refine .left lz lf rfl (.less rfl ?_ (within_flat (d := 5) (lookF_free (d := 5) hk) ?_ rfl) hfr hfit)
    · show ((n + 1 : Nat) : Int) > 2
      omega
    · rintro ⟨_, e2⟩
      have : (2 : Int) = ((n + 1 : Nat) : Int) := e2
      omega
  · have lf2 : lookF 6 K (elT e) = some (elT e) := lookF_own (d := 5) (by rw [(elT_f he).1]; omega)
    exact .right lz lf (by rw [(elT_f he).1]; omega) rfl (.put (by rw [(elT_f he).1]; omega) (by rw [(elT_f he).1]; omega) (within_flat (d := 5) lf2 (elT_ne he _) (elT_f he).2) hfr hfit)
theorem one_lists {K K' : Kn} {hh : Nat} {r : Int} {a z w : Ty} (ha : lookF 6 K a = some (tL z)) (h : OneK 6 (hh + 1) K z w r K') : OneK 6 (hh + 2) K a (tL w) r K' := by
  have hc : OneK 6 (hh + 1) K (tCon [76]) (tCon [76]) 0 K := one_same (lookF_own (d := 5) (by show (3 : Int) ≠ 1; omega)) (lookF_own (d := 5) (by show (3 : Int) ≠ 1; omega)) rfl rfl
  have hL : OneL 6 (hh + 1) K [tCon [76], z] [tCon [76], w] r K' := by
    by_cases hr : r = 0
    · subst hr
      exact .ok hc (.ok h .nil)
    · exact .ok hc (.no h hr)
  exact .args ha (lookF_own (d := 5) (by show (4 : Int) ≠ 1; omega)) (by show (4 : Int) ≠ 1; omega) (by show (4 : Int) ≠ 1; omega) rfl (by show (4 : Int) ≠ 5; omega) rfl rfl hL
end Go.Fu
