/-
  What is not known; a substitution that says nothing; a new one.
-/
import Derived.Test.YtmhedpkbfaginaaGreatDoorFlVm
set_option maxHeartbeats 4000000
set_option linter.unusedSimpArgs false
set_option linter.unusedVariables false
set_option linter.unusedSectionVars false
namespace Go.Fu
open Go Go.Mx
set_option maxRecDepth 100000
set_option maxHeartbeats 4000000
def tMeta (n : Int) : Ty := .mk 1 n [] []
theorem meta_pure (n : Int) : OkP n_27 [.int .i64 n] ⟨false, dTy (tMeta n)⟩ := by
  refine pure_fun (af := a_127) (n := 1) (σ' := σ0) (T_sound [] 1) rfl rfl rfl (noPtr_dTy _) ?_
  have e : dTy (tMeta n) = .agg [.int .i64 1, .int .i64 n, .str [], .nils] := rfl
  rw [e]
  simp only [a_127, sA, Nat.reduceAdd, Nat.reduceSub, Nat.reduceMul, Nat.reduceBEq, Nat.reduceLeDiff, Int.reduceBEq, Int.reduceBNe, Int.reduceLE, Int.reduceLT, Int.reduceGE, Int.reduceGT, Int.reduceNeg, kn, onel]
def sp_meta : List D → Cell → Prop := fun ds c => ∀ n : Int, ds = [.int .i64 n] → c = ⟨false, dTy (tMeta n)⟩
theorem call_meta {S : Specs} (hS : aget S n_27 = some sp_meta) (k : Int) (n : Nat) (σ : Store) : T S (n + 1) n_27 [.int .i64 k] σ = some (.ret ⟨false, dTy (tMeta k)⟩, σ) := by
  obtain ⟨c, g1, g2⟩ := T_orc (S := S) hS rfl (c := ⟨false, dTy (tMeta k)⟩) (fun t' e => by
    simp only [List.cons.injEq, D.int.injEq, true_and, and_true] at e
    rw [e]) (meta_pure k)
  rw [g2, g1 _ rfl]
structure SB (σ : Store) (p m : Nat) (n : Nat) (es : List (D × D × Nat)) (c : Nat) : Prop where
  obj : aget σ.objs p = some [⟨false, .int .i64 n⟩, ⟨false, .map m⟩]
  map : aget σ.oth m = some (.map es c)
  lt : p < σ.next
  ltm : m < σ.next
theorem fresh_run {S : Specs} (hS0 : has S n_16 = false) (hS1 : aget S n_27 = some sp_meta) {σ : Store} {p m n c : Nat} {es : List (D × D × Nat)} (h : SB σ p m n es c) (hn : n < 1000000) (k : Nat) : T S (k + 2) n_16 [.ptr p 0] σ = some (.ret ⟨false, dTy (tMeta (n + 1 : Nat))⟩, SO σ p [⟨false, .int .i64 (n + 1 : Nat)⟩, ⟨false, .map m⟩]) ∧ SB (SO σ p [⟨false, .int .i64 (n + 1 : Nat)⟩, ⟨false, .map m⟩]) p m (n + 1) es c := by
  refine ⟨?_, ⟨agA _ _ _, h.map, h.lt, h.ltm⟩⟩
  rw [T_fun (af := a_132) hS0 rfl rfl]
  have ho := h.obj
  have w := wrap64_succ (i := n) (by omega)
  have h1 := call_meta hS1 (n + 1 : Nat) k (SO σ p [⟨false, .int .i64 (n + 1 : Nat)⟩, ⟨false, .map m⟩])
  have hs : aget (SO σ p [⟨false, .int .i64 (n + 1 : Nat)⟩, ⟨false, .map m⟩]).objs p = some [⟨false, .int .i64 (n + 1 : Nat)⟩, ⟨false, .map m⟩] := agA _ _ _
  generalize tMeta (n + 1 : Nat) = u at *
  simp only [dTy_eq, cTy_eq] at h1 ⊢
  simp only [a_132, sA, Nat.reduceAdd, Nat.reduceSub, Nat.reduceMul, Nat.reduceBEq, Nat.reduceLeDiff, Int.reduceBEq, Int.reduceBNe, Int.reduceLE, Int.reduceLT, Int.reduceGE, Int.reduceGT, Int.reduceNeg, kn, onel, ho, w, fold_SO, hs, h1]
end Go.Fu
namespace Go.Fu
open Go Go.Mx
set_option maxRecDepth 100000
set_option maxHeartbeats 4000000
inductive Lk (es : List (D × D × Nat)) : Nat → Ty → Ty → Prop
  | done {t : Ty} (h : t.f ≠ 1) : Lk es 0 t t
  | free {t : Ty} (h : t.f = 1) (hn : findM (.int .i64 t.n) es = some none) : Lk es 0 t t
  | step {k : Nat} {t u v : Ty} {b j : Nat} (h : t.f = 1) (hs : findM (.int .i64 t.n) es = some (some (dTy u, b, j))) (hr : Lk es k u v) : Lk es (k + 1) t v
section
variable {C : CallF} {n : Nat} {σ : Store}
def Elk (p : Nat) (t : Ty) : Env := { slots := [(0, ⟨false, .ptr p 0⟩)], locs := [(3, 3, 0), (4, 4, 0)], boxes := [(3, bT t), (4, z4)], defers := [] }
theorem lk_step {p m c : Nat} {q : Nat} {es : List (D × D × Nat)} (h : SB σ p m q es c) {t u : Ty} {b j : Nat} (h1 : t.f = 1) (hs : findM (.int .i64 t.n) es = some (some (dTy u, b, j))) : exec C n none a_35 (Elk p t) σ = some (.normal, Elk p u, σ) := by
  have ho := h.obj
  have hma : mapOf σ.oth (.map m) = some es := by simp only [mapOf, h.map, bindO, caseO_some]
  have hkd : keyD false (.int .i64 t.n) = true := rfl
  have b1 : (t.f == 1) = true := by rw [h1]; rfl
  simp only [dTy_eq, cTy_eq] at hs
  simp only [a_35, Elk, bT, z4, sA, Nat.reduceAdd, Nat.reduceSub, Nat.reduceMul, Nat.reduceBEq, Nat.reduceLeDiff, Int.reduceBEq, Int.reduceBNe, Int.reduceLE, Int.reduceLT, Int.reduceGE, Int.reduceGT, Int.reduceNeg, kn, onel, ho, hma, hkd, hs, b1]
theorem lk_free {p m c : Nat} {q : Nat} {es : List (D × D × Nat)} (h : SB σ p m q es c) {t : Ty} (h1 : t.f = 1) (hn : findM (.int .i64 t.n) es = some none) : exec C n none a_35 (Elk p t) σ = some (.ret, { slots := [], locs := [(4, 4, 0)], boxes := [(4, bT t)], defers := [] }, σ) := by
  have ho := h.obj
  have hma : mapOf σ.oth (.map m) = some es := by simp only [mapOf, h.map, bindO, caseO_some]
  have hkd : keyD false (.int .i64 t.n) = true := rfl
  have b1 : (t.f == 1) = true := by rw [h1]; rfl
  simp only [a_35, Elk, bT, z4, sA, Nat.reduceAdd, Nat.reduceSub, Nat.reduceMul, Nat.reduceBEq, Nat.reduceLeDiff, Int.reduceBEq, Int.reduceBNe, Int.reduceLE, Int.reduceLT, Int.reduceGE, Int.reduceGT, Int.reduceNeg, kn, onel, ho, hma, hkd, hn, b1]
theorem lk_done {p : Nat} {t : Ty} (h1 : t.f ≠ 1) : exec C n none a_35 (Elk p t) σ = some (.exit 0, { Elk p t with slots := [(0, ⟨false, .ptr p 0⟩), (9, ⟨false, .bool false⟩)] }, σ) := by
  have b1 : (t.f == 1) = false := beq_false_of_ne h1
  simp only [a_35, Elk, bT, z4, sA, Nat.reduceAdd, Nat.reduceSub, Nat.reduceMul, Nat.reduceBEq, Nat.reduceLeDiff, Int.reduceBEq, Int.reduceBNe, Int.reduceLE, Int.reduceLT, Int.reduceGE, Int.reduceGT, Int.reduceNeg, kn, onel, b1]
end
theorem look_loop {C : CallF} {n0 : Nat} {σ : Store} {p m c : Nat} {q : Nat} {es : List (D × D × Nat)} (h : SB σ p m q es c) : ∀ {k : Nat} {t u : Ty}, Lk es k t u → ∀ n, k < n → (loopN (exec C n0 none a_35) n (Elk p t) σ = some (.ret, { slots := [], locs := [(4, 4, 0)], boxes := [(4, bT u)], defers := [] }, σ)) ∨ (loopN (exec C n0 none a_35) n (Elk p t) σ = some (.exit 0, { Elk p u with slots := [(0, ⟨false, .ptr p 0⟩), (9, ⟨false, .bool false⟩)] }, σ))
  | _, _, _, .done h1, n + 1, _ => .inr (loopN_stop (lk_done h1))
  | _, _, _, .free h1 hn, n + 1, _ => .inl (loopN_ret (lk_free h h1 hn))
  | _, _, _, .step h1 hs hr, n + 1, hk => by
    have ih := look_loop (C := C) (n0 := n0) h hr n (by omega)
    have e := loopN_succ (n := n) (lk_step (C := C) (n := n0) h h1 hs)
    rw [e]
    exact ih
theorem look_run {S : Specs} (hS0 : has S n_56 = false) {σ : Store} {p m c : Nat} {q : Nat} {es : List (D × D × Nat)} (h : SB σ p m q es c) {k : Nat} {t u : Ty} (hl : Lk es k t u) (n : Nat) (hn : k < n) : T S (n + 1) n_56 [.ptr p 0, dTy t] σ = some (.ret ⟨false, dTy u⟩, σ) := by
  rw [T_fun (af := a_98) hS0 rfl rfl]
  have hr := look_loop (C := T S n) (n0 := n) h hl n hn
  unfold Elk at hr
  simp only [bT, z4] at hr
  rw [dTy_eq t, dTy_eq u]
  rcases hr with hr | hr
  · simp only [a_98, sA, Nat.reduceAdd, Nat.reduceSub, Nat.reduceMul, Nat.reduceBEq, Nat.reduceLeDiff, Int.reduceBEq, Int.reduceBNe, Int.reduceLE, Int.reduceLT, Int.reduceGE, Int.reduceGT, Int.reduceNeg, kn, onel, cTy_eq, hr]
  · simp only [a_98, sA, Nat.reduceAdd, Nat.reduceSub, Nat.reduceMul, Nat.reduceBEq, Nat.reduceLeDiff, Int.reduceBEq, Int.reduceBNe, Int.reduceLE, Int.reduceLT, Int.reduceGE, Int.reduceGT, Int.reduceNeg, kn, onel, cTy_eq, hr]
end Go.Fu
namespace Go.Fu
open Go Go.Mx
set_option maxRecDepth 10000
abbrev Kn := List (Int × Ty)
def entK (x : Int × Ty) (b : Nat) : D × D × Nat := (.int .i64 x.1, dTy x.2, b)
def esK : Kn → Nat → List (D × D × Nat)
  | [], _ => []
  | x :: r, b => entK x b :: esK r (b + 1)
theorem esK_snoc : ∀ (l : Kn) (x : Int × Ty) (b : Nat), esK (l ++ [x]) b = esK l b ++ [entK x (b + l.length)]
  | [], x, b => rfl
  | y :: r, x, b => by
    have h : b + 1 + r.length = b + (y :: r).length := by simp only [List.length_cons]; omega
    simp only [List.cons_append, esK, esK_snoc r x (b + 1), h]
def kno (k : Int) : Kn → Option Ty
  | [] => none
  | x :: r => if x.1 = k then some x.2 else kno k r
theorem kno_snoc (k : Int) (y : Int × Ty) : ∀ l : Kn, kno k (l ++ [y]) = match kno k l with
    | some t => some t
    | none => if y.1 = k then some y.2 else none
  | [] => rfl
  | x :: r => by
    simp only [List.cons_append, kno, kno_snoc k y r]
    by_cases h : x.1 = k
    · simp only [if_pos h]
    · simp only [if_neg h]
theorem kno_mem {k : Int} {t : Ty} : ∀ {l : Kn}, kno k l = some t → (k, t) ∈ l
  | x :: r, h => by
    simp only [kno] at h
    by_cases hx : x.1 = k
    · rw [if_pos hx] at h
      cases h
      subst hx
      exact List.mem_cons_self
    · rw [if_neg hx] at h
      exact List.mem_cons_of_mem _ (kno_mem h)
theorem find_none {k : Int} : ∀ {l : Kn} (b : Nat), kno k l = none → findM (.int .i64 k) (esK l b) = some none
  | [], _, _ => rfl
  | x :: r, b, h => by
    simp only [kno] at h
    by_cases hx : x.1 = k
    · rw [if_pos hx] at h
      cases h
    · rw [if_neg hx] at h
      have h1 : (k == x.1) = false := by
        cases e : k == x.1 with
        | false => rfl
        | true => exact absurd (eq_of_beq e).symm hx
      have hs : sameD (.int .i64 k) (.int .i64 x.1) = some (k == x.1) := rfl
      simp only [esK, entK, findM, hs, h1, bindO, caseO_some, ifB_false, find_none (b + 1) h]
      rfl
theorem find_some {k : Int} {t : Ty} : ∀ {l : Kn} (b : Nat), kno k l = some t → ∃ c j, findM (.int .i64 k) (esK l b) = some (some (dTy t, c, j))
  | [], _, h => by cases h
  | x :: r, b, h => by
    have hs : sameD (.int .i64 k) (.int .i64 x.1) = some (k == x.1) := rfl
    simp only [kno] at h
    by_cases hx : x.1 = k
    · rw [if_pos hx] at h
      cases h
      have h1 : (k == x.1) = true := by rw [hx]; simp
      exact ⟨b, 0, by simp only [esK, entK, findM, hs, h1, bindO, caseO_some, ifB_true]⟩
    · rw [if_neg hx] at h
      have h1 : (k == x.1) = false := by
        cases e : k == x.1 with
        | false => rfl
        | true => exact absurd (eq_of_beq e).symm hx
      obtain ⟨c, j, hr⟩ := find_some (b + 1) h
      refine ⟨c, j + 1, ?_⟩
      simp only [esK, entK, findM, hs, h1, bindO, caseO_some, ifB_false, hr]
def lookF : Nat → Kn → Ty → Option Ty
  | 0, _, _ => none
  | d + 1, K, t => if t.f = 1 then (match kno t.n K with
    | none => some t
    | some u => lookF d K u) else some t
theorem lk_of {b : Nat} : ∀ {d : Nat} {K : Kn} {t u : Ty}, lookF d K t = some u → ∃ k, k < d ∧ Lk (esK K b) k t u
  | d + 1, K, t, u, h => by
    simp only [lookF] at h
    by_cases h1 : t.f = 1
    · rw [if_pos h1] at h
      cases hk : kno t.n K with
      | none =>
        rw [hk] at h
        cases h
        exact ⟨0, by omega, .free h1 (find_none b hk)⟩
      | some v =>
        rw [hk] at h
        obtain ⟨k, hk1, hk2⟩ := lk_of (b := b) h
        obtain ⟨c, j, hf⟩ := find_some b hk
        exact ⟨k + 1, by omega, .step h1 hf hk2⟩
    · rw [if_neg h1] at h
      cases h
      exact ⟨0, by omega, .done h1⟩
def anyF (q : Ty → Option Bool) : List Ty → Option Bool
  | [] => some false
  | x :: r => (q x).bind fun b => if b then some true else anyF q r
def withinF : Nat → Kn → Int → Ty → Option Bool
  | 0, _, _, _ => none
  | d + 1, K, n, t => (lookF (d + 1) K t).bind fun u => if u.f = 1 ∧ u.n = n then some true else anyF (withinF d K n) u.as_
def sumF (q : Ty → Option Nat) : Nat → List Ty → Option Nat
  | n, [] => some n
  | n, x :: r => (q x).bind fun v => sumF q (min (n + v) 501) r
def sizeF : Nat → Kn → Ty → Option Nat
  | 0, _, _ => none
  | d + 1, K, t => match (if t.f = 1 then kno t.n K else none) with
    | some x => sizeF d K x
    | none => sumF (sizeF d K) (if t.f = 4 then 0 else 1) t.as_
def FitK (d : Nat) (K : Kn) : Prop := ∀ x ∈ K, ∃ v, sizeF d K (tMeta x.1) = some v ∧ v ≤ 500
inductive BindK (d : Nat) (K : Kn) : Int → Ty → Kn → Prop
  | own {n : Int} {t : Ty} (h1 : t.f = 1) (h2 : t.n = n) : BindK d K n t K
  | less {n : Int} {t : Ty} (h1 : t.f = 1) (h2 : t.n > n) (hw : withinF d K t.n (tMeta n) = some false) (hk : kno t.n K = none) (hs : FitK d (K ++ [(t.n, tMeta n)])) : BindK d K n t (K ++ [(t.n, tMeta n)])
  | put {n : Int} {t : Ty} (h1 : ¬ (t.f = 1 ∧ t.n = n)) (h2 : ¬ (t.f = 1 ∧ t.n > n)) (hw : withinF d K n t = some false) (hk : kno n K = none) (hs : FitK d (K ++ [(n, t)])) : BindK d K n t (K ++ [(n, t)])
mutual
inductive OneK (d : Nat) : Nat → Kn → Ty → Ty → Int → Kn → Prop
  | left {h : Nat} {K K' : Kn} {a b u v : Ty} (ha : lookF d K a = some u) (hb : lookF d K b = some v) (h1 : u.f = 1) (hB : BindK d K u.n v K') : OneK d (h + 1) K a b 0 K'
  | right {h : Nat} {K K' : Kn} {a b u v : Ty} (ha : lookF d K a = some u) (hb : lookF d K b = some v) (h1 : u.f ≠ 1) (h2 : v.f = 1) (hB : BindK d K v.n u K') : OneK d (h + 1) K a b 0 K'
  | form {h : Nat} {K : Kn} {a b u v : Ty} (ha : lookF d K a = some u) (hb : lookF d K b = some v) (h1 : u.f ≠ 1) (h2 : v.f ≠ 1) (h3 : u.f ≠ v.f) : OneK d (h + 1) K a b 31 K
  | name {h : Nat} {K : Kn} {a b u v : Ty} (ha : lookF d K a = some u) (hb : lookF d K b = some v) (h1 : u.f ≠ 1) (h2 : v.f ≠ 1) (h3 : u.f = v.f) (h4 : u.f ≠ 5) (h5 : u.s ≠ v.s) : OneK d (h + 1) K a b 31 K
  | args {h : Nat} {K K' : Kn} {e : Int} {a b u v : Ty} (ha : lookF d K a = some u) (hb : lookF d K b = some v) (h1 : u.f ≠ 1) (h2 : v.f ≠ 1) (h3 : u.f = v.f) (h4 : u.f ≠ 5) (h5 : u.s = v.s) (hl : u.as_.length = v.as_.length) (hL : OneL d h K u.as_ v.as_ e K') : OneK d (h + 1) K a b e K'
inductive OneL (d : Nat) : Nat → Kn → List Ty → List Ty → Int → Kn → Prop
  | nil {h : Nat} {K : Kn} : OneL d h K [] [] 0 K
  | ok {h : Nat} {K K1 K2 : Kn} {e : Int} {a b : Ty} {l r : List Ty} (h1 : OneK d h K a b 0 K1) (h2 : OneL d h K1 l r e K2) : OneL d h K (a :: l) (b :: r) e K2
  | no {h : Nat} {K K1 : Kn} {e : Int} {a b : Ty} {l r : List Ty} (h1 : OneK d h K a b e K1) (he : e ≠ 0) : OneL d h K (a :: l) (b :: r) e K1
end
def mapF (q : Ty → Option Ty) : List Ty → Option (List Ty)
  | [] => some []
  | x :: r => (q x).bind fun y => (mapF q r).bind fun l => some (y :: l)
def applyF : Nat → Kn → Ty → Option Ty
  | 0, _, _ => none
  | d + 1, K, t => (lookF (d + 1) K t).bind fun u => (mapF (applyF d K) u.as_).bind fun l => some (.mk u.f u.n u.s l)
end Go.Fu
namespace Go.Fu
open Go Go.Mx
set_option maxRecDepth 100000
set_option maxHeartbeats 1000000
def tL (t : Ty) : Ty := tApp (tCon [76]) t
def subM (f : Ty) : List Ty → Ty
  | [] => f
  | x :: _ => if f.f = 2 then x else tL x
def sp_psub : List D → Cell → Prop := fun ds c => ∀ f vs ts, ds = [dTy f, dSs vs, dTl ts] → c = ⟨false, dTy (subM f ts)⟩
theorem call_psub {S : Specs} (hS : aget S n_5 = some sp_psub) {f : Ty} {vs : List Tx} {ts : List Ty} (h : OkP n_5 [dTy f, dSs vs, dTl ts] ⟨false, dTy (subM f ts)⟩) (n : Nat) (σ : Store) : T S (n + 1) n_5 [dTy f, dSs vs, dTl ts] σ = some (.ret ⟨false, dTy (subM f ts)⟩, σ) := by
  obtain ⟨c, g1, g2⟩ := T_orc (S := S) hS rfl (s := sp_psub) (c := ⟨false, dTy (subM f ts)⟩) (fun f' vs' ts' e => by
    simp only [List.cons.injEq, and_true] at e
    rw [dTy_inj e.1, dTl_inj e.2.2]) h
  rw [g2, g1 _ _ _ rfl]
theorem psub_var (k : Int) : OkP n_5 [dTy (tVar [97]), dSs [[97]], dTl [tMeta k]] ⟨false, dTy (tMeta k)⟩ := closed 20 rfl rfl rfl (σ' := σ0) (by kernel_rfl)
theorem psub_list (k : Int) : OkP n_5 [dTy (tL (tVar [97])), dSs [[97]], dTl [tMeta k]] ⟨false, dTy (tL (tMeta k))⟩ := closed 20 rfl rfl rfl (σ' := σ0) (by kernel_rfl)
theorem psub_0 : OkP n_5 [dTy (wt 0), dSs [], dTl []] ⟨false, dTy (wt 0)⟩ := closed 20 rfl rfl rfl (σ' := σ0) (by kernel_rfl)
theorem psub_1 : OkP n_5 [dTy (wt 1), dSs [], dTl []] ⟨false, dTy (wt 1)⟩ := closed 20 rfl rfl rfl (σ' := σ0) (by kernel_rfl)
theorem psub_3 : OkP n_5 [dTy (wt 3), dSs [], dTl []] ⟨false, dTy (wt 3)⟩ := closed 20 rfl rfl rfl (σ' := σ0) (by kernel_rfl)
end Go.Fu
namespace Go.Fu
open Go Go.Mx
set_option maxRecDepth 100000
set_option maxHeartbeats 4000000
structure Fr (σ σ' : Store) : Prop where
  le : σ.next ≤ σ'.next
  objs : ∀ j, j < σ.next → aget σ'.objs j = aget σ.objs j
  oth : ∀ j, j < σ.next → aget σ'.oth j = aget σ.oth j
  tys : ∀ j, j < σ.next → aget σ'.tys j = aget σ.tys j
theorem Fr.refl (σ : Store) : Fr σ σ := ⟨Nat.le_refl _, fun _ _ => rfl, fun _ _ => rfl, fun _ _ => rfl⟩
theorem Fr.trans {a b c : Store} (h : Fr a b) (k : Fr b c) : Fr a c :=
  ⟨Nat.le_trans h.le k.le, fun j hj => (k.objs j (Nat.lt_of_lt_of_le hj h.le)).trans (h.objs j hj), fun j hj => (k.oth j (Nat.lt_of_lt_of_le hj h.le)).trans (h.oth j hj), fun j hj => (k.tys j (Nat.lt_of_lt_of_le hj h.le)).trans (h.tys j hj)⟩
theorem SB.fr {σ σ' : Store} {p m n c : Nat} {es : List (D × D × Nat)} (h : SB σ p m n es c) (hf : Fr σ σ') : SB σ' p m n es c :=
  ⟨(hf.objs _ h.lt).trans h.obj, (hf.oth _ h.ltm).trans h.map, Nat.lt_of_lt_of_le h.lt hf.le, Nat.lt_of_lt_of_le h.ltm hf.le⟩
section
variable {C : CallF} {n : Nat} {σ : Store}
def Eea (g : D) (L : List Ty) (i : Nat) (acc : List Ty) (o : Bool) : Env := { slots := [(1, ⟨false, g⟩), (5, ⟨o, dTl acc⟩), (8, ⟨false, dTl L⟩), (9, ⟨false, .int .i64 L.length⟩), (10, ⟨false, .int .i64 i⟩)], locs := [], boxes := [], defers := [] }
theorem ea_step (g : D) (fid : Nat) (pre : List D) (hg : D.fn? g = some (fid, pre, [])) (L : List Ty) (i : Nat) (hi : i < L.length) (hL : L.length < 1000000) (acc : List Ty) (o : Bool) (ho : acc ≠ [] → o = true) (ha : acc.length < 1000000) (u : Ty) (h1 : C fid (pre ++ [dTy L[i]]) σ = some (.ret ⟨false, dTy u⟩, σ)) : exec C n none a_84 (Eea g L i acc o) σ = some (.normal, Eea g L (i + 1) (acc ++ [u]) true, σ) := by
  have hx := idx_T L i hi
  have hlt : ((i : Int) < L.length) := by omega
  have w := wrap64_succ (i := i) (by omega)
  have happ := app_T acc u o ho (by omega)
  generalize L[i] = v at *
  simp only [dTy_eq, cTy_eq] at h1 happ hx
  simp only [a_84, Eea, sA, Nat.reduceAdd, Nat.reduceSub, Nat.reduceMul, Nat.reduceBEq, Nat.reduceLeDiff, Int.reduceBEq, Int.reduceBNe, Int.reduceLE, Int.reduceLT, Int.reduceGE, Int.reduceGT, Int.reduceNeg, kn, onel, hx, hlt, w, hg, h1, happ, natI]
theorem ea_end (g : D) (L : List Ty) (acc : List Ty) (o : Bool) : exec C n none a_84 (Eea g L L.length acc o) σ = some (.exit 0, { Eea g L L.length acc o with slots := [(1, ⟨false, g⟩), (5, ⟨o, dTl acc⟩), (8, ⟨false, dTl L⟩), (9, ⟨false, .int .i64 L.length⟩), (10, ⟨false, .int .i64 L.length⟩), (11, ⟨false, .bool false⟩)] }, σ) := by
  have hlt : ¬ ((L.length : Int) < L.length) := by omega
  simp only [a_84, Eea, sA, Nat.reduceAdd, Nat.reduceSub, Nat.reduceMul, Nat.reduceBEq, Nat.reduceLeDiff, Int.reduceBEq, Int.reduceBNe, Int.reduceLE, Int.reduceLT, Int.reduceGE, Int.reduceGT, Int.reduceNeg, kn, onel, hlt]
end
theorem mapF_len {q : Ty → Option Ty} : ∀ {l r : List Ty}, mapF q l = some r → r.length = l.length
  | [], _, h => by
    cases h
    rfl
  | x :: l, r, h => by
    simp only [mapF] at h
    cases h1 : q x with
    | none => rw [h1] at h; cases h
    | some y =>
      rw [h1] at h
      simp only [Option.bind_some] at h
      cases h2 : mapF q l with
      | none => rw [h2] at h; cases h
      | some s =>
        rw [h2] at h
        cases h
        simp only [List.length_cons, mapF_len h2]
theorem mapF_get {q : Ty → Option Ty} : ∀ {l r : List Ty}, mapF q l = some r → ∀ (i : Nat) (h : i < l.length) (h' : i < r.length), q l[i] = some r[i]
  | [], _, _, i, h, _ => absurd h (by simp)
  | x :: l, r, h, i, hi, hi' => by
    simp only [mapF] at h
    cases h1 : q x with
    | none => rw [h1] at h; cases h
    | some y =>
      rw [h1] at h
      simp only [Option.bind_some] at h
      cases h2 : mapF q l with
      | none => rw [h2] at h; cases h
      | some s =>
        rw [h2] at h
        cases h
        cases i with
        | zero => exact h1
        | succ i => exact mapF_get h2 i (by simpa using hi) (by simpa using hi')
theorem bound_all (k : Nat) (P : Nat → Nat → Prop) (h : ∀ i, i < k → ∃ N, ∀ n, N ≤ n → P i n) : ∃ N, ∀ i, i < k → ∀ n, N ≤ n → P i n := by
  induction k with
  | zero => exact ⟨0, fun i hi => absurd hi (by omega)⟩
  | succ k ih =>
    obtain ⟨N1, h1⟩ := ih fun i hi => h i (by omega)
    obtain ⟨N2, h2⟩ := h k (by omega)
    refine ⟨N1 + N2, fun i hi n hn => ?_⟩
    by_cases e : i = k
    · subst e
      exact h2 n (by omega)
    · exact h1 i (by omega) n (by omega)
def UnifyS (S : Specs) : Prop := has S n_56 = false ∧ has S n_150 = false ∧ has S n_9 = false ∧ has S n_106 = false ∧ has S n_141 = false ∧ has S n_146 = false ∧ has S n_138 = false ∧ has S n_63 = false ∧ has S n_140 = false ∧ has S n_139 = false ∧ has S n_92 = false ∧ has S n_55 = false ∧ has S n_144 = false ∧ has S n_16 = false ∧ has S n_30 = false ∧ aget S n_27 = some sp_meta ∧ aget S n_40 = some sp_App
theorem each_run {S : Specs} (hS : UnifyS S) (g : D) (fid : Nat) (pre : List D) (hg : D.fn? g = some (fid, pre, [])) (L R : List Ty) (σ : Store) (hL : L.length < 1000000) (hl : L.length = R.length) (N0 : Nat) (h : ∀ i (hi : i < L.length) (hj : i < R.length), ∀ n, N0 ≤ n → T S n fid (pre ++ [dTy L[i]]) σ = some (.ret ⟨false, dTy R[i]⟩, σ)) : ∀ n, N0 + L.length + 5 ≤ n → T S n n_150 [dTl L, g] σ = some (.ret ⟨ow L.length, dTl R⟩, σ) := by
  intro n hn
  obtain ⟨n, rfl⟩ : ∃ k, n = k + 1 := ⟨n - 1, by omega⟩
  rw [T_fun (af := a_135) hS.2.1 rfl rfl]
  have hlen := len_T L
  have hr := loopN_run (body := exec (T S n) n none a_84) (fun i => Eea g L i (R.take i) (ow i)) (fun _ => σ) L.length (r := _) (fun _ _ h => by cases h) (fun i hi => by
    have hj : i < R.length := by omega
    show _ = some (_, Eea g L (i + 1) (R.take (i + 1)) (ow (i + 1)), σ)
    rw [← take_snoc R i hj]
    exact ea_step g fid pre hg L i hi hL (R.take i) (ow i) ow_ne (by rw [List.length_take]; omega) R[i] (h i hi hj n (by omega))) (ea_end g L _ _) 0 n (by omega) (by omega)
  simp only [Eea, zeroI, hl, List.take_length, List.take_zero, ow_zero] at hr
  rw [← hl] at hr
  have e0 : dTl [] = .nils := rfl
  rw [e0] at hr
  simp only [a_135, sA, Nat.reduceAdd, Nat.reduceSub, Nat.reduceMul, Nat.reduceBEq, Nat.reduceLeDiff, Int.reduceBEq, Int.reduceBNe, Int.reduceLE, Int.reduceLT, Int.reduceGE, Int.reduceGT, Int.reduceNeg, kn, onel, hlen, hr]
theorem fine_look {K : Kn} (hK : ∀ x ∈ K, Fine x.2) : ∀ {d : Nat} {t u : Ty}, Fine t → lookF d K t = some u → Fine u
  | d + 1, t, u, ht, h => by
    simp only [lookF] at h
    by_cases h1 : t.f = 1
    · rw [if_pos h1] at h
      cases hk : kno t.n K with
      | none =>
        rw [hk] at h
        cases h
        exact ht
      | some v =>
        rw [hk] at h
        exact fine_look hK (hK _ (kno_mem hk)) h
    · rw [if_neg h1] at h
      cases h
      exact ht
theorem look_s {S : Specs} (hS : UnifyS S) {σ : Store} {p m q c : Nat} {K : Kn} (h : SB σ p m q (esK K 0) c) {d : Nat} {t u : Ty} (hq : lookF d K t = some u) (n : Nat) (hn : d ≤ n) : T S (n + 1) n_56 [.ptr p 0, dTy t] σ = some (.ret ⟨false, dTy u⟩, σ) := by
  obtain ⟨k, hk, hl⟩ := lk_of (b := 0) hq
  exact look_run hS.1 h hl n (by omega)
theorem apply_run {S : Specs} (hS : UnifyS S) {σ : Store} {p m q c : Nat} {K : Kn} (hK : ∀ x ∈ K, Fine x.2) (h : SB σ p m q (esK K 0) c) : ∀ (d : Nat) (t u : Ty), Fine t → applyF d K t = some u → ∃ N, ∀ n, N ≤ n → T S n n_9 [.ptr p 0, dTy t] σ = some (.ret ⟨false, dTy u⟩, σ)
  | 0, _, _, _, hq => by cases hq
  | d + 1, t, u, ht, hq => by
    simp only [applyF] at hq
    cases h1 : lookF (d + 1) K t with
    | none => rw [h1] at hq; cases hq
    | some v =>
      rw [h1] at hq
      simp only [Option.bind_some] at hq
      have hv := fine_look hK ht h1
      cases h2 : mapF (applyF d K) v.as_ with
      | none => rw [h2] at hq; cases hq
      | some l =>
        rw [h2] at hq
        cases hq
        have hlen := mapF_len h2
        obtain ⟨N0, hN⟩ := bound_all v.as_.length (fun i n => ∀ (hi : i < v.as_.length) (hj : i < l.length), T S n n_9 [.ptr p 0, dTy v.as_[i]] σ = some (.ret ⟨false, dTy l[i]⟩, σ)) (fun i hi => by
          obtain ⟨N, hN⟩ := apply_run hS hK h d v.as_[i] l[i] (hv.sub _ (List.getElem_mem hi)) (mapF_get h2 i hi (by omega))
          exact ⟨N, fun n hn _ _ => hN n hn⟩)
        have hfew := hv.few
        have he := each_run hS (.fn (.func n_9) [.ptr p 0] []) n_9 [.ptr p 0] rfl v.as_ l σ (by omega) hlen.symm N0 (fun i hi hj n hn => hN i hi n hn hi hj)
        refine ⟨N0 + v.as_.length + d + 20, fun n hn => ?_⟩
        obtain ⟨n, rfl⟩ : ∃ k, n = k + 2 := ⟨n - 2, by omega⟩
        rw [T_fun (af := a_131) hS.2.2.1 rfl rfl]
        have hl := look_s hS h h1 n (by omega)
        have he := he (n + 1) (by omega)
        have eu : dTy (.mk v.f v.n v.s l) = .agg [.int .i64 v.f, .int .i64 v.n, .str v.s, dTl l] := dTy_eq _
        rw [eu]
        simp only [dTy_eq, cTy_eq] at hl
        generalize ow v.as_.length = o at *
        simp only [a_131, sA, Nat.reduceAdd, Nat.reduceSub, Nat.reduceMul, Nat.reduceBEq, Nat.reduceLeDiff, Int.reduceBEq, Int.reduceBNe, Int.reduceLE, Int.reduceLT, Int.reduceGE, Int.reduceGT, Int.reduceNeg, kn, onel, dTy_eq, cTy_eq, hl, he]
end Go.Fu
namespace Go.Fu
open Go Go.Mx
set_option maxRecDepth 100000
set_option maxHeartbeats 1000000
section
variable {C : CallF} {n : Nat} {σ : Store}
def Exg (L : List Ty) (g : D) (i : Nat) : Env := { slots := [(0, ⟨false, dTl L⟩), (1, ⟨false, g⟩), (7, ⟨false, .int .i64 L.length⟩), (8, ⟨false, .int .i64 i⟩)], locs := [], boxes := [], defers := [] }
theorem xg_step (L : List Ty) (g : D) (fid : Nat) (ca : List D) (hg : D.fn? g = some (fid, [], ca)) (i : Nat) (h : i < L.length) (hl : L.length < 1000000000) {σ' : Store} (h1 : C fid (dTy L[i] :: ca) σ = some (.ret ⟨false, .bool false⟩, σ')) : exec C n none a_45 (Exg L g i) σ = some (.normal, Exg L g (i + 1), σ') := by
  have hlt : ((i : Int) < (L.length : Int)) := by omega
  have w := wrap64_succ (i := i) (by omega)
  have hx := idx_T L i h
  generalize L[i] = f at hx h1
  simp only [dTy_eq, cTy_eq] at hx h1
  simp only [a_45, Exg, sA, Nat.reduceAdd, Nat.reduceSub, Nat.reduceMul, Nat.reduceBEq, Nat.reduceLeDiff, Int.reduceBEq, Int.reduceBNe, Int.reduceLE, Int.reduceLT, Int.reduceGE, Int.reduceGT, Int.reduceNeg, kn, onel, hlt, natI, hx, hg, h1, w]
theorem xg_stop (L : List Ty) (g : D) (fid : Nat) (ca : List D) (hg : D.fn? g = some (fid, [], ca)) (i : Nat) (h : i < L.length) {σ' : Store} (h1 : C fid (dTy L[i] :: ca) σ = some (.ret ⟨false, .bool true⟩, σ')) : exec C n none a_45 (Exg L g i) σ = some (.ret, { slots := [(4, ⟨false, .int .i64 i⟩)], locs := [], boxes := [], defers := [] }, σ') := by
  have hlt : ((i : Int) < (L.length : Int)) := by omega
  have hx := idx_T L i h
  generalize L[i] = f at hx h1
  simp only [dTy_eq, cTy_eq] at hx h1
  simp only [a_45, Exg, sA, Nat.reduceAdd, Nat.reduceSub, Nat.reduceMul, Nat.reduceBEq, Nat.reduceLeDiff, Int.reduceBEq, Int.reduceBNe, Int.reduceLE, Int.reduceLT, Int.reduceGE, Int.reduceGT, Int.reduceNeg, kn, onel, hlt, natI, hx, hg, h1]
theorem xg_end (L : List Ty) (g : D) : exec C n none a_45 (Exg L g L.length) σ = some (.exit 0, { slots := [(0, ⟨false, dTl L⟩), (1, ⟨false, g⟩), (7, ⟨false, .int .i64 L.length⟩), (8, ⟨false, .int .i64 L.length⟩), (9, ⟨false, .bool false⟩)], locs := [], boxes := [], defers := [] }, σ) := by
  have hlt : ¬ ((L.length : Int) < (L.length : Int)) := by omega
  simp only [a_45, Exg, sA, Nat.reduceAdd, Nat.reduceSub, Nat.reduceMul, Nat.reduceBEq, Nat.reduceLeDiff, Int.reduceBEq, Int.reduceBNe, Int.reduceLE, Int.reduceLT, Int.reduceGE, Int.reduceGT, Int.reduceNeg, kn, onel, hlt]
end
def xgR (L : List Ty) (g : D) (σ : Store) : Option Nat → AExit × Env × Store
  | none => (.exit 0, { slots := [(0, ⟨false, dTl L⟩), (1, ⟨false, g⟩), (7, ⟨false, .int .i64 L.length⟩), (8, ⟨false, .int .i64 L.length⟩), (9, ⟨false, .bool false⟩)], locs := [], boxes := [], defers := [] }, σ)
  | some i => (.ret, { slots := [(4, ⟨false, .int .i64 i⟩)], locs := [], boxes := [], defers := [] }, σ)
theorem xg_loop {S : Specs} (L : List Ty) (g : D) (fid : Nat) (ca : List D) (hg : D.fn? g = some (fid, [], ca)) (hL : L.length < 1000000) (q : Ty → Option Bool) (Inv : Store → Prop) (hI : ∀ σ σ', Inv σ → Fr σ σ' → Inv σ')
    (hC : ∀ i (hi : i < L.length) b, q L[i] = some b → ∀ σ, Inv σ → ∃ σ', Fr σ σ' ∧ ∃ N, ∀ n, N ≤ n → T S n fid (dTy L[i] :: ca) σ = some (.ret ⟨false, .bool b⟩, σ')) (b : Bool) : ∀ (k i : Nat), i + k = L.length → anyF q (L.drop i) = some b → ∀ σ, Inv σ → ∃ σ' r, Fr σ σ' ∧ r.isSome = b ∧ ∃ N, ∀ n m, N ≤ n → N ≤ m → loopN (exec (T S n) n none a_45) m (Exg L g i) σ = some (xgR L g σ' r)
  | 0, i, h, ha, σ, hσ => by
    have : i = L.length := by omega
    subst this
    rw [List.drop_length] at ha
    cases ha
    refine ⟨σ, none, Fr.refl σ, rfl, 1, fun n m _ hm => ?_⟩
    obtain ⟨m, rfl⟩ : ∃ k, m = k + 1 := ⟨m - 1, by omega⟩
    exact loopN_stop (xg_end L g)
  | k + 1, i, h, ha, σ, hσ => by
    have hi : i < L.length := by omega
    rw [List.drop_eq_getElem_cons hi] at ha
    simp only [anyF] at ha
    cases h1 : q L[i] with
    | none => rw [h1] at ha; cases ha
    | some b1 =>
      rw [h1] at ha
      simp only [Option.bind_some] at ha
      obtain ⟨σ1, f1, N1, r1⟩ := hC i hi b1 h1 σ hσ
      cases b1 with
      | true =>
        cases ha
        refine ⟨σ1, some i, f1, rfl, N1 + 1, fun n m hn hm => ?_⟩
        obtain ⟨m, rfl⟩ : ∃ k, m = k + 1 := ⟨m - 1, by omega⟩
        exact loopN_ret (xg_stop L g fid ca hg i hi (r1 n (by omega)))
      | false =>
        obtain ⟨σ2, r, f2, hr, N2, r2⟩ := xg_loop L g fid ca hg hL q Inv hI hC b k (i + 1) (by omega) (by simpa using ha) σ1 (hI _ _ hσ f1)
        refine ⟨σ2, r, f1.trans f2, hr, N1 + N2 + 1, fun n m hn hm => ?_⟩
        obtain ⟨m, rfl⟩ : ∃ k, m = k + 1 := ⟨m - 1, by omega⟩
        rw [loopN_succ (xg_step L g fid ca hg i hi (by omega) (r1 n (by omega)))]
        exact r2 n m (by omega) (by omega)
theorem cg_run {S : Specs} (hS : UnifyS S) (L : List Ty) (g : D) (fid : Nat) (ca : List D) (hg : D.fn? g = some (fid, [], ca)) (hL : L.length < 1000000) (q : Ty → Option Bool) (Inv : Store → Prop) (hI : ∀ σ σ', Inv σ → Fr σ σ' → Inv σ')
    (hC : ∀ i (hi : i < L.length) b, q L[i] = some b → ∀ σ, Inv σ → ∃ σ', Fr σ σ' ∧ ∃ N, ∀ n, N ≤ n → T S n fid (dTy L[i] :: ca) σ = some (.ret ⟨false, .bool b⟩, σ')) (b : Bool) (ha : anyF q L = some b) (σ : Store) (hσ : Inv σ) : ∃ σ', Fr σ σ' ∧ ∃ N, ∀ n, N ≤ n → T S n n_146 [dTl L, g] σ = some (.ret ⟨false, .bool b⟩, σ') := by
  obtain ⟨σ', r, f, hr, N, h⟩ := xg_loop L g fid ca hg hL q Inv hI hC b L.length 0 (by omega) (by simpa using ha) σ hσ
  refine ⟨σ', f, N + 2, fun n hn => ?_⟩
  obtain ⟨n, rfl⟩ : ∃ k, n = k + 2 := ⟨n - 2, by omega⟩
  have h := h n n (by omega) (by omega)
  simp only [Exg, zeroI] at h
  have hlen := len_T L
  rw [T_fun (af := a_97) hS.2.2.2.2.2.1 rfl rfl]
  cases r with
  | none =>
    have hb : b = false := hr.symm
    subst hb
    simp only [xgR] at h
    have h2 : T S (n + 1) n_138 [dTl L, g] σ = some (.ret ⟨false, .int .i64 (-1)⟩, σ') := by
      rw [T_fun (af := a_78) hS.2.2.2.2.2.2.1 rfl rfl]
      simp only [a_78, sA, Nat.reduceAdd, Nat.reduceSub, Nat.reduceMul, Nat.reduceBEq, Nat.reduceLeDiff, Int.reduceBEq, Int.reduceBNe, Int.reduceLE, Int.reduceLT, Int.reduceGE, Int.reduceGT, Int.reduceNeg, kn, onel, hlen, h]
    have hv : ¬ (-1 : Int) ≥ 0 := by omega
    simp only [a_97, sA, Nat.reduceAdd, Nat.reduceSub, Nat.reduceMul, Nat.reduceBEq, Nat.reduceLeDiff, Int.reduceBEq, Int.reduceBNe, Int.reduceLE, Int.reduceLT, Int.reduceGE, Int.reduceGT, Int.reduceNeg, kn, onel, h2, hv]
  | some i =>
    have hb : b = true := hr.symm
    subst hb
    simp only [xgR] at h
    have h2 : T S (n + 1) n_138 [dTl L, g] σ = some (.ret ⟨false, .int .i64 i⟩, σ') := by
      rw [T_fun (af := a_78) hS.2.2.2.2.2.2.1 rfl rfl]
      simp only [a_78, sA, Nat.reduceAdd, Nat.reduceSub, Nat.reduceMul, Nat.reduceBEq, Nat.reduceLeDiff, Int.reduceBEq, Int.reduceBNe, Int.reduceLE, Int.reduceLT, Int.reduceGE, Int.reduceGT, Int.reduceNeg, kn, onel, hlen, h]
    have hv : (i : Int) ≥ 0 := by omega
    simp only [a_97, sA, Nat.reduceAdd, Nat.reduceSub, Nat.reduceMul, Nat.reduceBEq, Nat.reduceLeDiff, Int.reduceBEq, Int.reduceBNe, Int.reduceLE, Int.reduceLT, Int.reduceGE, Int.reduceGT, Int.reduceNeg, kn, onel, h2, hv]
theorem fr_GA (σ : Store) (t : Nat) (cs : List Cell) : Fr σ (GA σ t cs) :=
  ⟨Nat.le_succ _, fun j hj => agC _ _ _ _ (by omega), fun _ _ => rfl, fun j hj => agC _ _ _ _ (by omega)⟩
theorem fr_GM (σ : Store) (x : Oth) : Fr σ (GM σ x) :=
  ⟨Nat.le_succ _, fun _ _ => rfl, fun j hj => agC _ _ _ _ (by omega), fun _ _ => rfl⟩
theorem within_run {S : Specs} (hS : UnifyS S) {p m q c : Nat} {K : Kn} (hK : ∀ x ∈ K, Fine x.2) {k : Int} : ∀ (d : Nat) (t : Ty) (b : Bool), Fine t → withinF d K k t = some b → ∀ σ, SB σ p m q (esK K 0) c → ∃ σ', Fr σ σ' ∧ ∃ N, ∀ n, N ≤ n → T S n n_106 [.ptr p 0, .int .i64 k, dTy t] σ = some (.ret ⟨false, .bool b⟩, σ')
  | 0, _, _, _, h, _, _ => by cases h
  | d + 1, t, b, ht, h, σ, hB => by
    simp only [withinF] at h
    cases h1 : lookF (d + 1) K t with
    | none => rw [h1] at h; cases h
    | some u =>
      rw [h1] at h
      simp only [Option.bind_some] at h
      have hu := fine_look hK ht h1
      obtain ⟨τ, hτ⟩ : ∃ τ, τ = GA (GA σ t_107 [⟨false, .ptr p 0⟩]) t_int [⟨false, .int .i64 k⟩] := ⟨_, rfl⟩
      have fτ : Fr σ τ := by rw [hτ]; exact (fr_GA _ _ _).trans (fr_GA _ _ _)
      have hB1 := hB.fr fτ
      have o1 : aget τ.objs σ.next = some [⟨false, .ptr p 0⟩] := by
        rw [hτ]
        exact (agC _ _ _ _ (by show σ.next + 1 ≠ σ.next; omega)).trans (agS _ _ _)
      have o2 : aget τ.objs (σ.next + 1) = some [⟨false, .int .i64 k⟩] := by
        rw [hτ]
        exact agS _ _ _
      have n2 : τ.next = σ.next + 2 := by rw [hτ]; rfl
      have hg1 : memOp (.gbox t_107 (.tmp 0)) { slots := [(0, ⟨false, .ptr p 0⟩), (1, ⟨false, .int .i64 k⟩), (2, ⟨false, dTy t⟩)], locs := [], boxes := [], defers := [] } σ = some (.ptr σ.next 0, GA σ t_107 [⟨false, .ptr p 0⟩]) := rfl
      have hg2 : memOp (.gbox t_int (.tmp 1)) { slots := [(0, ⟨false, .ptr p 0⟩), (1, ⟨false, .int .i64 k⟩), (2, ⟨false, dTy t⟩), (3, ⟨false, .ptr σ.next 0⟩)], locs := [], boxes := [], defers := [] } (GA σ t_107 [⟨false, .ptr p 0⟩]) = some (.ptr (σ.next + 1) 0, τ) := by rw [hτ]; rfl
      by_cases hc : u.f = 1 ∧ u.n = k
      · rw [if_pos hc] at h
        cases h
        have b1 : (u.f == 1) = true := by rw [hc.1]; rfl
        have b2 : (u.n == k) = true := by rw [hc.2]; simp
        refine ⟨τ, fτ, d + 20, fun n hn => ?_⟩
        obtain ⟨n, rfl⟩ : ∃ k, n = k + 2 := ⟨n - 2, by omega⟩
        rw [T_fun (af := a_59) hS.2.2.2.1 rfl rfl]
        have hl := look_s hS hB1 h1 n (by omega)
        simp only [dTy_eq, cTy_eq] at hl hg1 hg2
        simp only [a_59, sA, Nat.reduceAdd, Nat.reduceSub, Nat.reduceMul, Nat.reduceBEq, Nat.reduceLeDiff, Int.reduceBEq, Int.reduceBNe, Int.reduceLE, Int.reduceLT, Int.reduceGE, Int.reduceGT, Int.reduceNeg, kn, onel, dTy_eq, cTy_eq, memE, hg1, hg2, hl, o1, o2, b1, b2]
      · rw [if_neg hc] at h
        have hI : ∀ σ1 σ2, (SB σ1 p m q (esK K 0) c ∧ aget σ1.objs σ.next = some [⟨false, .ptr p 0⟩] ∧ aget σ1.objs (σ.next + 1) = some [⟨false, .int .i64 k⟩] ∧ σ.next + 2 ≤ σ1.next) → Fr σ1 σ2 → (SB σ2 p m q (esK K 0) c ∧ aget σ2.objs σ.next = some [⟨false, .ptr p 0⟩] ∧ aget σ2.objs (σ.next + 1) = some [⟨false, .int .i64 k⟩] ∧ σ.next + 2 ≤ σ2.next) := by
          rintro σ1 σ2 ⟨g1, g2, g3, g4⟩ f
          exact ⟨g1.fr f, (f.objs _ (by omega)).trans g2, (f.objs _ (by omega)).trans g3, Nat.le_trans g4 f.le⟩
        obtain ⟨σ', f', N, hN⟩ := cg_run hS u.as_ (.fn (.func n_141) [] [.ptr σ.next 0, .ptr (σ.next + 1) 0]) n_141 [.ptr σ.next 0, .ptr (σ.next + 1) 0] rfl (by have := hu.few; omega) (withinF d K k) _ hI (fun i hi b1 hb1 σ1 hσ1 => by
          obtain ⟨g1, g2, g3, g4⟩ := hσ1
          obtain ⟨σ2, f2, N2, r2⟩ := within_run hS hK d u.as_[i] b1 (hu.sub _ (List.getElem_mem hi)) hb1 σ1 g1
          refine ⟨σ2, f2, N2 + 1, fun n hn => ?_⟩
          obtain ⟨n, rfl⟩ : ∃ k, n = k + 1 := ⟨n - 1, by omega⟩
          have r2 := r2 n (by omega)
          rw [T_fun (af := a_134) hS.2.2.2.2.1 rfl rfl]
          generalize u.as_[i] = v at *
          simp only [dTy_eq, cTy_eq] at r2
          simp only [a_134, sA, Nat.reduceAdd, Nat.reduceSub, Nat.reduceMul, Nat.reduceBEq, Nat.reduceLeDiff, Int.reduceBEq, Int.reduceBNe, Int.reduceLE, Int.reduceLT, Int.reduceGE, Int.reduceGT, Int.reduceNeg, kn, onel, dTy_eq, cTy_eq, g2, g3, r2]) b h τ ⟨hB1, o1, o2, by omega⟩
        refine ⟨σ', fτ.trans f', N + d + 20, fun n hn => ?_⟩
        obtain ⟨n, rfl⟩ : ∃ k, n = k + 2 := ⟨n - 2, by omega⟩
        rw [T_fun (af := a_59) hS.2.2.2.1 rfl rfl]
        have hl := look_s hS hB1 h1 n (by omega)
        have hN := hN (n + 1) (by omega)
        simp only [dTy_eq, cTy_eq] at hl hg1 hg2
        cases b1 : u.f == 1 with
        | true =>
          have b2 : (u.n == k) = false := by
            cases e : u.n == k with
            | false => rfl
            | true => exact absurd ⟨eq_of_beq b1, eq_of_beq e⟩ hc
          simp only [a_59, sA, Nat.reduceAdd, Nat.reduceSub, Nat.reduceMul, Nat.reduceBEq, Nat.reduceLeDiff, Int.reduceBEq, Int.reduceBNe, Int.reduceLE, Int.reduceLT, Int.reduceGE, Int.reduceGT, Int.reduceNeg, kn, onel, dTy_eq, cTy_eq, memE, hg1, hg2, hl, o1, o2, b1, b2, hN]
        | false =>
          simp only [a_59, sA, Nat.reduceAdd, Nat.reduceSub, Nat.reduceMul, Nat.reduceBEq, Nat.reduceLeDiff, Int.reduceBEq, Int.reduceBNe, Int.reduceLE, Int.reduceLT, Int.reduceGE, Int.reduceGT, Int.reduceNeg, kn, onel, dTy_eq, cTy_eq, memE, hg1, hg2, hl, o1, o2, b1, hN]
end Go.Fu
