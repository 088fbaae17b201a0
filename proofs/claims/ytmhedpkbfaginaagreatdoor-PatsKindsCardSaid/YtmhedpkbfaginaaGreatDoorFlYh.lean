/-
  A type's kind.
-/
import Derived.Test.YtmhedpkbfaginaaGreatDoorFlKc
import Derived.Test.YtmhedpkbfaginaaGreatDoorFlX
set_option maxHeartbeats 4000000
set_option linter.unusedSimpArgs false
set_option linter.unusedVariables false
set_option linter.unusedSectionVars false
namespace Go.Fu
open Go Go.Mx
set_option maxRecDepth 100000
set_option maxHeartbeats 1000000
inductive KO (vs : List Tx) (ar : List (Tx × Nat)) : Ty → Nat → Prop
  | var {x : Tx} (h : x ∈ vs) : KO vs ar (tVar x) 0
  | con {s : Tx} {j : Nat} (h : (s, j) ∈ ar) (hj : j < 4) : KO vs ar (tCon s) j
  | app {f a : Ty} {j : Nat} (hf : KO vs ar f (j + 1)) (ha : KO vs ar a 0) (hj : j < 4) : KO vs ar (tApp f a) j
theorem knamed_run {S : Specs} (hS : KindS S) {σ : Store} {md c b i j : Nat} {es : List (D × D × Nat)} {s : Tx} (hm : aget σ.oth md = some (.map es c)) (hf : findM (.str s) es = some (some (kcD j, b, i))) (n : Nat) : T S (n + 1) n_126 [.map md, .str s] σ = some (.ret ⟨false, kcD j⟩, σ) := by
  have hma : mapOf σ.oth (.map md) = some es := by simp only [mapOf, hm, bindO, caseO_some]
  have hkd : keyD true (.str s) = true := rfl
  rw [T_fun (af := a_89) hS.2.2.2.2.2.2.2.2.2.2.2.2.1 rfl rfl]
  rw [kcD_eq] at hf ⊢
  simp only [a_89, sA, Nat.reduceAdd, Nat.reduceSub, Nat.reduceMul, Nat.reduceBEq, Nat.reduceLeDiff, Int.reduceBEq, Int.reduceBNe, Int.reduceLE, Int.reduceLT, Int.reduceGE, Int.reduceGT, Int.reduceNeg, kn, onel, kon, hma, hkd, hf]
structure GI (σ : Store) (pg p m q : Nat) (Q : List (Int × D)) (md mc mv : Nat) (vs : List Tx) (ar : List (Tx × Nat)) : Prop where
  obj : aget σ.objs pg = some [⟨false, .ptr p 0⟩, ⟨false, .map md⟩, ⟨false, .map mc⟩]
  lt : pg < σ.next
  ne : pg ≠ p
  sq : SQ σ p m q Q
  dat : ∃ es c, aget σ.oth md = some (.map es c) ∧ ∀ s j, (s, j) ∈ ar → ∃ b i, findM (.str s) es = some (some (kcD j, b, i))
  ltd : md < σ.next
  nd : md ≠ m
  var : ∃ es c, aget σ.oth mv = some (.map es c) ∧ ∀ s, s ∈ vs → ∃ b i, findM (.str s) es = some (some (kcD 0, b, i))
  ltv : mv < σ.next
  nv : mv ≠ m
  keys : ∀ x ∈ Q, x.1 ≤ (q : Int)
theorem knoQ_fresh {Q : List (Int × D)} {k : Int} : (∀ x ∈ Q, x.1 ≠ k) → knoQ k Q = none := by
  induction Q with
  | nil => intro _; rfl
  | cons x r ih =>
    intro h
    simp only [knoQ]
    rw [if_neg (h x (by simp))]
    exact ih fun y hy => h y (by simp [hy])
theorem GI.fx {σ σ' : Store} {pg p m q : Nat} {Q : List (Int × D)} {md mc mv : Nat} {vs : List Tx} {ar : List (Tx × Nat)} (h : GI σ pg p m q Q md mc mv vs ar) (f : Fx σ σ' (fun j => j = p) m) {q' : Nat} {Q' : List (Int × D)} (hs : SQ σ' p m q' Q') (hk : ∀ x ∈ Q', x.1 ≤ (q' : Int)) : GI σ' pg p m q' Q' md mc mv vs ar := by
  obtain ⟨es, c, g1, g2⟩ := h.dat
  obtain ⟨ev, cv, g3, g4⟩ := h.var
  exact ⟨(f.objs _ h.lt h.ne).trans h.obj, Nat.lt_of_lt_of_le h.lt f.le, h.ne, hs, ⟨es, c, (f.oth _ h.ltd h.nd).trans g1, g2⟩, Nat.lt_of_lt_of_le h.ltd f.le, h.nd, ⟨ev, cv, (f.oth _ h.ltv h.nv).trans g3, g4⟩, Nat.lt_of_lt_of_le h.ltv f.le, h.nv, hk⟩
theorem Fm.fx {σ σ' : Store} {m : Nat} (h : Fm σ σ' m) (X : Nat → Prop) : Fx σ σ' X m := ⟨h.le, fun j hj _ => h.objs j hj, h.oth, fun j hj _ => h.tys j hj⟩
def tsz : Ty → Nat
  | .mk _ _ _ l => 1 + tszs l
where tszs : List Ty → Nat
  | [] => 0
  | t :: r => tsz t + tszs r
theorem tsz_app (f a : Ty) : tsz (tApp f a) = 1 + (tsz f + tsz a) := by
  simp only [tApp, tsz, tsz.tszs, Nat.add_zero]
theorem karrow {S : Specs} (hS : KindS S) (f x : Int) (a : D) (g y : Int) (b : D) (o1 : a.ok = true) (o2 : a.one = true) (o3 : a.cells = [a]) (p1 : b.ok = true) (p2 : b.one = true) (p3 : b.cells = [b]) (n : Nat) (σ : Store) : T S (n + 1) n_146 [.agg [.int .i64 f, .int .i64 x, a], .agg [.int .i64 g, .int .i64 y, b]] σ = some (.ret ⟨false, arD (.agg [.int .i64 f, .int .i64 x, a]) (.agg [.int .i64 g, .int .i64 y, b])⟩, σ) := by
  rw [T_fun (af := a_86) hS.2.2.2.2.2.2.2.2.2.2.2.2.2 rfl rfl]
  simp only [a_86, arD, sA, Nat.reduceAdd, Nat.reduceSub, Nat.reduceMul, Nat.reduceBEq, Nat.reduceLeDiff, Int.reduceBEq, Int.reduceBNe, Int.reduceLE, Int.reduceLT, Int.reduceGE, Int.reduceGT, Int.reduceNeg, kn, onel, o1, o2, o3, p1, p2, p3]
theorem kmust_run {S : Specs} (hS : KindS S) (hC : aget S n_9 = some sp_copied) {σ : Store} {pg p m q : Nat} {Q : List (Int × D)} {md mc mv : Nat} {vs : List Tx} {ar : List (Tx × Nat)} (h : GI σ pg p m q Q md mc mv vs ar) {k : Int} (hk : knoQ k Q = none) {j : Nat} (hj : j < 4) {f a : D} (hf : TQ Q f (j + 1)) (ha : TQ Q a 0) : ∃ σ', Fm σ σ' m ∧ SQ σ' p m q (Q ++ [(k, kcD j)]) ∧ ∃ N, ∀ n, N ≤ n → T S n n_148 [.ptr pg 0, f, arD a (kvD k)] σ = some (.ret ⟨false, .tup []⟩, σ') := by
  obtain ⟨σ', g, s, N, hN⟩ := kEqual_run hS hC hk hj hf ha σ h.sq
  refine ⟨σ', g, s, N + 2, fun n hn => ?_⟩
  obtain ⟨n, rfl⟩ : ∃ k, n = k + 1 := ⟨n - 1, by omega⟩
  have hN := hN n (by omega)
  have ho := h.obj
  obtain ⟨ff, fn, fx, rfl, o1, o2, o3⟩ := hf.agg
  rw [T_fun (af := a_88) hS.2.2.2.2.2.2.2.2.2.2.1 rfl rfl]
  simp only [arD] at hN ⊢
  simp only [a_88, sA, Nat.reduceAdd, Nat.reduceSub, Nat.reduceMul, Nat.reduceBEq, Nat.reduceLeDiff, Int.reduceBEq, Int.reduceBNe, Int.reduceLE, Int.reduceLT, Int.reduceGE, Int.reduceGT, Int.reduceNeg, kn, onel, o1, o2, o3, ho, hN, bne_self_eq_false]
theorem kfresh_run {S : Specs} (hS : KindS S) {σ : Store} {p m q : Nat} {Q : List (Int × D)} (h : SQ σ p m q Q) (hq : q < 1000000) (n : Nat) : T S (n + 1) n_151 [.ptr p 0] σ = some (.ret ⟨false, kvD (q + 1 : Nat)⟩, SO σ p [⟨false, .int .i64 (q + 1 : Nat)⟩, ⟨false, .map m⟩]) ∧ SQ (SO σ p [⟨false, .int .i64 (q + 1 : Nat)⟩, ⟨false, .map m⟩]) p m (q + 1) Q := by
  refine ⟨?_, ⟨agA _ _ _, h.map, h.lt, h.ltm⟩⟩
  rw [T_fun (af := a_95) hS.2.2.2.2.2.2.2.2.2.1 rfl rfl]
  have ho := h.obj
  have w := wrap64_succ (i := q) (by omega)
  have hs : aget (SO σ p [⟨false, .int .i64 (q + 1 : Nat)⟩, ⟨false, .map m⟩]).objs p = some [⟨false, .int .i64 (q + 1 : Nat)⟩, ⟨false, .map m⟩] := agA _ _ _
  simp only [a_95, kvD, sA, Nat.reduceAdd, Nat.reduceSub, Nat.reduceMul, Nat.reduceBEq, Nat.reduceLeDiff, Int.reduceBEq, Int.reduceBNe, Int.reduceLE, Int.reduceLT, Int.reduceGE, Int.reduceGT, Int.reduceNeg, kn, onel, ho, w, fold_SO, hs]
theorem of_run {S : Specs} (hS : KindS S) (hC : aget S n_9 = some sp_copied) {pg p m md mc mv : Nat} {vs : List Tx} {ar : List (Tx × Nat)} {t : Ty} {j : Nat} (hko : KO vs ar t j) : ∀ (σ : Store) (q : Nat) (Q : List (Int × D)), GI σ pg p m q Q md mc mv vs ar → q + tsz t < 100000 → ∃ σ' τ q' Q', Fx σ σ' (fun j => j = p) m ∧ GI σ' pg p m q' Q' md mc mv vs ar ∧ TQ Q' τ j ∧ (∀ k x, knoQ k Q = some x → knoQ k Q' = some x) ∧ q' ≤ q + tsz t ∧ ∃ N, ∀ n, N ≤ n → T S n n_73 [.ptr pg 0, .map mv, dTy t] σ = some (.ret ⟨false, τ⟩, σ') := by
  have hSo := hS.2.2.2.2.2.2.2.2.2.2.2.1
  induction hko with
  | @var x hx =>
    intro σ q Q h hb
    obtain ⟨es, c, g1, g2⟩ := h.var
    obtain ⟨b, i, hf⟩ := g2 x hx
    refine ⟨σ, kcD 0, q, Q, Fx.refl _ _ _, h, .inl rfl, fun _ _ h => h, by omega, 3, fun n hn => ?_⟩
    obtain ⟨n, rfl⟩ : ∃ k, n = k + 2 := ⟨n - 2, by omega⟩
    have hn := knamed_run hS g1 hf n
    have e : dTy (tVar x) = .agg [.int .i64 2, .int .i64 0, .str x, .nils] := rfl
    have ec : kcD 0 = .agg [.int .i64 2, .int .i64 0, .nils] := rfl
    rw [T_fun (af := a_19) hSo rfl rfl, e]
    rw [ec] at hn ⊢
    simp only [a_19, sA, Nat.reduceAdd, Nat.reduceSub, Nat.reduceMul, Nat.reduceBEq, Nat.reduceLeDiff, Int.reduceBEq, Int.reduceBNe, Int.reduceLE, Int.reduceLT, Int.reduceGE, Int.reduceGT, Int.reduceNeg, kn, onel, hn]
  | @con s j hs hj =>
    intro σ q Q h hb
    obtain ⟨es, c, g1, g2⟩ := h.dat
    obtain ⟨b, i, hf⟩ := g2 s j hs
    refine ⟨σ, kcD j, q, Q, Fx.refl _ _ _, h, .inl rfl, fun _ _ h => h, by omega, 3, fun n hn => ?_⟩
    obtain ⟨n, rfl⟩ : ∃ k, n = k + 2 := ⟨n - 2, by omega⟩
    have hn := knamed_run hS g1 hf n
    have ho := h.obj
    have e : dTy (tCon s) = .agg [.int .i64 3, .int .i64 0, .str s, .nils] := rfl
    rw [T_fun (af := a_19) hSo rfl rfl, e]
    rw [kcD_eq] at hn ⊢
    simp only [a_19, sA, Nat.reduceAdd, Nat.reduceSub, Nat.reduceMul, Nat.reduceBEq, Nat.reduceLeDiff, Int.reduceBEq, Int.reduceBNe, Int.reduceLE, Int.reduceLT, Int.reduceGE, Int.reduceGT, Int.reduceNeg, kn, onel, kon, ho, hn]
  | @app f a j hf ha hj ihf iha =>
    intro σ q Q h hb
    rw [tsz_app] at hb ⊢
    obtain ⟨σ1, τf, q1, Q1, f1, h1, t1, m1, b1, N1, r1⟩ := ihf σ q Q h (by omega)
    obtain ⟨σ2, τa, q2, Q2, f2, h2, t2, m2, b2, N2, r2⟩ := iha σ1 q1 Q1 h1 (by omega)
    have hF := fun n => kfresh_run hS h2.sq (by omega) n
    obtain ⟨σ3, e3⟩ : ∃ σ3, σ3 = SO σ2 p [⟨false, .int .i64 (q2 + 1 : Nat)⟩, ⟨false, .map m⟩] := ⟨_, rfl⟩
    rw [← e3] at hF
    have f3 : Fx σ2 σ3 (fun j => j = p) m := by rw [e3]; exact fx_SO _ _ _ _
    have h3 : GI σ3 pg p m (q2 + 1) Q2 md mc mv vs ar := h2.fx f3 (hF 0).2 (fun x hx => by have := h2.keys x hx; omega)
    have hk : knoQ ((q2 + 1 : Nat) : Int) Q2 = none := knoQ_fresh fun x hx => by have := h2.keys x hx; omega
    have t1' := t1.more m2
    obtain ⟨σ4, f4, s4, N4, r4⟩ := kmust_run hS hC h3 hk hj t1' t2
    have hkn : knoQ ((q2 + 1 : Nat) : Int) (Q2 ++ [(((q2 + 1 : Nat) : Int), kcD j)]) = some (kcD j) := by
      rw [knoQ_snoc, hk]
      exact if_pos rfl
    have h4 : GI σ4 pg p m (q2 + 1) (Q2 ++ [(((q2 + 1 : Nat) : Int), kcD j)]) md mc mv vs ar := h3.fx (f4.fx _) s4 (fun x hx => by
      rcases List.mem_append.1 hx with hx | hx
      · have := h2.keys x hx; omega
      · rw [List.mem_singleton.1 hx]; exact Int.le_refl _)
    refine ⟨σ4, kvD (q2 + 1 : Nat), q2 + 1, _, ((f1.trans f2 fun _ _ h => h).trans f3 fun _ _ h => h).trans (f4.fx fun j => j = p) fun _ _ h => h, h4, .inr ⟨_, rfl, hkn⟩, fun k x hx => ?_, by omega, N1 + N2 + N4 + 5, fun n hn => ?_⟩
    · rw [knoQ_snoc, m2 k x (m1 k x hx)]
    · obtain ⟨n, rfl⟩ : ∃ k, n = k + 2 := ⟨n - 2, by omega⟩
      have r1 := r1 (n + 1) (by omega)
      have r2 := r2 (n + 1) (by omega)
      have r4 := r4 (n + 1) (by omega)
      have hF := (hF n).1
      have ho := h2.obj
      obtain ⟨ff, fn, fx, rfl, o1, o2, o3⟩ := t1.agg
      obtain ⟨af, an, ax, rfl, p1, p2, p3⟩ := t2.agg
      have hA := karrow hS af an ax 1 ((q2 + 1 : Nat) : Int) .nils p1 p2 p3 rfl rfl rfl n σ3
      have e : dTy (tApp f a) = .agg [.int .i64 4, .int .i64 0, .str [], dTl [f, a]] := dTy_eq _
      have hx := idx_T [f, a] 0 (by simp)
      have hy := idx_T [f, a] 1 (by simp)
      simp only [List.getElem_cons_zero, List.getElem_cons_succ] at hx hy
      rw [T_fun (af := a_19) hSo rfl rfl, e]
      simp only [dTy_eq, cTy_eq] at r1 r2 hx hy
      simp only [kvD, arD] at hF hA r4 ⊢
      simp only [a_19, sA, Nat.reduceAdd, Nat.reduceSub, Nat.reduceMul, Nat.reduceBEq, Nat.reduceLeDiff, Int.reduceBEq, Int.reduceBNe, Int.reduceLE, Int.reduceLT, Int.reduceGE, Int.reduceGT, Int.reduceNeg, kn, onel, hx, hy, o1, o2, o3, p1, p2, p3, r1, r2, ho, hF, hA, r4]
end Go.Fu
namespace Go.Fu
open Go Go.Mx
set_option maxRecDepth 100000
set_option maxHeartbeats 1000000
def entS (x : Tx × D) (b : Nat) : D × D × Nat := (.str x.1, x.2, b)
def esS : List (Tx × D) → Nat → List (D × D × Nat)
  | [], _ => []
  | x :: r, b => entS x b :: esS r (b + 1)
theorem esS_snoc : ∀ (l : List (Tx × D)) (x : Tx × D) (b : Nat), esS (l ++ [x]) b = esS l b ++ [entS x (b + l.length)]
  | [], x, b => rfl
  | y :: r, x, b => by
    have h : b + 1 + r.length = b + (y :: r).length := by simp only [List.length_cons]; omega
    simp only [List.cons_append, esS, esS_snoc r x (b + 1), h]
theorem findS_none {k : Tx} : ∀ {l : List (Tx × D)} (b : Nat), (∀ x ∈ l, x.1 ≠ k) → findM (.str k) (esS l b) = some none
  | [], _, _ => rfl
  | x :: r, b, h => by
    have h1 : (k == x.1) = false := beq_false_of_ne fun e => h x (by simp) e.symm
    have hs : sameD (.str k) (.str x.1) = some (k == x.1) := rfl
    have ih := findS_none (l := r) (b + 1) fun y hy => h y (List.mem_cons_of_mem _ hy)
    simp only [esS, entS, findM, hs, h1, bindO, caseO_some, ifB_false, ih]
    rfl
theorem findS_some {k : Tx} {t : D} : ∀ {l : List (Tx × D)} (b : Nat), (k, t) ∈ l → (l.map Prod.fst).Nodup → ∃ c j, findM (.str k) (esS l b) = some (some (t, c, j))
  | x :: r, b, h, hn => by
    have hs : sameD (.str k) (.str x.1) = some (k == x.1) := rfl
    rw [List.map_cons, List.nodup_cons] at hn
    by_cases hx : x.1 = k
    · have h1 : (k == x.1) = true := by rw [hx]; simp
      have ht : x.2 = t := by
        rcases List.mem_cons.1 h with e | h
        · rw [← e]
        · exact absurd (List.mem_map.2 ⟨(k, t), h, hx.symm⟩) hn.1
      exact ⟨b, 0, by simp only [esS, entS, findM, hs, h1, bindO, caseO_some, ifB_true, ht]⟩
    · have h1 : (k == x.1) = false := beq_false_of_ne (Ne.symm hx)
      have hr : (k, t) ∈ r := by
        rcases List.mem_cons.1 h with e | h
        · rw [← e] at hx
          exact absurd rfl hx
        · exact h
      obtain ⟨c, j, g⟩ := findS_some (b + 1) hr hn.2
      exact ⟨c, j + 1, by simp only [esS, entS, findM, hs, h1, bindO, caseO_some, ifB_false, g]⟩
def sp_terms : List D → Cell → Prop := fun ds c => ∀ n : Nat, ds = [dKl n] → c = ⟨false, dKc (List.replicate n 0)⟩
theorem call_terms {S : Specs} (hS : aget S n_23 = some sp_terms) {k : Nat} (hk : k < 4) (n : Nat) (σ : Store) : T S (n + 1) n_23 [dKl k] σ = some (.ret ⟨false, dKc (List.replicate k 0)⟩, σ) := by
  obtain ⟨c, g1, g2⟩ := T_orc (S := S) hS rfl (s := sp_terms) (c := ⟨false, dKc (List.replicate k 0)⟩) (fun k' e => by
    simp only [List.cons.injEq, and_true] at e
    rw [dKl_inj e]) (terms_pure k hk)
  rw [g2, g1 _ rfl]
theorem closed_any {f : FuncId} {ds : List D} {c : Cell} (n : Nat) (hY : isY f = false) (h1 : noPtrL ds = true) (h2 : noPtr c.d = true) (h : (run Γa Ra Xa n f ds σ0).map Prod.fst = some (.ret c)) : OkP f ds c := by
  cases hr : run Γa Ra Xa n f ds σ0 with
  | none => rw [hr] at h; cases h
  | some p =>
    rw [hr] at h
    obtain ⟨o, σ'⟩ := p
    cases h
    exact closed n hY h1 h2 hr
theorem chain_pure : ∀ n, n < 4 → OkP n_30 [dKc (List.replicate n 0)] ⟨false, kcD n⟩
  | 0, _ => closed_any 20 rfl (by kernel_rfl) (by kernel_rfl) (by kernel_rfl)
  | 1, _ => closed_any 20 rfl (by kernel_rfl) (by kernel_rfl) (by kernel_rfl)
  | 2, _ => closed_any 20 rfl (by kernel_rfl) (by kernel_rfl) (by kernel_rfl)
  | 3, _ => closed_any 20 rfl (by kernel_rfl) (by kernel_rfl) (by kernel_rfl)
end Go.Fu
namespace Go.Fu
open Go Go.Mx
set_option maxRecDepth 100000
set_option maxHeartbeats 1000000
def sp_chain : List D → Cell → Prop := fun ds c => ∀ n : Nat, ds = [dKc (List.replicate n 0)] → c = ⟨false, kcD n⟩
theorem dKc_rep {a b : Nat} (h : dKc (List.replicate a 0) = dKc (List.replicate b 0)) : a = b := by
  have := congrArg lenOf h
  rw [len_Kc, len_Kc] at this
  simpa using this
theorem call_chain {S : Specs} (hS : aget S n_30 = some sp_chain) {k : Nat} (hk : k < 4) (n : Nat) (σ : Store) : T S (n + 1) n_30 [dKc (List.replicate k 0)] σ = some (.ret ⟨false, kcD k⟩, σ) := by
  obtain ⟨c, g1, g2⟩ := T_orc (S := S) hS rfl (s := sp_chain) (c := ⟨false, kcD k⟩) (fun k' e => by
    simp only [List.cons.injEq, and_true] at e
    rw [dKc_rep e]) (chain_pure k hk)
  rw [g2, g1 _ rfl]
def KndS (S : Specs) : Prop := KindS S ∧ aget S n_9 = some sp_copied ∧ aget S n_23 = some sp_terms ∧ aget S n_30 = some sp_chain ∧ aget S n_11 = some sp_prelude ∧ aget S n_10 = some sp_cat ∧ has S n_129 = false ∧ has S n_147 = false ∧ has S n_149 = false ∧ has S n_60 = false ∧ has S n_127 = false ∧ has S n_72 = false ∧ has S n_74 = false
def dK (d : Da) : Tx × D := (d.name, kcD d.vars.length)
section
variable {C : CallF} {n : Nat} {σ : Store}
def Ebh (L : List Da) (pg i : Nat) : Env := { slots := [(1, ⟨false, .nils⟩), (5, ⟨false, .ptr pg 0⟩), (18, ⟨false, dDl L⟩), (19, ⟨false, .int .i64 L.length⟩), (20, ⟨false, .int .i64 i⟩)], locs := [], boxes := [], defers := [] }
theorem bh_step (L : List Da) (pg p md mc i : Nat) (hi : i < L.length) (hL : L.length < 1000) (l : List (Tx × D)) (ho : aget σ.objs pg = some [⟨false, .ptr p 0⟩, ⟨false, .map md⟩, ⟨false, .map mc⟩]) (hm : aget σ.oth md = some (.map (esS l 0) l.length)) (hf : ∀ x ∈ l, x.1 ≠ L[i].name) (h1 : C n_23 [dKl L[i].vars.length] σ = some (.ret ⟨false, dKc (List.replicate L[i].vars.length 0)⟩, σ)) (h2 : C n_30 [dKc (List.replicate L[i].vars.length 0)] σ = some (.ret ⟨false, kcD L[i].vars.length⟩, σ)) : exec C n none a_37 (Ebh L pg i) σ = some (.normal, Ebh L pg (i + 1), SM σ md (.map (esS (l ++ [dK L[i]]) 0) (l ++ [dK L[i]]).length)) := by
  have hx := idx_D L i hi
  have hlt : ((i : Int) < L.length) := by omega
  have w := wrap64_succ (i := i) (by omega)
  have hfi := findS_none 0 hf
  have es : esS l 0 ++ [(D.str L[i].name, kcD L[i].vars.length, l.length)] = esS (l ++ [dK L[i]]) 0 := by
    rw [esS_snoc, Nat.zero_add]
    rfl
  have el : l.length + 1 = (l ++ [dK L[i]]).length := by simp
  have hma : mapAt σ.oth (.map md) = some (md, esS l 0, l.length) := by simp only [mapAt, hm, bindO, caseO_some]
  generalize l ++ [dK L[i]] = l2 at *
  generalize L[i] = d at *
  have okc : (D.agg [.int .i64 (kf d.vars.length), .int .i64 0, ka d.vars.length]).ok = true := rfl
  have kd : keyD true (.str d.name) = true := rfl
  rw [dDa_eq] at hx
  rw [kcD_eq] at h2 es
  simp only [a_37, Ebh, sA, Nat.reduceAdd, Nat.reduceSub, Nat.reduceMul, Nat.reduceBEq, Nat.reduceLeDiff, Int.reduceBEq, Int.reduceBNe, Int.reduceLE, Int.reduceLT, Int.reduceGE, Int.reduceGT, Int.reduceNeg, kn, onel, kon, hx, hlt, natI, ho, h1, h2, memE, mUpd, hma, hfi, es, el, kd, okc, w]
theorem bh_end (L : List Da) (pg : Nat) : exec C n none a_37 (Ebh L pg L.length) σ = some (.exit 0, { Ebh L pg L.length with slots := [(1, ⟨false, .nils⟩), (5, ⟨false, .ptr pg 0⟩), (18, ⟨false, dDl L⟩), (19, ⟨false, .int .i64 L.length⟩), (20, ⟨false, .int .i64 L.length⟩), (21, ⟨false, .bool false⟩)] }, σ) := by
  have hlt : ¬ ((L.length : Int) < L.length) := by omega
  simp only [a_37, Ebh, sA, Nat.reduceAdd, Nat.reduceSub, Nat.reduceMul, Nat.reduceBEq, Nat.reduceLeDiff, Int.reduceBEq, Int.reduceBNe, Int.reduceLE, Int.reduceLT, Int.reduceGE, Int.reduceGT, Int.reduceNeg, kn, onel, hlt]
theorem bh1_end (pg : Nat) : exec C n none a_144 { slots := [(5, ⟨false, .ptr pg 0⟩), (35, ⟨false, .nils⟩), (36, ⟨false, .int .i64 0⟩), (37, ⟨false, .int .i64 0⟩)], locs := [], boxes := [], defers := [] } σ = some (.exit 2, { slots := [(5, ⟨false, .ptr pg 0⟩), (35, ⟨false, .nils⟩), (36, ⟨false, .int .i64 0⟩), (37, ⟨false, .int .i64 0⟩), (38, ⟨false, .bool false⟩)], locs := [], boxes := [], defers := [] }, σ) := by
  have hlt : ¬ ((0 : Int) < 0) := by omega
  simp only [a_144, sA, Nat.reduceAdd, Nat.reduceSub, Nat.reduceMul, Nat.reduceBEq, Nat.reduceLeDiff, Int.reduceBEq, Int.reduceBNe, Int.reduceLE, Int.reduceLT, Int.reduceGE, Int.reduceGT, Int.reduceNeg, kn, hlt]
end
theorem knew_run {S : Specs} (hS : has S n_129 = false) (n : Nat) (σ : Store) : T S (n + 1) n_129 [] σ = some (.ret ⟨false, .ptr (σ.next + 1) 0⟩, GA (GM σ (.map [] 0)) t_83 [⟨false, .int .i64 0⟩, ⟨false, .map σ.next⟩]) := by
  rw [T_fun (af := a_93) hS rfl rfl]
  have hg : memOp (.gbox t_83 (.tmp 2)) { slots := [(1, ⟨false, .map σ.next⟩), (2, ⟨false, .agg [.int .i64 0, .map σ.next]⟩)], locs := [], boxes := [], defers := [] } (GM σ (.map [] 0)) = some (.ptr (σ.next + 1) 0, GA (GM σ (.map [] 0)) t_83 [⟨false, .int .i64 0⟩, ⟨false, .map σ.next⟩]) := rfl
  simp only [a_93, sA, Nat.reduceAdd, Nat.reduceSub, Nat.reduceMul, Nat.reduceBEq, Nat.reduceLeDiff, Int.reduceBEq, Int.reduceBNe, Int.reduceLE, Int.reduceLT, Int.reduceGE, Int.reduceGT, Int.reduceNeg, kn, onel, memE, mMake, hg]
theorem behind_run {S : Specs} (hS : KndS S) (ds : List Da) (hl : ds.length ≤ 900) (hv : ∀ d ∈ pre3 ++ ds, d.vars.length < 4) (hn : ((pre3 ++ ds).map Da.name).Nodup) (σ : Store) : ∃ σ' pg p m md mc, Fr σ σ' ∧ aget σ'.objs pg = some [⟨false, .ptr p 0⟩, ⟨false, .map md⟩, ⟨false, .map mc⟩] ∧ pg < σ'.next ∧ pg ≠ p ∧ SQ σ' p m 0 [] ∧ aget σ'.oth md = some (.map (esS ((pre3 ++ ds).map dK) 0) ((pre3 ++ ds).map dK).length) ∧ md < σ'.next ∧ md ≠ m ∧ σ.next ≤ pg ∧ σ.next ≤ p ∧ σ.next ≤ m ∧ ∃ N, ∀ k, N ≤ k → T S k n_147 [dDl ds, .nils] σ = some (.ret ⟨false, .ptr pg 0⟩, σ') := by
  obtain ⟨σ1, e1⟩ : ∃ σ1, σ1 = GA (GM σ (.map [] 0)) t_83 [⟨false, .int .i64 0⟩, ⟨false, .map σ.next⟩] := ⟨_, rfl⟩
  obtain ⟨σ2, e2⟩ : ∃ σ2, σ2 = GM σ1 (.map [] 0) := ⟨_, rfl⟩
  obtain ⟨σ3, e3⟩ : ∃ σ3, σ3 = GM σ2 (.map [] 0) := ⟨_, rfl⟩
  obtain ⟨σ4, e4⟩ : ∃ σ4, σ4 = GA σ3 t_142 [⟨false, .ptr (σ.next + 1) 0⟩, ⟨false, .map (σ.next + 2)⟩, ⟨false, .map (σ.next + 3)⟩] := ⟨_, rfl⟩
  have n1 : σ1.next = σ.next + 2 := by rw [e1]; rfl
  have n2 : σ2.next = σ.next + 3 := by rw [e2]; show σ1.next + 1 = _; omega
  have n3 : σ3.next = σ.next + 4 := by rw [e3]; show σ2.next + 1 = _; omega
  have n4 : σ4.next = σ.next + 5 := by rw [e4]; show σ3.next + 1 = _; omega
  have q1 : SQ σ1 (σ.next + 1) σ.next 0 [] := by
    rw [e1]
    exact ⟨agS _ _ _, agS _ _ _, Nat.lt_succ_self _, by show σ.next < σ.next + 1 + 1; omega⟩
  have f1 : Fr σ σ1 := by rw [e1]; exact (fr_GM _ _).trans (fr_GA _ _ _)
  have f2 : Fr σ1 σ2 := by rw [e2]; exact fr_GM _ _
  have f3 : Fr σ2 σ3 := by rw [e3]; exact fr_GM _ _
  have f4 : Fr σ3 σ4 := by rw [e4]; exact fr_GA _ _ _
  have q4 : SQ σ4 (σ.next + 1) σ.next 0 [] := SB.fr q1 ((f2.trans f3).trans f4)
  have m2 : aget σ2.oth (σ.next + 2) = some (.map [] 0) := by rw [e2, ← n1]; exact agS _ _ _
  have m4 : aget σ4.oth (σ.next + 2) = some (.map [] 0) := ((f3.trans f4).oth _ (by omega)).trans m2
  have o4 : aget σ4.objs (σ.next + 4) = some [⟨false, .ptr (σ.next + 1) 0⟩, ⟨false, .map (σ.next + 2)⟩, ⟨false, .map (σ.next + 3)⟩] := by rw [e4, ← n3]; exact agS _ _ _
  have hcat : ∀ k, T S (k + 1) n_10 [dd pre3 ds] σ4 = some (.ret ⟨false, dDl (pre3 ++ ds)⟩, σ4) := fun k => call_cat hS.2.2.2.2.2.1 pre3 ds (by simp [pre3]) (by simp [pre3]; omega) k σ4
  have hd : dd pre3 ds = .list k_15 [dDl pre3, dDl ds] := rfl
  rw [hd] at hcat
  have hLl : (pre3 ++ ds).length < 1000 := by simp [pre3]; omega
  have hne : (pre3 ++ ds).length ≠ 0 := by simp [pre3]
  generalize pre3 ++ ds = L at *
  obtain ⟨σ5, e5⟩ : ∃ σ5, σ5 = SM σ4 (σ.next + 2) (.map (esS (L.map dK) 0) (L.map dK).length) := ⟨_, rfl⟩
  have f5 : Fm σ4 σ5 (σ.next + 2) := by rw [e5]; exact Fm.SM _
  obtain ⟨st, hst⟩ : ∃ st : Nat → Store, st = fun i => if i = 0 then σ4 else SM σ4 (σ.next + 2) (.map (esS ((L.take i).map dK) 0) ((L.take i).map dK).length) := ⟨_, rfl⟩
  have st0 : st 0 = σ4 := by rw [hst]; rfl
  have stn : ∀ i, st (i + 1) = SM σ4 (σ.next + 2) (.map (esS ((L.take (i + 1)).map dK) 0) ((L.take (i + 1)).map dK).length) := fun i => by rw [hst]; rfl
  have stm : ∀ i, aget (st i).oth (σ.next + 2) = some (.map (esS ((L.take i).map dK) 0) ((L.take i).map dK).length) := fun i => by
    cases i with
    | zero => rw [st0]; exact m4
    | succ i => rw [stn]; exact SM_self
  have sto : ∀ i, aget (st i).objs (σ.next + 4) = some [⟨false, .ptr (σ.next + 1) 0⟩, ⟨false, .map (σ.next + 2)⟩, ⟨false, .map (σ.next + 3)⟩] := fun i => by
    cases i with
    | zero => rw [st0]; exact o4
    | succ i => rw [stn]; exact o4
  have sts : ∀ i x, SM (st i) (σ.next + 2) x = SM σ4 (σ.next + 2) x := fun i x => by
    cases i with
    | zero => rw [st0]
    | succ i => rw [stn, SM_SM]
  have stl : st L.length = σ5 := by
    obtain ⟨k, hk⟩ : ∃ k, L.length = k + 1 := ⟨L.length - 1, by omega⟩
    rw [hk, stn, e5, ← hk, List.take_length]
  refine ⟨σ5, σ.next + 4, σ.next + 1, σ.next, σ.next + 2, σ.next + 3, ?_, (f5.objs _ (by omega)).trans o4, ?_, by omega, ⟨(f5.objs _ (by omega)).trans q4.obj, (f5.oth _ (by omega) (by omega)).trans q4.map, ?_, ?_⟩, by rw [e5]; exact SM_self, ?_, by omega, by omega, by omega, by omega, 1100, fun k hk => ?_⟩
  · have g := ((f1.trans f2).trans f3).trans f4
    exact ⟨Nat.le_trans g.le f5.le, fun j hj => (f5.objs j (by omega)).trans (g.objs j hj), fun j hj => (f5.oth j (by omega) (by omega)).trans (g.oth j hj), fun j hj => (f5.tys j (by omega)).trans (g.tys j hj)⟩
  · have := f5.le; omega
  · have := f5.le; omega
  · have := f5.le; omega
  · have := f5.le; omega
  · obtain ⟨k, rfl⟩ : ∃ j, k = j + 2 := ⟨k - 2, by omega⟩
    have hnew := knew_run hS.2.2.2.2.2.2.1 k σ
    rw [← e1] at hnew
    have hpre := call_prelude hS.2.2.2.2.1 k σ4
    have hcat := hcat k
    have hg0 : memOp (.gbox t_142 (.tmp 13)) { slots := [(0, ⟨false, dDl ds⟩), (1, ⟨false, .nils⟩), (10, ⟨false, .ptr (σ.next + 1) 0⟩), (11, ⟨false, .map (σ.next + 2)⟩), (12, ⟨false, .map (σ.next + 3)⟩), (13, ⟨false, .agg [.ptr (σ.next + 1) 0, .map (σ.next + 2), .map (σ.next + 3)]⟩)], locs := [], boxes := [], defers := [] } σ3 = some (.ptr σ3.next 0, GA σ3 t_142 [⟨false, .ptr (σ.next + 1) 0⟩, ⟨false, .map (σ.next + 2)⟩, ⟨false, .map (σ.next + 3)⟩]) := rfl
    rw [n3, ← e4] at hg0
    have hr := loopN_run (body := exec (T S (k + 1)) (k + 1) none a_37) (Ebh L (σ.next + 4)) st L.length (r := _) (fun _ _ h => by cases h) (fun i hi => by
      have hvi := hv _ (List.getElem_mem hi)
      have ht := call_terms hS.2.2.1 hvi k (st i)
      have hc := call_chain hS.2.2.2.1 hvi k (st i)
      have sp := bh_step (C := T S (k + 1)) (n := k + 1) L (σ.next + 4) (σ.next + 1) (σ.next + 2) (σ.next + 3) i hi hLl ((L.take i).map dK) (sto i) (stm i) (fun x hx => by
        obtain ⟨d, hd, rfl⟩ := List.mem_map.1 hx
        have hs : L.map Da.name = (L.take i).map Da.name ++ L[i].name :: (L.drop (i + 1)).map Da.name := by
          rw [← List.map_cons, ← List.drop_eq_getElem_cons hi, ← List.map_append, List.take_append_drop]
        rw [hs, List.nodup_append] at hn
        exact hn.2.2 _ (List.mem_map_of_mem hd) _ (by simp)) ht hc
      have e : (L.take i).map dK ++ [dK L[i]] = (L.take (i + 1)).map dK := by
        rw [← take_snoc L i hi, List.map_append]
        rfl
      rw [sts, e, ← stn] at sp
      exact sp) (bh_end L (σ.next + 4)) 0 (k + 1) (by omega) (by omega)
    have hr2 := loopN_stop (n := k) (bh1_end (C := T S (k + 1)) (n := k + 1) (σ := σ5) (σ.next + 4))
    rw [st0, stl] at hr
    simp only [Ebh, zeroI] at hr
    have hlen := len_D L
    have ln : lenOf D.nils = some 0 := rfl
    rw [T_fun (af := a_87) hS.2.2.2.2.2.2.2.1 rfl rfl]
    simp only [a_87, sA, Nat.reduceAdd, Nat.reduceSub, Nat.reduceMul, Nat.reduceBEq, Nat.reduceLeDiff, Int.reduceBEq, Int.reduceBNe, Int.reduceLE, Int.reduceLT, Int.reduceGE, Int.reduceGT, Int.reduceNeg, kn, onel, hnew, memE, mMake, n1, n2, ← e2, ← e3, hg0, hpre, hcat, hlen, hr, ln, zeroI, hr2]
end Go.Fu
namespace Go.Fu
open Go Go.Mx
set_option maxRecDepth 100000
set_option maxHeartbeats 1000000
section
variable {C : CallF} {n : Nat} {σ : Store}
def Ezp (mv : Nat) (vs : List Tx) (i : Nat) : Env := { slots := [(1, ⟨false, dKc (List.replicate vs.length 0)⟩), (5, ⟨false, .map mv⟩), (9, ⟨false, dSs vs⟩), (10, ⟨false, .int .i64 vs.length⟩), (11, ⟨false, .int .i64 i⟩)], locs := [], boxes := [], defers := [] }
theorem zp_step (mv : Nat) (vs : List Tx) (i : Nat) (hi : i < vs.length) (hL : vs.length < 1000) (l : List (Tx × D)) (hm : aget σ.oth mv = some (.map (esS l 0) l.length)) (hf : ∀ x ∈ l, x.1 ≠ vs[i]) : exec C n none a_38 (Ezp mv vs i) σ = some (.normal, Ezp mv vs (i + 1), SM σ mv (.map (esS (l ++ [(vs[i], kcD 0)]) 0) (l ++ [(vs[i], kcD 0)]).length)) := by
  have hx := idx_S vs i hi
  have hy := idx_Kc (List.replicate vs.length 0) i (by simpa using hi)
  have hlt : ((i : Int) < vs.length) := by omega
  have w := wrap64_succ (i := i) (by omega)
  have hfi := findS_none 0 hf
  have es : esS l 0 ++ [(D.str vs[i], kcD 0, l.length)] = esS (l ++ [(vs[i], kcD 0)]) 0 := by
    rw [esS_snoc, Nat.zero_add]
    rfl
  have el : l.length + 1 = (l ++ [(vs[i], kcD 0)]).length := by simp
  have hma : mapAt σ.oth (.map mv) = some (mv, esS l 0, l.length) := by simp only [mapAt, hm, bindO, caseO_some]
  rw [List.getElem_replicate] at hy
  generalize l ++ [(vs[i], kcD 0)] = l2 at *
  generalize vs[i] = s at *
  have ec : kcD 0 = .agg [.int .i64 2, .int .i64 0, .nils] := rfl
  have okc : (D.agg [.int .i64 2, .int .i64 0, .nils]).ok = true := rfl
  have kd : keyD true (.str s) = true := rfl
  rw [ec] at hy es
  simp only [a_38, Ezp, sA, Nat.reduceAdd, Nat.reduceSub, Nat.reduceMul, Nat.reduceBEq, Nat.reduceLeDiff, Int.reduceBEq, Int.reduceBNe, Int.reduceLE, Int.reduceLT, Int.reduceGE, Int.reduceGT, Int.reduceNeg, kn, onel, kon, hx, hy, hlt, natI, memE, mUpd, hma, hfi, es, el, kd, okc, w]
theorem zp_end (mv : Nat) (vs : List Tx) : exec C n none a_38 (Ezp mv vs vs.length) σ = some (.exit 0, { Ezp mv vs vs.length with slots := [(1, ⟨false, dKc (List.replicate vs.length 0)⟩), (5, ⟨false, .map mv⟩), (9, ⟨false, dSs vs⟩), (10, ⟨false, .int .i64 vs.length⟩), (11, ⟨false, .int .i64 vs.length⟩), (12, ⟨false, .bool false⟩)] }, σ) := by
  have hlt : ¬ ((vs.length : Int) < vs.length) := by omega
  simp only [a_38, Ezp, sA, Nat.reduceAdd, Nat.reduceSub, Nat.reduceMul, Nat.reduceBEq, Nat.reduceLeDiff, Int.reduceBEq, Int.reduceBNe, Int.reduceLE, Int.reduceLT, Int.reduceGE, Int.reduceGT, Int.reduceNeg, kn, onel, hlt]
end
theorem zip_run {S : Specs} (hS : KndS S) (vs : List Tx) (hv : vs.length < 4) (hn : vs.Nodup) (σ : Store) : ∃ σ' mv es c, Fr σ σ' ∧ σ.next ≤ mv ∧ mv < σ'.next ∧ aget σ'.oth mv = some (.map es c) ∧ (∀ s, s ∈ vs → ∃ b i, findM (.str s) es = some (some (kcD 0, b, i))) ∧ ∃ N, ∀ k, N ≤ k → T S k n_149 [dSs vs, dKc (List.replicate vs.length 0)] σ = some (.ret ⟨false, .map mv⟩, σ') := by
  obtain ⟨σ4, e4⟩ : ∃ σ4, σ4 = GM σ (.map [] 0) := ⟨_, rfl⟩
  have n4 : σ4.next = σ.next + 1 := by rw [e4]; rfl
  have f4 : Fr σ σ4 := by rw [e4]; exact fr_GM _ _
  have m4 : aget σ4.oth σ.next = some (.map [] 0) := by rw [e4]; exact agS _ _ _
  obtain ⟨g, hg⟩ : ∃ g : Tx → Tx × D, g = fun s => (s, kcD 0) := ⟨_, rfl⟩
  obtain ⟨st, hst⟩ : ∃ st : Nat → Store, st = fun i => if i = 0 then σ4 else SM σ4 σ.next (.map (esS ((vs.take i).map g) 0) ((vs.take i).map g).length) := ⟨_, rfl⟩
  have st0 : st 0 = σ4 := by rw [hst]; rfl
  have stn : ∀ i, st (i + 1) = SM σ4 σ.next (.map (esS ((vs.take (i + 1)).map g) 0) ((vs.take (i + 1)).map g).length) := fun i => by rw [hst]; rfl
  have stm : ∀ i, aget (st i).oth σ.next = some (.map (esS ((vs.take i).map g) 0) ((vs.take i).map g).length) := fun i => by
    cases i with
    | zero => rw [st0]; exact m4
    | succ i => rw [stn]; exact SM_self
  have sts : ∀ i x, SM (st i) σ.next x = SM σ4 σ.next x := fun i x => by
    cases i with
    | zero => rw [st0]
    | succ i => rw [stn, SM_SM]
  have stf : ∀ i, Fm σ4 (st i) σ.next := fun i => by
    cases i with
    | zero => rw [st0]; exact (Fr.refl _).fm
    | succ i => rw [stn]; exact Fm.SM _
  have hfl := stf vs.length
  refine ⟨st vs.length, σ.next, _, _, ⟨Nat.le_trans f4.le hfl.le, fun j hj => (hfl.objs j (by omega)).trans (f4.objs j hj), fun j hj => (hfl.oth j (by omega) (by omega)).trans (f4.oth j hj), fun j hj => (hfl.tys j (by omega)).trans (f4.tys j hj)⟩, Nat.le_refl _, by have := hfl.le; omega, stm vs.length, fun s hs => ?_, 10, fun k hk => ?_⟩
  · rw [List.take_length]
    refine findS_some 0 (List.mem_map.2 ⟨s, hs, by rw [hg]⟩) ?_
    have : (vs.map g).map Prod.fst = vs := by
      rw [List.map_map, hg]
      exact List.map_id _
    rw [this]
    exact hn
  · obtain ⟨k, rfl⟩ : ∃ j, k = j + 1 := ⟨k - 1, by omega⟩
    have hr := loopN_run (body := exec (T S k) k none a_38) (Ezp σ.next vs) st vs.length (r := _) (fun _ _ h => by cases h) (fun i hi => by
      have sp := zp_step (C := T S k) (n := k) σ.next vs i hi (by omega) ((vs.take i).map g) (stm i) (fun x hx => by
        obtain ⟨d, hd, rfl⟩ := List.mem_map.1 hx
        rw [hg]
        show d ≠ vs[i]
        have hs : vs = vs.take i ++ vs[i] :: vs.drop (i + 1) := by rw [← List.drop_eq_getElem_cons hi, List.take_append_drop]
        rw [hs, List.nodup_append] at hn
        exact hn.2.2 _ hd _ List.mem_cons_self)
      have e : (vs.take i).map g ++ [(vs[i], kcD 0)] = (vs.take (i + 1)).map g := by
        rw [← take_snoc vs i hi, List.map_append, hg]
        rfl
      rw [sts, e, ← stn] at sp
      exact sp) (zp_end σ.next vs) 0 k (by omega) (by omega)
    rw [st0] at hr
    simp only [Ezp, zeroI] at hr
    have hlen := len_S vs
    rw [T_fun (af := a_92) hS.2.2.2.2.2.2.2.2.1 rfl rfl]
    simp only [a_92, sA, Nat.reduceAdd, Nat.reduceSub, Nat.reduceMul, Nat.reduceBEq, Nat.reduceLeDiff, Int.reduceBEq, Int.reduceBNe, Int.reduceLE, Int.reduceLT, Int.reduceGE, Int.reduceGT, Int.reduceNeg, kn, onel, kon, memE, mMake, ← e4, hlen, hr]
theorem kkind_run {S : Specs} (hS : KndS S) {Q : List (Int × D)} {a : D} (h : TQ Q a 0) {σ : Store} {p m q : Nat} (hB : SQ σ p m q Q) (n : Nat) (hn : 5 ≤ n) : T S n n_74 [.ptr p 0, a] σ = some (.ret ⟨false, .agg [.nils]⟩, σ) := by
  obtain ⟨n, rfl⟩ : ∃ k, n = k + 5 := ⟨n - 5, by omega⟩
  have l2 := h.look hS.1 hB (n + 1)
  obtain ⟨f, x, y, rfl, o1, o2, o3⟩ := h.agg
  have e0 : kcD 0 = .agg [.int .i64 2, .int .i64 0, .nils] := rfl
  have z : ((2 : Int) != 3) = true := rfl
  rw [e0] at l2
  rw [T_fun (af := a_96) hS.2.2.2.2.2.2.2.2.2.2.2.2 rfl rfl]
  simp only [a_96, sA, Nat.reduceAdd, Nat.reduceSub, Nat.reduceMul, Nat.reduceBEq, Nat.reduceLeDiff, Int.reduceBEq, Int.reduceBNe, Int.reduceLE, Int.reduceLT, Int.reduceGE, Int.reduceGT, Int.reduceNeg, kn, onel, o1, o2, o3, l2, z]
end Go.Fu
namespace Go.Fu
open Go Go.Mx
set_option maxRecDepth 100000
set_option maxHeartbeats 1000000
section
variable {C : CallF} {n : Nat} {σ : Store}
end
theorem sameW_obj {e : Env} {σ σ' : Store} {s q : Nat} {b : Bool} {off : Nat} (h : aget e.slots s = some ⟨b, .ptr q off⟩) (h1 : aget σ'.objs q = aget σ.objs q) : sameW e σ σ' s = true := by
  unfold sameW
  rw [h]
  show (caseO (aget σ.objs q) true fun cs => sameO (some cs) (aget σ'.objs q)) = true
  rw [h1]
  cases aget σ.objs q with
  | none => rfl
  | some x => exact sameO_refl x
end Go.Fu
namespace Go.Fu
open Go Go.Mx
set_option maxRecDepth 100000
set_option maxHeartbeats 1000000
end Go.Fu
namespace Go.Fu
open Go Go.Mx
set_option maxRecDepth 100000
set_option maxHeartbeats 1000000
end Go.Fu
namespace Go.Fu
open Go Go.Mx
set_option maxRecDepth 100000
set_option maxHeartbeats 1000000
def z2 : List Cell := [⟨false, .int .i64 0⟩, ⟨false, .int .i64 0⟩]
section
variable {C : CallF} {n : Nat} {σ : Store}
end
end Go.Fu
namespace Go.Fu
open Go Go.Mx
set_option maxRecDepth 100000
set_option maxHeartbeats 2000000
def mkR (y : Pt) (e a : Int) : Cell := ⟨false, .tup [dPt y, .agg [.int .i64 e, .int .i64 a]]⟩
end Go.Fu
namespace Go.Fu
open Go Go.Mx
set_option maxRecDepth 100000
set_option maxHeartbeats 2000000
end Go.Fu
