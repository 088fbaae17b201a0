/-
  A pattern without types, its places numbered; one pattern is made.
-/
import Derived.Test.YtmhedpkbfaginaaGreatDoorFlVe
set_option maxHeartbeats 4000000
set_option linter.unusedSimpArgs false
set_option linter.unusedVariables false
set_option linter.unusedSectionVars false
namespace Go.Fu
open Go Go.Mx
set_option maxRecDepth 100000
set_option maxHeartbeats 4000000
def zTy : Ty := .mk 0 0 [] []
mutual
def bareM : Pt → Nat → Pt × Nat
  | .mk f _ n s l _ _, a => (.mk f a n s (baresM l (a + 1)).1 zTy [], (baresM l (a + 1)).2)
def baresM : List Pt → Nat → List Pt × Nat
  | [], a => ([], a)
  | x :: r, a => ((bareM x a).1 :: (baresM r (bareM x a).2).1, (baresM r (bareM x a).2).2)
end
theorem baresM_snoc : ∀ (l : List Pt) (x : Pt) (a : Nat), baresM (l ++ [x]) a = ((baresM l a).1 ++ [(bareM x (baresM l a).2).1], (bareM x (baresM l a).2).2)
  | [], x, a => by simp [baresM]
  | y :: r, x, a => by
    simp only [List.cons_append, baresM, baresM_snoc r x]
mutual
theorem bareM_next : ∀ (x : Pt) (a : Nat), (bareM x a).2 = a + x.size
  | .mk f p n s l ty ts, a => by
    simp only [bareM, Pt.size, baresM_next l]
    omega
theorem baresM_next : ∀ (l : List Pt) (a : Nat), (baresM l a).2 = a + Pt.sizes l
  | [], a => by simp [baresM, Pt.sizes]
  | x :: r, a => by
    simp only [baresM, Pt.sizes, baresM_next r, bareM_next x]
    omega
end
theorem baresM_len : ∀ (l : List Pt) (a : Nat), (baresM l a).1.length = l.length
  | [], _ => rfl
  | x :: r, a => by simp only [baresM, List.length_cons, baresM_len r]
theorem sizes_take (l : List Pt) (i : Nat) (h : i < l.length) : Pt.sizes (l.take i) + l[i].size ≤ Pt.sizes l := by
  have e : Pt.sizes (l.take i) + l[i].size = Pt.sizes (l.take (i + 1)) := by rw [← take_snoc l i h, Pt.sizes_snoc]
  have app : ∀ a b : List Pt, Pt.sizes (a ++ b) = Pt.sizes a + Pt.sizes b := by
    intro a
    induction a with
    | nil => intro b; simp [Pt.sizes]
    | cons x r ih => intro b; simp only [List.cons_append, Pt.sizes, ih]; omega
  have := app (l.take (i + 1)) (l.drop (i + 1))
  rw [List.take_append_drop] at this
  omega
theorem size_pos (x : Pt) : 1 ≤ x.size := by
  cases x
  simp only [Pt.size]
  omega
theorem sizes_len : ∀ l : List Pt, l.length ≤ Pt.sizes l
  | [] => Nat.le_refl _
  | x :: r => by
    have := size_pos x
    have := sizes_len r
    simp only [List.length_cons, Pt.sizes]
    omega
def sp_bare : List D → Cell → Prop := fun ds c => ∀ x, ∀ a : Nat, ds = [dPt x, .int .i64 a] → c = ⟨false, .tup [dPt (bareM x a).1, .int .i64 (bareM x a).2]⟩
def SBr : Specs := [(n_25, sp_bare)]
section
variable {C : CallF} {n : Nat} {σ : Store}
def bPx (x : Pt) : List Cell := [⟨false, .int .i64 x.form⟩, ⟨false, .int .i64 x.pos⟩, ⟨false, .int .i64 x.n⟩, ⟨false, .str x.name⟩, ⟨false, dPl x.kids⟩, ⟨false, .int .i64 x.ty.f⟩, ⟨false, .int .i64 x.ty.n⟩, ⟨false, .str x.ty.s⟩, ⟨false, dTl x.ty.as_⟩, ⟨false, dTl x.types⟩]
def bBr (x : Pt) (a : Nat) (l : List Pt) : List Cell := [⟨false, .int .i64 x.form⟩, ⟨false, .int .i64 a⟩, ⟨false, .int .i64 x.n⟩, ⟨false, .str x.name⟩, ⟨fl l, dPl l⟩, ⟨false, .int .i64 0⟩, ⟨false, .int .i64 0⟩, ⟨false, .str []⟩, ⟨false, .nils⟩, ⟨false, .nils⟩]
def Ebr (x : Pt) (a i : Nat) : Env := { slots := [(7, ⟨false, .int .i64 (baresM (x.kids.take i) (a + 1)).2⟩), (8, ⟨false, .int .i64 i⟩)], locs := [(2, 2, 0), (4, 4, 0), (6, 6, 0)], boxes := [(2, bPx x), (4, z10), (6, bBr x a (baresM (x.kids.take i) (a + 1)).1)], defers := [] }
theorem br_step (x : Pt) (a i : Nat) (hi : i < x.kids.length) (hl : x.kids.length ≤ 100000) (h1 : C n_25 [dPt x.kids[i], .int .i64 (baresM (x.kids.take i) (a + 1)).2] σ = some (.ret ⟨false, .tup [dPt (bareM x.kids[i] (baresM (x.kids.take i) (a + 1)).2).1, .int .i64 (bareM x.kids[i] (baresM (x.kids.take i) (a + 1)).2).2]⟩, σ)) : exec C n none a_71 (Ebr x a i) σ = some (.normal, Ebr x a (i + 1), σ) := by
  have hx := idx_P x.kids i hi
  have hlen := len_P x.kids
  have hlt : ((i : Int) < x.kids.length) := by omega
  have w := wrap64_succ (i := i) (by omega)
  have hll : (baresM (x.kids.take i) (a + 1)).1.length ≤ 100000 := by rw [baresM_len, List.length_take]; omega
  have hap := app_P (baresM (x.kids.take i) (a + 1)).1 (bareM x.kids[i] (baresM (x.kids.take i) (a + 1)).2).1 (fl (baresM (x.kids.take i) (a + 1)).1) fl_ne (by omega)
  unfold Ebr
  rw [← take_snoc _ _ hi, baresM_snoc]
  simp only [bBr]
  rw [fl_snoc]
  generalize (baresM (x.kids.take i) (a + 1)).2 = m at *
  generalize (baresM (x.kids.take i) (a + 1)).1 = L at *
  generalize (bareM x.kids[i] m).2 = m2 at *
  generalize (bareM x.kids[i] m).1 = y at *
  generalize L ++ [y] = L2 at *
  generalize x.kids[i] = z at *
  simp only [dPt_eq, cPt] at h1 hap hx
  simp only [a_71, bPx, z10, sA, Nat.reduceAdd, Nat.reduceSub, Nat.reduceMul, Nat.reduceBEq, Nat.reduceLeDiff, Int.reduceBEq, Int.reduceBNe, Int.reduceLE, Int.reduceLT, Int.reduceGE, Int.reduceGT, Int.reduceNeg, kn, onel, onep, natI, hx, hlen, hlt, h1, hap, w]
theorem br_end (x : Pt) (a : Nat) (hl : x.kids.length ≤ 100000) : exec C n none a_71 (Ebr x a x.kids.length) σ = some (.exit 0, { Ebr x a x.kids.length with slots := [(7, ⟨false, .int .i64 (baresM x.kids (a + 1)).2⟩), (8, ⟨false, .int .i64 x.kids.length⟩), (25, ⟨false, .bool false⟩)] }, σ) := by
  have hlen := len_P x.kids
  have hlt : ¬ ((x.kids.length : Int) < x.kids.length) := by omega
  unfold Ebr
  rw [List.take_length]
  generalize (baresM x.kids (a + 1)).2 = m at *
  simp only [a_71, bPx, sA, Nat.reduceAdd, Nat.reduceSub, Nat.reduceMul, Nat.reduceBEq, Nat.reduceLeDiff, Int.reduceBEq, Int.reduceBNe, Int.reduceLE, Int.reduceLT, Int.reduceGE, Int.reduceGT, Int.reduceNeg, kn, onel, onep, hlen, hlt]
end
theorem bare_one (x : Pt) (a : Nat) (ha : a + x.size ≤ 100000) (ih : ∀ k ∈ x.kids, ∀ b : Nat, b + k.size ≤ 100000 → OkP n_25 [dPt k, .int .i64 b] ⟨false, .tup [dPt (bareM k b).1, .int .i64 (bareM k b).2]⟩) : OkP n_25 [dPt x, .int .i64 a] ⟨false, .tup [dPt (bareM x a).1, .int .i64 (bareM x a).2]⟩ := by
  have hsz : x.size = 1 + Pt.sizes x.kids := by cases x; rfl
  have hl : x.kids.length ≤ 100000 := by have := sizes_len x.kids; omega
  have hcall : ∀ i (hi : i < x.kids.length), T SBr 1 n_25 [dPt x.kids[i], .int .i64 (baresM (x.kids.take i) (a + 1)).2] σ0 = some (.ret ⟨false, .tup [dPt (bareM x.kids[i] (baresM (x.kids.take i) (a + 1)).2).1, .int .i64 (bareM x.kids[i] (baresM (x.kids.take i) (a + 1)).2).2]⟩, σ0) := by
    intro i hi
    have hb := sizes_take x.kids i hi
    have hn := baresM_next (x.kids.take i) (a + 1)
    obtain ⟨c, g1, g2⟩ := T_orc (S := SBr) (f := n_25) rfl rfl (s := sp_bare) (c := ⟨false, .tup [dPt (bareM x.kids[i] (baresM (x.kids.take i) (a + 1)).2).1, .int .i64 (bareM x.kids[i] (baresM (x.kids.take i) (a + 1)).2).2]⟩) (fun y b e => by
      simp only [List.cons.injEq, D.int.injEq, true_and, and_true, Int.natCast_inj] at e
      obtain ⟨e1, e2⟩ := e
      rw [dPt_inj e1, e2]) (ih _ (List.getElem_mem hi) _ (by omega))
    rw [g2, g1 _ _ rfl]
  have hr := loopN_run (body := exec (T SBr 1) (x.kids.length + 1) none a_71) (Ebr x a) (fun _ => σ0) x.kids.length (r := _) (fun _ _ h => by cases h) (fun i hi => br_step x a i hi hl (hcall i hi)) (br_end x a hl) 0 (x.kids.length + 1) (by omega) (by omega)
  have wa := wrap64_succ (i := a) (by omega)
  have hm : bareM x a = (.mk x.form a x.n x.name (baresM x.kids (a + 1)).1 zTy [], (baresM x.kids (a + 1)).2) := by cases x; rfl
  rw [hm]
  refine pure_fun (af := a_120) (n := x.kids.length + 1) (σ' := σ0) (T_sound SBr 1) rfl rfl (by simp [noPtrL, noPtr_dPt, noPtr]) (by simp [noPtr, noPtrL, noPtr_dPt]) ?_
  unfold Ebr at hr
  rw [List.take_length] at hr
  have e0 : (baresM (x.kids.take 0) (a + 1)).2 = a + 1 := rfl
  have e1 : (baresM (x.kids.take 0) (a + 1)).1 = [] := rfl
  have f0 : fl ([] : List Pt) = false := rfl
  have p0 : dPl [] = .nils := rfl
  simp only [e0, e1, bBr, bPx, z10, f0, p0, zeroI] at hr
  generalize (baresM x.kids (a + 1)).2 = m at *
  generalize (baresM x.kids (a + 1)).1 = L at *
  have hres : dPt (.mk x.form a x.n x.name L zTy []) = .agg [.int .i64 x.form, .int .i64 a, .int .i64 x.n, .str x.name, dPl L, .int .i64 0, .int .i64 0, .str [], .nils, .nils] := dPt_eq _
  rw [hres, dPt_eq x]
  simp only [a_120, sA, Nat.reduceAdd, Nat.reduceSub, Nat.reduceMul, Nat.reduceBEq, Nat.reduceLeDiff, Int.reduceBEq, Int.reduceBNe, Int.reduceLE, Int.reduceLT, Int.reduceGE, Int.reduceGT, Int.reduceNeg, kn, onel, onep, cPt, wa, hr]
mutual
theorem bare_pure : ∀ (x : Pt) (a : Nat), a + x.size ≤ 100000 → OkP n_25 [dPt x, .int .i64 a] ⟨false, .tup [dPt (bareM x a).1, .int .i64 (bareM x a).2]⟩
  | .mk f p n s l ty ts, a, ha => bare_one (.mk f p n s l ty ts) a ha (bares_pure l)
theorem bares_pure : ∀ (l : List Pt), ∀ k ∈ l, ∀ b : Nat, b + k.size ≤ 100000 → OkP n_25 [dPt k, .int .i64 b] ⟨false, .tup [dPt (bareM k b).1, .int .i64 (bareM k b).2]⟩
  | [], k, hk => by cases hk
  | x :: r, k, hk => fun b hb => by
    rcases List.mem_cons.1 hk with e | e
    · rw [e] at hb ⊢
      exact bare_pure x b hb
    · exact bares_pure r k e b hb
end
mutual
theorem W.bare : ∀ {x : Pt} {t : Nat}, W t x → ∀ a, W t (bareM x a).1
  | .mk f p n s l ty ts, t, h, a => by
    cases h with
    | wild => exact .wild
    | name => exact .name
    | num => exact .num
    | con hm h => exact .con hm (WL.bare h (a + 1))
theorem WL.bare : ∀ {l : List Pt} {ts : List Nat}, WL ts l → ∀ a, WL ts (baresM l a).1
  | [], _, .nil, a => .nil
  | x :: r, _, .cons h hl, a => .cons (W.bare h a) (WL.bare hl _)
end
end Go.Fu
namespace Go.Fu
open Go Go.Mx
set_option maxRecDepth 100000
set_option maxHeartbeats 4000000
def SOn (d : D) (e : D) : Specs := [(n_14, spK d), (n_25, spK e)]
theorem one_ok {d0 : D} {xs : List Int} (hR : IR d0 xs) : ∃ y, ∃ t : Nat, t < 5 ∧ W' 3 t y ∧ OkP n_39 [d0] ⟨false, .tup [dPt (bareM y 1).1, .int .i64 t]⟩ := by
  have hz : ∀ t : Nat, t < 5 → ∀ n, finX Ra (fun _ _ _ => none) a_44 0 (some (.ret, n)) = finX Ra (fun _ _ _ => none) a_44 0 (some (.ret, n)) := fun _ _ _ => rfl
  obtain ⟨t, ht, hcase⟩ : ∃ t : Nat, t < 5 ∧ ((∃ h : 0 < xs.length, xs[0] > 0 ∧ xs[0].tmod 5 = (t : Int)) ∨ ((∃ h : 0 < xs.length, ¬ xs[0] > 0) ∧ t = 0) ∨ (xs.length = 0 ∧ t = 0)) := by
    by_cases h : 0 < xs.length
    · by_cases h1 : xs[0] > 0
      · refine ⟨(xs[0].tmod 5).toNat, ?_, .inl ⟨h, h1, ?_⟩⟩
        · rw [Int.tmod_eq_emod_of_nonneg (by omega)]
          omega
        · rw [Int.tmod_eq_emod_of_nonneg (by omega)]
          omega
      · exact ⟨0, by omega, .inr (.inl ⟨⟨h, h1⟩, rfl⟩)⟩
    · exact ⟨0, by omega, .inr (.inr ⟨by omega, rfl⟩)⟩
  obtain ⟨y, nx, hw, hnx, hp⟩ := pattern_ok hR 3 (by omega) 1 t (by decide) ht
  have hb := bare_pure y 1 (by have := hw.2; have : (2 : Nat) ^ (3 + 1) = 16 := rfl; omega)
  refine ⟨y, t, ht, hw, ?_⟩
  have c1 := callK (S := SOn (.tup [dPt y, .int .i64 nx]) (.tup [dPt (bareM y 1).1, .int .i64 (bareM y 1).2])) rfl rfl hp 0 σ0
  have c2 := callK (S := SOn (.tup [dPt y, .int .i64 nx]) (.tup [dPt (bareM y 1).1, .int .i64 (bareM y 1).2])) rfl rfl hb 0 σ0
  refine OkP.weak (o := false) rfl (pure_fun (af := a_44) (n := 1) (σ' := σ0) (T_sound (SOn (.tup [dPt y, .int .i64 nx]) (.tup [dPt (bareM y 1).1, .int .i64 (bareM y 1).2])) 1) rfl rfl (by simp [noPtrL, hR.np]) (by simp [noPtr, noPtrL, noPtr_dPt]) ?_)
  have hlen := hR.len
  have wt5 : IntKind.i64.wrap (t : Int) = (t : Int) := wrap64 (by omega) (by omega)
  rw [oneI] at c1 c2
  rw [show ((3 : Nat) : Int) = 3 from rfl] at c1
  generalize (bareM y 1).2 = m at *
  generalize (bareM y 1).1 = x at *
  simp only [dPt_eq, cPt] at c1 c2 ⊢
  rcases hcase with ⟨h, h1, h2⟩ | ⟨⟨h, h1⟩, h2⟩ | ⟨h, h2⟩
  · have hx := hR.idx 0 h
    have g : (xs.length : Int) > 0 := by omega
    generalize xs[0] = v at *
    simp only [a_44, sA, Nat.reduceAdd, Nat.reduceSub, Nat.reduceMul, Nat.reduceBEq, Nat.reduceLeDiff, Int.reduceBEq, Int.reduceBNe, Int.reduceLE, Int.reduceLT, Int.reduceGE, Int.reduceGT, Int.reduceNeg, kn, onel, onep, hlen, g, hx, h1, h2, wt5, c1, c2]
  · have hx := hR.idx 0 h
    have g : (xs.length : Int) > 0 := by omega
    subst h2
    rw [zeroI] at c1
    generalize xs[0] = v at *
    simp only [a_44, sA, Nat.reduceAdd, Nat.reduceSub, Nat.reduceMul, Nat.reduceBEq, Nat.reduceLeDiff, Int.reduceBEq, Int.reduceBNe, Int.reduceLE, Int.reduceLT, Int.reduceGE, Int.reduceGT, Int.reduceNeg, kn, onel, onep, hlen, g, hx, h1, c1, c2, zeroI]
  · have g : ¬ ((xs.length : Int) > 0) := by omega
    subst h2
    rw [zeroI] at c1
    simp only [a_44, sA, Nat.reduceAdd, Nat.reduceSub, Nat.reduceMul, Nat.reduceBEq, Nat.reduceLeDiff, Int.reduceBEq, Int.reduceBNe, Int.reduceLE, Int.reduceLT, Int.reduceGE, Int.reduceGT, Int.reduceNeg, kn, onel, onep, hlen, g, c1, c2, zeroI]
end Go.Fu
namespace Go.Fu
open Go Go.Mx
set_option maxRecDepth 100000
set_option maxHeartbeats 4000000
def wname : Nat → Tx
  | 0 => [73, 110, 116]
  | 1 => [66, 111, 111, 108]
  | 3 => [84]
  | _ => [76]
def wargs : Nat → List Ty
  | 2 => [wt 0]
  | 4 => [wt 1]
  | _ => []
theorem spine_pure (t : Nat) (ht : t < 5) : OkP n_89 [dTy (wt t)] ⟨false, .tup [.str (wname t), dTl (wargs t)]⟩ := by
  match t, ht with
  | 0, _ => exact closed 20 rfl rfl rfl (σ' := σ0) (by kernel_rfl)
  | 1, _ => exact closed 20 rfl rfl rfl (σ' := σ0) (by kernel_rfl)
  | 2, _ => exact closed 20 rfl rfl rfl (σ' := σ0) (by kernel_rfl)
  | 3, _ => exact closed 20 rfl rfl rfl (σ' := σ0) (by kernel_rfl)
  | 4, _ => exact closed 20 rfl rfl rfl (σ' := σ0) (by kernel_rfl)
theorem subst_pure : ∀ q ∈ [(tVar [97], [[97]], 2, 0), (tApp (tCon [76]) (tVar [97]), [[97]], 2, 2), (tVar [97], [[97]], 4, 1), (tApp (tCon [76]) (tVar [97]), [[97]], 4, 4), (wt 0, [], 3, 0), (wt 1, [], 3, 1), (wt 3, [], 3, 3)], OkP n_8 [dTy q.1, dSs q.2.1, dTl (wargs q.2.2.1)] ⟨false, dTy (wt q.2.2.2)⟩ := by
  intro q hq
  simp only [List.mem_cons, List.not_mem_nil, or_false] at hq
  rcases hq with rfl | rfl | rfl | rfl | rfl | rfl | rfl
  · exact closed 20 rfl rfl rfl (σ' := σ0) (by kernel_rfl)
  · exact closed 20 rfl rfl rfl (σ' := σ0) (by kernel_rfl)
  · exact closed 20 rfl rfl rfl (σ' := σ0) (by kernel_rfl)
  · exact closed 20 rfl rfl rfl (σ' := σ0) (by kernel_rfl)
  · exact closed 20 rfl rfl rfl (σ' := σ0) (by kernel_rfl)
  · exact closed 20 rfl rfl rfl (σ' := σ0) (by kernel_rfl)
  · exact closed 20 rfl rfl rfl (σ' := σ0) (by kernel_rfl)
theorem world_fine : FineL worldM := by
  refine ⟨by simp [worldM], fun d hd => ?_⟩
  simp only [worldM, List.mem_cons, List.not_mem_nil, or_false] at hd
  rcases hd with rfl | rfl
  · refine ⟨by simp, by simp, fun c hc => ?_⟩
    simp only [List.mem_cons, List.not_mem_nil, or_false] at hc
    rcases hc with rfl | rfl
    · exact ⟨by simp, fun _ h => by cases h⟩
    · refine ⟨by simp, fun t ht => ?_⟩
      simp only [List.mem_cons, List.not_mem_nil, or_false] at ht
      rcases ht with rfl | rfl
      · exact fine_var _
      · exact fine_app (fine_con _) (fine_var _)
  · refine ⟨by simp, by simp, fun c hc => ?_⟩
    simp only [List.mem_cons, List.not_mem_nil, or_false] at hc
    rcases hc with rfl | rfl | rfl
    · exact ⟨by simp, fun _ h => by cases h⟩
    · refine ⟨by simp, fun t ht => ?_⟩
      simp only [List.mem_cons, List.not_mem_nil, or_false] at ht
      rcases ht with rfl | rfl
      · exact wt_fine 0
      · exact wt_fine 1
    · refine ⟨by simp, fun t ht => ?_⟩
      simp only [List.mem_cons, List.not_mem_nil, or_false] at ht
      rcases ht with rfl
      exact wt_fine 3
end Go.Fu
namespace Go.Fu
open Go Go.Mx
set_option maxRecDepth 100000
set_option maxHeartbeats 4000000
def lookN (s : Tx) : List (Tx × List Nat) → Option (List Nat)
  | [] => none
  | p :: r => if p.1 = s then some p.2 else lookN s r
mutual
def fitsM : Pt → Nat → Int × Int
  | .mk f p _ s l _ _, t =>
    if f = 3 then (if t = 0 then (0, 0) else (31, p))
    else if f = 4 then (match lookN s (wcons t) with
      | none => (31, p)
      | some ks => fitsL l ks)
    else (0, 0)
def fitsL : List Pt → List Nat → Int × Int
  | x :: r, k :: ks => if (fitsM x k).1 = 0 then fitsL r ks else fitsM x k
  | _, _ => (0, 0)
end
def wd : Nat → Da
  | 1 => ⟨[66, 111, 111, 108], 0, [], [⟨[70, 97, 108, 115, 101], 0, []⟩, ⟨[84, 114, 117, 101], 0, []⟩]⟩
  | 3 => ⟨[84], 2, [], [⟨[65], 0, []⟩, ⟨[66], 0, [wt 0, wt 1]⟩, ⟨[68], 0, [wt 3]⟩]⟩
  | _ => ⟨[76], 1, [[97]], [⟨[78], 0, []⟩, ⟨[67], 0, [tVar [97], tApp (tCon [76]) (tVar [97])]⟩]⟩
theorem conM_world : ∀ t, t < 5 → ∀ k (h : k < (wcons t).length), conM (wcons t)[k].1 (pre3 ++ worldM) = some (wd t, k)
  | 0, _, k, h => absurd h (by simp [wcons])
  | 1, _, 0, _ => rfl
  | 1, _, 1, _ => rfl
  | 2, _, 0, _ => rfl
  | 2, _, 1, _ => rfl
  | 3, _, 0, _ => rfl
  | 3, _, 1, _ => rfl
  | 3, _, 2, _ => rfl
  | 4, _, 0, _ => rfl
  | 4, _, 1, _ => rfl
def wcode (u : Ty) : Nat :=
  if u.f = 4 then (if (u.as_.getD 1 u).s = [73, 110, 116] then 2 else 4) else if u.s = [73, 110, 116] then 0 else if u.s = [84] then 3 else 1
theorem wcode_wt : ∀ t, t < 5 → wcode (wt t) = t
  | 0, _ => rfl
  | 1, _ => rfl
  | 2, _ => rfl
  | 3, _ => rfl
  | 4, _ => rfl
theorem wt_inj {t u : Nat} (ht : t < 5) (hu : u < 5) (h : wt t = wt u) : t = u := by
  rw [← wcode_wt t ht, ← wcode_wt u hu, h]
end Go.Fu
namespace Go.Fu
open Go Go.Mx
set_option maxRecDepth 100000
set_option maxHeartbeats 4000000
section
variable {C : CallF} {n : Nat} {σ : Store}
def bPrg : List Cell := [⟨false, dDl worldM⟩, ⟨false, .nils⟩, ⟨false, .nils⟩, ⟨false, .nils⟩]
def Efi (x : Pt) (d : Da) (k : Nat) (args : List Ty) (i : Nat) : Env := { slots := [(8, ⟨false, dTl args⟩), (10, ⟨false, .int .i64 k⟩), (12, ⟨false, .int .i64 i⟩)], locs := [(3, 3, 0), (4, 4, 0), (6, 6, 0), (9, 9, 0)], boxes := [(3, bPrg), (4, bPx x), (6, [⟨false, .int .i64 0⟩, ⟨false, .int .i64 0⟩]), (9, bD d)], defers := [] }
theorem fi_step (x : Pt) (d : Da) (k : Nat) (hk : k < d.cons.length) (args : List Ty) (i : Nat) (hi : i < x.kids.length) (hl : x.kids.length ≤ 100) (hf : i < d.cons[k].fs.length) (u : Ty) (e2 : Int) (h1 : C n_8 [dTy (d.cons[k].fs[i]), dSs d.vars, dTl args] σ = some (.ret ⟨false, dTy u⟩, σ)) (h2 : C n_26 [dPr worldM, dPt x.kids[i], dTy u] σ = some (.ret ⟨false, .agg [.int .i64 0, .int .i64 e2]⟩, σ)) : exec C n none a_43 (Efi x d k args i) σ = some (.normal, Efi x d k args (i + 1), σ) := by
  have hx := idx_P x.kids i hi
  have hlen := len_P x.kids
  have hlt : ((i : Int) < x.kids.length) := by omega
  have w := wrap64_succ (i := i) (by omega)
  have hy := idx_C d.cons k hk
  have hz := idx_T d.cons[k].fs i hf
  generalize d.cons[k].fs[i] = v at *
  generalize d.cons[k] = c at *
  generalize x.kids[i] = z at *
  have epr : dPr worldM = .agg [dDl worldM, .nils, .nils, .nils] := rfl
  rw [epr] at h2
  simp only [dPt_eq, cPt, dTy_eq, cTy_eq] at h1 h2 hx hz
  simp only [dCn_eq] at hy
  simp only [a_43, Efi, bPrg, bPx, bD, sA, Nat.reduceAdd, Nat.reduceSub, Nat.reduceMul, Nat.reduceBEq, Nat.reduceLeDiff, Int.reduceBEq, Int.reduceBNe, Int.reduceLE, Int.reduceLT, Int.reduceGE, Int.reduceGT, Int.reduceNeg, kn, onel, onep, natI, hx, hy, hz, hlen, hlt, h1, h2, w]
theorem fi_stop (x : Pt) (d : Da) (k : Nat) (hk : k < d.cons.length) (args : List Ty) (i : Nat) (hi : i < x.kids.length) (hf : i < d.cons[k].fs.length) (u : Ty) (e1 e2 : Int) (he : e1 ≠ 0) (h1 : C n_8 [dTy (d.cons[k].fs[i]), dSs d.vars, dTl args] σ = some (.ret ⟨false, dTy u⟩, σ)) (h2 : C n_26 [dPr worldM, dPt x.kids[i], dTy u] σ = some (.ret ⟨false, .agg [.int .i64 e1, .int .i64 e2]⟩, σ)) : exec C n none a_43 (Efi x d k args i) σ = some (.ret, { slots := [], locs := [(6, 6, 0)], boxes := [(6, [⟨false, .int .i64 e1⟩, ⟨false, .int .i64 e2⟩])], defers := [] }, σ) := by
  have hx := idx_P x.kids i hi
  have hlen := len_P x.kids
  have hlt : ((i : Int) < x.kids.length) := by omega
  have hy := idx_C d.cons k hk
  have hz := idx_T d.cons[k].fs i hf
  have hne : (e1 != 0) = true := by simpa using he
  generalize d.cons[k].fs[i] = v at *
  generalize d.cons[k] = c at *
  generalize x.kids[i] = z at *
  have epr : dPr worldM = .agg [dDl worldM, .nils, .nils, .nils] := rfl
  rw [epr] at h2
  simp only [dPt_eq, cPt, dTy_eq, cTy_eq] at h1 h2 hx hz
  simp only [dCn_eq] at hy
  simp only [a_43, Efi, bPrg, bPx, bD, sA, Nat.reduceAdd, Nat.reduceSub, Nat.reduceMul, Nat.reduceBEq, Nat.reduceLeDiff, Int.reduceBEq, Int.reduceBNe, Int.reduceLE, Int.reduceLT, Int.reduceGE, Int.reduceGT, Int.reduceNeg, kn, onel, onep, natI, hx, hy, hz, hlen, hlt, h1, h2, hne]
theorem fi_end (x : Pt) (d : Da) (k : Nat) (args : List Ty) : exec C n none a_43 (Efi x d k args x.kids.length) σ = some (.exit 0, { Efi x d k args x.kids.length with slots := [(8, ⟨false, dTl args⟩), (10, ⟨false, .int .i64 k⟩), (12, ⟨false, .int .i64 x.kids.length⟩), (84, ⟨false, .bool false⟩)] }, σ) := by
  have hlen := len_P x.kids
  have hlt : ¬ ((x.kids.length : Int) < x.kids.length) := by omega
  simp only [a_43, Efi, bPx, sA, Nat.reduceAdd, Nat.reduceSub, Nat.reduceMul, Nat.reduceBEq, Nat.reduceLeDiff, Int.reduceBEq, Int.reduceBNe, Int.reduceLE, Int.reduceLT, Int.reduceGE, Int.reduceGT, Int.reduceNeg, kn, onel, onep, hlen, hlt]
end
/-! ### The kids in order -/
def fitAt (l : List Pt) (ks : List Nat) (i : Nat) : Int × Int := fitsM (l.getD i (.mk 1 0 0 [] [] zTy [])) (ks.getD i 0)
theorem fitsL_first : ∀ (l : List Pt) (ks : List Nat) (pl : List Pt) (pk : List Nat), l.length = ks.length → pl.length = pk.length → match firstN (fun i => (fitAt (pl ++ l) (pk ++ ks) i).1 != 0) l.length pl.length with
    | none => fitsL l ks = (0, 0)
    | some i => fitsL l ks = fitAt (pl ++ l) (pk ++ ks) i
  | [], [], _, _, _, _ => by simp [firstN, fitsL]
  | x :: r, k :: ks, pl, pk, h, hp => by
    have ih := fitsL_first r ks (pl ++ [x]) (pk ++ [k]) (by simpa using h) (by simp [hp])
    have e : fitAt (pl ++ x :: r) (pk ++ k :: ks) pl.length = fitsM x k := by
      unfold fitAt
      congr 1
      · simp
      · rw [hp]; simp
    simp only [List.append_assoc, List.singleton_append, List.length_append, List.length_singleton] at ih
    rw [List.length_cons, firstN, e, fitsL]
    by_cases h0 : (fitsM x k).1 = 0
    · have hb : ((fitsM x k).1 != 0) = false := by simp [h0]
      rw [hb, if_pos h0]
      exact ih
    · have hb : ((fitsM x k).1 != 0) = true := by simpa using h0
      rw [hb, if_neg h0]
      exact e.symm
end Go.Fu
namespace Go.Fu
open Go Go.Mx
set_option maxRecDepth 100000
set_option maxHeartbeats 4000000
def sp_fits : List D → Cell → Prop := fun ds c => ∀ x, ∀ t : Nat, t < 5 → ds = [dPr worldM, dPt x, dTy (wt t)] → c = ⟨false, .agg [.int .i64 (fitsM x t).1, .int .i64 (fitsM x t).2]⟩
def FitsOk (x : Pt) (t : Nat) : Prop := OkP n_26 [dPr worldM, dPt x, dTy (wt t)] ⟨false, .agg [.int .i64 (fitsM x t).1, .int .i64 (fitsM x t).2]⟩
def fq : List (Ty × List Tx × Nat × Nat) := [(tVar [97], [[97]], 2, 0), (tApp (tCon [76]) (tVar [97]), [[97]], 2, 2), (tVar [97], [[97]], 4, 1), (tApp (tCon [76]) (tVar [97]), [[97]], 4, 4), (wt 0, [], 3, 0), (wt 1, [], 3, 1), (wt 3, [], 3, 3)]
def sp_sub : List D → Cell → Prop := fun ds c => ∀ q ∈ fq, ds = [dTy q.1, dSs q.2.1, dTl (wargs q.2.2.1)] → c = ⟨false, dTy (wt q.2.2.2)⟩
def tcode (u : Ty) : Nat := if u.f = 2 then 10 else if u.f = 4 then (if (u.as_.getD 1 u).f = 2 then 11 else 12) else if u.s = [73, 110, 116] then 0 else if u.s = [84] then 3 else 1
def acode (l : List Ty) : Nat := match l with
  | [] => 0
  | u :: _ => 1 + tcode u
theorem fq_one : ∀ q ∈ fq, ∀ r ∈ fq, tcode q.1 = tcode r.1 → acode (wargs q.2.2.1) = acode (wargs r.2.2.1) → q.2.2.2 = r.2.2.2 := by
  intro q hq r hr
  simp only [fq, List.mem_cons, List.not_mem_nil, or_false] at hq hr
  rcases hq with rfl | rfl | rfl | rfl | rfl | rfl | rfl <;> rcases hr with rfl | rfl | rfl | rfl | rfl | rfl | rfl <;> first | (intro _ _; rfl) | (intro h1 h2; exact absurd h1 (by decide)) | (intro h1 h2; exact absurd h2 (by decide))
theorem call_sub {S : Specs} (hS : aget S n_8 = some sp_sub) (q : Ty × List Tx × Nat × Nat) (hq : q ∈ fq) (n : Nat) (σ : Store) : T S (n + 1) n_8 [dTy q.1, dSs q.2.1, dTl (wargs q.2.2.1)] σ = some (.ret ⟨false, dTy (wt q.2.2.2)⟩, σ) := by
  obtain ⟨c, g1, g2⟩ := T_orc (S := S) hS rfl (s := sp_sub) (c := ⟨false, dTy (wt q.2.2.2)⟩) (fun r hr e => by
    simp only [List.cons.injEq, and_true] at e
    rw [fq_one q hq r hr (by rw [dTy_inj e.1]) (by rw [dTl_inj e.2.2])]) (subst_pure q hq)
  rw [g2, g1 q hq rfl]
theorem call_fits {S : Specs} (hS : aget S n_26 = some sp_fits) (x : Pt) (t : Nat) (ht : t < 5) (h : FitsOk x t) (n : Nat) (σ : Store) : T S (n + 1) n_26 [dPr worldM, dPt x, dTy (wt t)] σ = some (.ret ⟨false, .agg [.int .i64 (fitsM x t).1, .int .i64 (fitsM x t).2]⟩, σ) := by
  obtain ⟨c, g1, g2⟩ := T_orc (S := S) hS rfl (s := sp_fits) (fun y u hu e => by
    simp only [List.cons.injEq, and_true, true_and] at e
    rw [dPt_inj e.1, wt_inj ht hu (dTy_inj e.2)]) h
  rw [g2, g1 x t ht rfl]
def SFi (x : Pt) (t : Nat) : Specs := [(n_89, spK (.tup [.str (wname t), dTl (wargs t)])), (n_101, spK (conR (conM x.name (pre3 ++ worldM)))), (n_8, sp_sub), (n_26, sp_fits)]
theorem fits_fun {x y : Pt} {t : Nat} {e : Int × Int} {n : Nat} (hr : finX Ra (fun _ _ _ => none) a_21 0 (exec (T (SFi y t) 1) n none a_21.body (initEnv [dPr worldM, dPt x, dTy (wt t)]) σ0) = some (.ret ⟨false, .agg [.int .i64 e.1, .int .i64 e.2]⟩, σ0)) : OkP n_26 [dPr worldM, dPt x, dTy (wt t)] ⟨false, .agg [.int .i64 e.1, .int .i64 e.2]⟩ :=
  pure_fun (af := a_21) (n := n) (σ' := σ0) (T_sound (SFi y t) 1) rfl rfl (by simp [noPtrL, noPtr_dPt, noPtr_dPr, noPtr_dTy]) rfl hr
theorem fits_free (x : Pt) (t : Nat) (ht : t < 5) (h : x.form ≠ 4) (h3 : x.form ≠ 3) : FitsOk x t := by
  have hs := callK (S := SFi x t) rfl rfl (spine_pure t ht) 0 σ0
  have hm : fitsM x t = (0, 0) := by
    cases x
    simp only [Pt.form] at h h3
    simp only [fitsM, if_neg h, if_neg h3]
  have b3 : (x.form == 3) = false := beq_false_of_ne h3
  have b4 : (x.form != 4) = true := by simpa using h
  unfold FitsOk
  rw [hm]
  refine fits_fun (y := x) (n := 1) ?_
  have epr : dPr worldM = .agg [dDl worldM, .nils, .nils, .nils] := rfl
  rw [epr, dPt_eq]
  generalize wt t = w at *
  generalize dTl (wargs t) = A at *
  simp only [dTy_eq, cTy_eq] at hs ⊢
  simp only [a_21, sA, Nat.reduceAdd, Nat.reduceSub, Nat.reduceMul, Nat.reduceBEq, Nat.reduceLeDiff, Int.reduceBEq, Int.reduceBNe, Int.reduceLE, Int.reduceLT, Int.reduceGE, Int.reduceGT, Int.reduceNeg, kn, onel, onep, cPt, hs, b3, b4]
end Go.Fu
namespace Go.Fu
open Go Go.Mx
set_option maxRecDepth 100000
set_option maxHeartbeats 4000000
theorem fits_num (x : Pt) (t : Nat) (ht : t < 5) (h3 : x.form = 3) : FitsOk x t := by
  have hs := callK (S := SFi x t) rfl rfl (spine_pure t ht) 0 σ0
  have hm : fitsM x t = if t = 0 then (0, 0) else (31, x.pos) := by
    cases x
    simp only [Pt.form] at h3
    simp only [fitsM, if_pos h3, Pt.pos]
  have b3 : (x.form == 3) = true := by rw [h3]; rfl
  have b4 : (x.form != 4) = true := by rw [h3]; rfl
  have epr : dPr worldM = .agg [dDl worldM, .nils, .nils, .nils] := rfl
  unfold FitsOk
  rw [hm]
  by_cases h0 : t = 0
  · subst h0
    rw [if_pos rfl]
    refine fits_fun (y := x) (n := 1) ?_
    rw [epr, dPt_eq]
    have e1 : wname 0 = [73, 110, 116] := rfl
    have e2 : dTl (wargs 0) = .nils := rfl
    rw [e1, e2] at hs
    generalize wt 0 = w at *
    simp only [dTy_eq, cTy_eq] at hs ⊢
    have g00 : ¬ (((0 : Nat) : Int) > 0) := by omega
    simp only [a_21, sA, Nat.reduceAdd, Nat.reduceSub, Nat.reduceMul, Nat.reduceBEq, Nat.reduceLeDiff, Int.reduceBEq, Int.reduceBNe, Int.reduceLE, Int.reduceLT, Int.reduceGE, Int.reduceGT, Int.reduceNeg, kn, onel, onep, cPt, hs, b3, b4, bne_self_eq_false, g00]
  · rw [if_neg h0]
    refine fits_fun (y := x) (n := 1) ?_
    rw [epr, dPt_eq]
    have hne : (wname t == [73, 110, 116]) = false := by
      match t, ht, h0 with
      | 0, _, h => exact absurd rfl h
      | 1, _, _ => rfl
      | 2, _, _ => rfl
      | 3, _, _ => rfl
      | 4, _, _ => rfl
    generalize wt t = w at *
    generalize dTl (wargs t) = A at *
    generalize wname t = s at *
    simp only [dTy_eq, cTy_eq] at hs ⊢
    simp only [a_21, sA, Nat.reduceAdd, Nat.reduceSub, Nat.reduceMul, Nat.reduceBEq, Nat.reduceLeDiff, Int.reduceBEq, Int.reduceBNe, Int.reduceLE, Int.reduceLT, Int.reduceGE, Int.reduceGT, Int.reduceNeg, kn, onel, onep, cPt, hs, b3, b4, hne]
def agree (own t : Nat) : Bool := (wd own).name == wname t
def kidsN (own k t : Nat) : List Nat := (lookN ((wcons own).getD k ([], [])).1 (wcons t)).getD []
theorem agree_no : ∀ own < 5, ∀ t < 5, ∀ k < (wcons own).length, agree own t = false → lookN ((wcons own).getD k ([], [])).1 (wcons t) = none := by decide +kernel
theorem agree_vars : ∀ own < 5, ∀ t < 5, agree own t = true → 0 < (wcons own).length → (wd own).vars.length = (wargs t).length := by decide +kernel
theorem agree_is : ∀ own < 5, ∀ t < 5, ∀ k < (wcons own).length, agree own t = true → (lookN ((wcons own).getD k ([], [])).1 (wcons t)).isSome = true := by decide +kernel
theorem agree_look (own : Nat) (ho : own < 5) (t : Nat) (ht : t < 5) (k : Nat) (hk : k < (wcons own).length) (ha : agree own t = true) : lookN ((wcons own).getD k ([], [])).1 (wcons t) = some (kidsN own k t) := by
  have := agree_is own ho t ht k hk ha
  unfold kidsN
  cases h : lookN ((wcons own).getD k ([], [])).1 (wcons t) with
  | none => rw [h] at this; cases this
  | some v => rfl
theorem agree_len : ∀ own < 5, ∀ t < 5, ∀ k < (wcons own).length, agree own t = true → (kidsN own k t).length = ((wcons own).getD k ([], [])).2.length := by decide +kernel
theorem agree_five : ∀ own < 5, ∀ t < 5, ∀ k < (wcons own).length, (kidsN own k t).all (fun m => decide (m < 5)) = true := by decide +kernel
theorem no_len : ∀ own < 5, ∀ k < (wcons own).length, k < (wd own).cons.length ∧ (((wd own).cons.getD k zCn).fs).length = ((wcons own).getD k ([], [])).2.length := by decide +kernel
theorem agree_sub : ∀ own, own < 5 → ∀ t, t < 5 → ∀ k, k < (wcons own).length → agree own t = true → ∀ i, i < (kidsN own k t).length → ((((wd own).cons.getD k zCn).fs).getD i zTy, (wd own).vars, t, (kidsN own k t).getD i 0) ∈ fq := by
  intro own ho t ht k hk ha i hi
  have hi2 : i < 2 := by
    have := agree_len own ho t ht k hk ha
    have hm : (wcons own).getD k ([], []) ∈ wcons own := by
      rw [getD_eq _ _ _ hk]
      exact List.getElem_mem hk
    have := (wcons_ok own ho _ hm).1
    omega
  have hk3 : k < 3 := by
    rcases Nat.eq_zero_or_pos own with e | e
    · subst e
      exact absurd hk (by simp [wcons])
    · have := (wcons_some own ho e).2
      omega
  have five : ∀ n, n < 5 → n = 0 ∨ n = 1 ∨ n = 2 ∨ n = 3 ∨ n = 4 := by omega
  have three : ∀ n, n < 3 → n = 0 ∨ n = 1 ∨ n = 2 := by omega
  have two : ∀ n, n < 2 → n = 0 ∨ n = 1 := by omega
  rcases five own ho with rfl | rfl | rfl | rfl | rfl <;> rcases five t ht with rfl | rfl | rfl | rfl | rfl <;> first
    | exact absurd ha (by decide +kernel)
    | (rcases three k hk3 with rfl | rfl | rfl <;> rcases two i hi2 with rfl | rfl <;> first
      | exact absurd hk (by decide +kernel)
      | exact absurd hi (by decide +kernel)
      | (simp only [fq, List.mem_cons]; simp [wd, kidsN, wcons, lookN]))
end Go.Fu
namespace Go.Fu
open Go Go.Mx
set_option maxRecDepth 100000
set_option maxHeartbeats 4000000
theorem fits_con (own t k : Nat) (ho : own < 5) (ht : t < 5) (hk : k < (wcons own).length) (x : Pt) (h4 : x.form = 4) (hn : x.name = ((wcons own).getD k ([], [])).1) (hl : x.kids.length = ((wcons own).getD k ([], [])).2.length) (h2 : x.kids.length ≤ 2) (ih : ∀ i (hi : i < x.kids.length) u, u < 5 → FitsOk x.kids[i] u) : FitsOk x t := by
  have hcw : conM x.name (pre3 ++ worldM) = some (wd own, k) := by
    rw [hn, getD_eq _ _ _ hk]
    exact conM_world own ho k hk
  have hs := callK (S := SFi x t) rfl rfl (spine_pure t ht) 0 σ0
  have hc := callK (S := SFi x t) rfl rfl (rcon_pure worldM world_fine x.name) 0 σ0
  rw [hcw] at hc
  obtain ⟨hkc, hfl⟩ := no_len own ho k hk
  rw [← hl, getD_eq _ _ _ hkc] at hfl
  have hfm : fitsM x t = match lookN x.name (wcons t) with
      | none => (31, x.pos)
      | some ks => fitsL x.kids ks := by
    cases x
    simp only [Pt.form] at h4
    simp only [fitsM, h4, Pt.name, Pt.kids, Pt.pos]
    rfl
  have b3 : (x.form == 3) = false := by rw [h4]; rfl
  have b4 : (x.form != 4) = false := by rw [h4]; rfl
  have epr : dPr worldM = .agg [dDl worldM, .nils, .nils, .nils] := rfl
  have hy := idx_C (wd own).cons k hkc
  have hlf := len_T (wd own).cons[k].fs
  have hlk := len_P x.kids
  rw [hfl] at hlf
  unfold FitsOk
  cases ha : agree own t with
  | false =>
    have hlook := agree_no own ho t ht k hk ha
    rw [← hn] at hlook
    rw [hfm, hlook]
    refine fits_fun (y := x) (n := 1) ?_
    rw [epr, dPt_eq]
    have hne : ((wd own).name == wname t) = false := ha
    rw [epr] at hc
    generalize wt t = w at *
    generalize dTl (wargs t) = A at *
    generalize wname t = sn at *
    generalize (wd own).cons[k] = c at *
    generalize wd own = d at *
    simp only [conR] at hc
    simp only [dTy_eq, cTy_eq, dDa_eq] at hs hc ⊢
    simp only [dCn_eq] at hy
    simp only [a_21, sA, Nat.reduceAdd, Nat.reduceSub, Nat.reduceMul, Nat.reduceBEq, Nat.reduceLeDiff, Int.reduceBEq, Int.reduceBNe, Int.reduceLE, Int.reduceLT, Int.reduceGE, Int.reduceGT, Int.reduceNeg, kn, onel, onep, cPt, hs, b3, b4, hc, natI, hy, hlf, hlk, bne_self_eq_false, hne]
  | true =>
    have hlook := agree_look own ho t ht k hk ha
    have hkl := agree_len own ho t ht k hk ha
    have hv := agree_vars own ho t ht ha (by omega)
    have h5 := agree_five own ho t ht k hk
    have hsub := agree_sub own ho t ht k hk ha
    rw [← hn] at hlook
    rw [← hl] at hkl
    rw [hfm, hlook]
    simp only
    have h5' : ∀ i, i < x.kids.length → (kidsN own k t).getD i 0 < 5 := fun i hi => by
      have hik : i < (kidsN own k t).length := by omega
      rw [getD_eq _ _ _ hik]
      have := List.all_eq_true.1 h5 _ (List.getElem_mem hik)
      simpa using this
    have e1 : ∀ i (hi : i < x.kids.length), fitAt x.kids (kidsN own k t) i = fitsM x.kids[i] ((kidsN own k t).getD i 0) := fun i hi => by
      unfold fitAt
      rw [getD_eq _ _ _ hi]
    have c1 : ∀ i (hi : i < x.kids.length) (hf : i < (wd own).cons[k].fs.length), T (SFi x t) 1 n_8 [dTy ((wd own).cons[k].fs[i]), dSs (wd own).vars, dTl (wargs t)] σ0 = some (.ret ⟨false, dTy (wt ((kidsN own k t).getD i 0))⟩, σ0) := fun i hi hf => by
      have := call_sub (S := SFi x t) rfl _ (hsub i (by omega)) 0 σ0
      simp only [getD_eq _ _ _ hkc, getD_eq _ _ _ hf] at this
      exact this
    have c2 : ∀ i (hi : i < x.kids.length), T (SFi x t) 1 n_26 [dPr worldM, dPt x.kids[i], dTy (wt ((kidsN own k t).getD i 0))] σ0 = some (.ret ⟨false, .agg [.int .i64 (fitAt x.kids (kidsN own k t) i).1, .int .i64 (fitAt x.kids (kidsN own k t) i).2]⟩, σ0) := fun i hi => by
      rw [e1 i hi]
      exact call_fits (S := SFi x t) rfl _ _ (h5' i hi) (ih i hi _ (h5' i hi)) 0 σ0
    have hr := loopN_first (body := exec (T (SFi x t) 1) 5 none a_43) (Efi x (wd own) k (wargs t)) σ0 x.kids.length (fun i => (fitAt x.kids (kidsN own k t) i).1 != 0) (fun i => (.ret, { slots := [], locs := [(6, 6, 0)], boxes := [(6, [⟨false, .int .i64 (fitAt x.kids (kidsN own k t) i).1⟩, ⟨false, .int .i64 (fitAt x.kids (kidsN own k t) i).2⟩])], defers := [] }, σ0)) (fun _ _ h => by cases h) (fun _ _ _ h => by cases h)
      (fun i hi hq => by
        have hz : (fitAt x.kids (kidsN own k t) i).1 = 0 := by simpa using hq
        have := c2 i hi
        rw [hz] at this
        exact fi_step x (wd own) k hkc (wargs t) i hi (by omega) (by omega) _ _ (c1 i hi (by omega)) this)
      (fun i hi hq => fi_stop x (wd own) k hkc (wargs t) i hi (by omega) _ _ _ (by simpa using hq) (c1 i hi (by omega)) (c2 i hi)) (fi_end x (wd own) k (wargs t)) x.kids.length 0 5 (by omega) (by omega)
    have hfirst := fitsL_first x.kids (kidsN own k t) [] [] hkl.symm rfl
    simp only [List.nil_append, List.length_nil] at hfirst
    have hlv := len_S (wd own).vars
    have hla := len_T (wargs t)
    rw [← hv] at hla
    have hne : ((wd own).name == wname t) = true := ha
    refine fits_fun (y := x) (n := 5) ?_
    unfold Efi at hr
    simp only [bPrg, bPx, bD, zeroI] at hr
    rw [epr, dPt_eq]
    rw [epr] at hc
    generalize wt t = w at *
    generalize dTl (wargs t) = A at *
    generalize wname t = sn at *
    cases hf : firstN (fun i => (fitAt x.kids (kidsN own k t) i).1 != 0) x.kids.length 0 with
    | none =>
      rw [hf] at hr hfirst
      simp only at hr hfirst
      rw [hfirst]
      generalize (wd own).cons[k] = c at *
      generalize wd own = d at *
      simp only [conR] at hc
      simp only [dTy_eq, cTy_eq, dDa_eq] at hs hc ⊢
      simp only [dCn_eq] at hy
      simp only [a_21, sA, Nat.reduceAdd, Nat.reduceSub, Nat.reduceMul, Nat.reduceBEq, Nat.reduceLeDiff, Int.reduceBEq, Int.reduceBNe, Int.reduceLE, Int.reduceLT, Int.reduceGE, Int.reduceGT, Int.reduceNeg, kn, onel, onep, cPt, hs, b3, b4, hc, natI, hy, hlf, hlk, hlv, hla, bne_self_eq_false, hne, hr]
    | some i =>
      rw [hf] at hr hfirst
      simp only at hr hfirst
      rw [hfirst]
      generalize (wd own).cons[k] = c at *
      generalize wd own = d at *
      simp only [conR] at hc
      simp only [dTy_eq, cTy_eq, dDa_eq] at hs hc ⊢
      simp only [dCn_eq] at hy
      simp only [a_21, sA, Nat.reduceAdd, Nat.reduceSub, Nat.reduceMul, Nat.reduceBEq, Nat.reduceLeDiff, Int.reduceBEq, Int.reduceBNe, Int.reduceLE, Int.reduceLT, Int.reduceGE, Int.reduceGT, Int.reduceNeg, kn, onel, onep, cPt, hs, b3, b4, hc, natI, hy, hlf, hlk, hlv, hla, bne_self_eq_false, hne, hr]
mutual
theorem fits_pure : ∀ {x : Pt} {own : Nat}, own < 5 → W own x → ∀ t, t < 5 → FitsOk x t
  | .mk f p n s l ty ts, own, ho, h, t, ht => by
    cases h with
    | wild => exact fits_free _ t ht (by simp [Pt.form]) (by simp [Pt.form])
    | name => exact fits_free _ t ht (by simp [Pt.form]) (by simp [Pt.form])
    | num => exact fits_num _ t ht rfl
    | con hm h =>
      obtain ⟨k, hk, e⟩ := List.getElem_of_mem hm
      have e' : (wcons own).getD k ([], []) = (wcons own)[k] := getD_eq _ _ _ hk
      rw [e] at e'
      have hw := wcons_ok own ho _ hm
      have hlen := h.len
      exact fits_con own t k ho ht hk _ rfl (by rw [e']; rfl) (by rw [e']; exact hlen) (by show l.length ≤ 2; have := hw.1; simp only at this; omega) (fun i hi u hu => fitsL_pure h hw.2 i hi u hu)
theorem fitsL_pure : ∀ {l : List Pt} {ks : List Nat}, WL ks l → (∀ m ∈ ks, m < 5) → ∀ i (hi : i < l.length) u, u < 5 → FitsOk l[i] u
  | [], _, .nil, _, i, hi, _, _ => absurd hi (by simp)
  | x :: r, _ :: _, .cons h hl, h5, 0, _, u, hu => fits_pure (h5 _ (by simp)) h u hu
  | x :: r, _ :: _, .cons h hl, h5, i + 1, hi, u, hu => fitsL_pure hl (fun m hm => h5 m (by simp [hm])) i (by simpa using hi) u hu
end
end Go.Fu
