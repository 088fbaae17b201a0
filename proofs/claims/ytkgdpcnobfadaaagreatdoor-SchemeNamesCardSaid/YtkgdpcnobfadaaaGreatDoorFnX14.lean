/-
  Predicates sorted in place, run.
-/
import Derived.Test.YtkgdpcnobfadaaaGreatDoorFnX8
import Derived.Test.YtkgdpcnobfadaaaGreatDoorFnW2
set_option linter.unusedSimpArgs false
set_option linter.unusedVariables false
namespace Go.Fu
open Go Go.Mx
set_option maxRecDepth 10000
structure SameB (id : Nat) (σ σ' : Store) : Prop where
  objs : ∀ k, k ≠ id → aget σ'.objs k = aget σ.objs k
  wf : WF σ'
  tys : σ'.tys = σ.tys
  oth : σ'.oth = σ.oth
  next : σ'.next = σ.next
theorem SameB.refl {id : Nat} {σ : Store} (h : WF σ) : SameB id σ σ := ⟨fun _ _ => rfl, h, rfl, rfl, rfl⟩
theorem SameB.trans {id : Nat} {a b c : Store} (h : SameB id a b) (h' : SameB id b c) : SameB id a c :=
  ⟨fun k hk => (h'.objs k hk).trans (h.objs k hk), h'.wf, h'.tys.trans h.tys, h'.oth.trans h.oth, h'.next.trans h.next⟩
theorem zds {id : Nat} {σ : Store} (h : WF σ) (cs : List Cell) (hi : id < σ.next) : SameB id σ (setO σ id cs) :=
  ⟨fun k hk => by rw [zbv, if_neg hk], zlr h id cs hi, rfl, rfl, rfl⟩
def cP (p : Pr) : List D := .str p.cls :: cT p.ty
theorem zns (p : Pr) : (cP p).length = 5 := rfl
theorem zbrb (l : List D) (cs : List Cell) : takeC (l.map Cell.of ++ cs) 0 l.length = some l := by
  induction l with
  | nil => cases cs <;> rfl
  | cons d l ih =>
    simp only [List.map_cons, List.cons_append, List.length_cons, takeC, ih, bindO, zaa]
    rfl
theorem zyv (l : List D) (cs : List Cell) (o n : Nat) (hn : 0 < n) : takeC (l.map Cell.of ++ cs) (l.length + o) n = takeC cs o n := by
  induction l with
  | nil => simp
  | cons d l ih =>
    rw [List.map_cons, List.cons_append, List.length_cons, show l.length + 1 + o = (l.length + o) + 1 by omega]
    cases n with
    | zero => omega
    | succ n => exact ih
theorem zhf (x : Pr) (B : List Pr) : ∀ A : List Pr, takeC (cellsOf ((A ++ x :: B).map dP)) (A.length * 5) 5 = some (cP x)
  | [] => by
    simp only [List.nil_append, List.map_cons, cellsOf, List.length_nil, Nat.zero_mul]
    exact zbrb (cP x) _
  | a :: A => by
    have ih := zhf x B A
    simp only [List.cons_append, List.map_cons, cellsOf, List.length_cons]
    rw [show (A.length + 1) * 5 = (cP a).length + A.length * 5 by rw [zns]; omega]
    exact (zyv (cP a) _ _ 5 (by omega)).trans ih
theorem zevb (l new : List D) (cs : List Cell) (h : l.length = new.length) : zap (l.map Cell.of ++ cs) 0 (new.map Cell.of) = new.map Cell.of ++ cs := by
  induction l generalizing new with
  | nil =>
    cases new with
    | nil => exact zfy _ _
    | cons a b => simp at h
  | cons d l ih =>
    cases new with
    | nil => simp at h
    | cons a b =>
      have := ih b (by simpa using h)
      simp only [List.map_cons, List.cons_append, zap, this]
theorem zbib (l : List D) (cs new : List Cell) (o : Nat) : zap (l.map Cell.of ++ cs) (l.length + o) new = l.map Cell.of ++ zap cs o new := by
  cases new with
  | nil => rw [zfy, zfy]
  | cons c r =>
    induction l with
    | nil => simp
    | cons d l ih =>
      rw [List.map_cons, List.cons_append, List.length_cons, show l.length + 1 + o = (l.length + o) + 1 by omega]
      exact congrArg (Cell.of d :: ·) ih
theorem zoh (x z : Pr) (B : List Pr) : ∀ A : List Pr, zap (cellsOf ((A ++ z :: B).map dP)) (A.length * 5) ((cP x).map Cell.of) = cellsOf ((A ++ x :: B).map dP)
  | [] => by
    simp only [List.nil_append, List.map_cons, cellsOf, List.length_nil, Nat.zero_mul]
    exact zevb (cP z) (cP x) _ rfl
  | a :: A => by
    have ih := zoh x z B A
    simp only [List.cons_append, List.map_cons, cellsOf, List.length_cons]
    rw [show (A.length + 1) * 5 = (cP a).length + A.length * 5 by rw [zns]; omega]
    refine (zbib (cP a) _ _ _).trans ?_
    rw [ih]
    rfl
theorem zeg (l : List Pr) : (cellsOf (l.map dP)).length = l.length * 5 := by
  have := zb8 (z := 5) (l.map dP) fun d hd => by
    obtain ⟨x, _, rfl⟩ := List.mem_map.1 hd
    exact zjp x
  rwa [List.length_map] at this
section
variable {C : CallF} {n : Nat}
def CmpC (C : CallF) (p q : Pr) : Prop := ∀ σ, C n_15 [.agg (cP p), .agg (cP q)] σ = some (.ret ⟨false, .int .i64 (byC p q)⟩, σ)
def EIs (id len i j : Nat) : Env := { slots := [(0, ⟨false, .arr k_1 id 0 len⟩), (1, ⟨false, .int .i64 0⟩), (2, ⟨false, .int .i64 len⟩), (3, ⟨false, .fn (.func n_15) [] []⟩), (8, ⟨false, .int .i64 i⟩), (9, ⟨false, .int .i64 j⟩)], locs := [], boxes := [], defers := [] }
def EIe (id len i j : Nat) : Env := { slots := [(0, ⟨false, .arr k_1 id 0 len⟩), (1, ⟨false, .int .i64 0⟩), (2, ⟨false, .int .i64 len⟩), (3, ⟨false, .fn (.func n_15) [] []⟩), (8, ⟨false, .int .i64 i⟩), (9, ⟨false, .int .i64 j⟩), (34, ⟨false, .bool false⟩)], locs := [], boxes := [], defers := [] }
theorem zc9b (id len i : Nat) (σ : Store) : exec C n a_49 (EIs id len i 0) σ = some (.exit 2, EIe id len i 0, σ) := by
  simp only [a_49, EIs, EIe, de0, de1, de2, szQ, szB, szL, sy0, sy1, sy2, sy3, sy4, sy5, zad, zaa, zac, zae, adel, zah, zag, zai, zaf, evalV, aget, aset, adel1, nth, AOp.kind, Nat.reduceAdd, Nat.reduceSub, Nat.reduceMul, Nat.reduceBEq, Nat.ble, bindO, Nat.reduceLeDiff, Int.reduceBEq, Int.reduceBNe, Int.reduceLE, Int.reduceLT, Int.reduceGE, Int.reduceGT, Int.reduceNeg, ks, lz]
theorem zc7b (id len i : Nat) (A B : List Pr) (x y : Pr) (σ : Store) (hlen : (A ++ y :: x :: B).length = len) (hl : len < 1000) (ha : aget σ.objs id = some (cellsOf ((A ++ y :: x :: B).map dP))) (hc : CmpC C x y) (hp : ¬ (byC x y < 0)) :
    exec C n a_49 (EIs id len i (A.length + 1)) σ = some (.exit 2, EIe id len i (A.length + 1), σ) := by
  have hj : (((A.length + 1 : Nat) : Int) > 0) := by omega
  have w1 : IntKind.i64.wrap (((A.length + 1 : Nat) : Int) - 1) = ((A.length : Nat) : Int) := by
    simp only [List.length_append, List.length_cons] at hlen
    rw [zbc (by omega) (by omega)]; omega
  have l1 : A.length + 1 < len := by simp only [List.length_append, List.length_cons] at hlen; omega
  have l2 : A.length < len := by omega
  have t1 := zhf y (x :: B) A
  have t2 := zhf x B (A ++ [y])
  simp only [List.append_assoc, List.cons_append, List.nil_append, List.length_append, List.length_cons, List.length_nil, Nat.zero_add] at t2
  have hcc := hc σ
  simp only [a_49, EIs, EIe, de0, de1, de2, szQ, szB, szL, sy0, sy1, sy2, sy3, sy4, sy5, zad, zaa, zac, zae, adel, zah, zag, zai, zaf, evalV, aget, aset, adel1, nth, AOp.kind, Nat.reduceAdd, Nat.reduceSub, Nat.reduceMul, Nat.reduceBEq, Nat.ble, bindO, Nat.reduceLeDiff, Int.reduceBEq, Int.reduceBNe, Int.reduceLE, Int.reduceLT, Int.reduceGE, Int.reduceGT, Int.reduceNeg, ks, lz, memE, memOp, zb0, hj, w1, l1, l2, ha, t1, t2, hcc, hp]
theorem zc8b (id len i : Nat) (A B : List Pr) (x y : Pr) (σ : Store) (hlen : (A ++ y :: x :: B).length = len) (hl : len < 1000) (ha : aget σ.objs id = some (cellsOf ((A ++ y :: x :: B).map dP))) (hc : CmpC C x y) (hp : byC x y < 0) :
    exec C n a_49 (EIs id len i (A.length + 1)) σ = some (.normal, EIs id len i A.length, setO σ id (cellsOf ((A ++ x :: y :: B).map dP))) := by
  have hj : (((A.length + 1 : Nat) : Int) > 0) := by omega
  have w1 : IntKind.i64.wrap (((A.length + 1 : Nat) : Int) - 1) = ((A.length : Nat) : Int) := by
    simp only [List.length_append, List.length_cons] at hlen
    rw [zbc (by omega) (by omega)]; omega
  have l1 : A.length + 1 < len := by simp only [List.length_append, List.length_cons] at hlen; omega
  have l2 : A.length < len := by omega
  have t1 := zhf y (x :: B) A
  have t2 := zhf x B (A ++ [y])
  have p1 := zoh y x B (A ++ [y])
  have p2 := zoh x y (y :: B) A
  have c1 := zeg (A ++ y :: x :: B)
  have c2 := zeg (A ++ y :: y :: B)
  simp only [List.append_assoc, List.cons_append, List.nil_append, List.length_append, List.length_cons, List.length_nil, Nat.zero_add] at t2 p1 c1 c2 hlen
  have d1 : (A.length + 1) * 5 + 5 ≤ (cellsOf ((A ++ y :: x :: B).map dP)).length := by omega
  have d2 : A.length * 5 + 5 ≤ (cellsOf ((A ++ y :: y :: B).map dP)).length := by omega
  have o1 : (D.agg (cP y)).ok = true := ok_dP y
  have o2 : (D.agg (cP x)).ok = true := ok_dP x
  have e1 : (D.agg (cP y)).cells = cP y := rfl
  have e2 : (D.agg (cP x)).cells = cP x := rfl
  have n1 : (D.agg (cP y)).one = false := rfl
  have n2 : (D.agg (cP x)).one = false := rfl
  have hcc := hc σ
  simp only [a_49, EIs, de0, de1, de2, szQ, szB, szL, sy0, sy1, sy2, sy3, sy4, sy5, zad, zaa, zac, zae, adel, zah, zag, zai, zaf, evalV, aget, aset, adel1, nth, AOp.kind, Nat.reduceAdd, Nat.reduceSub, Nat.reduceMul, Nat.reduceBEq, Nat.ble, bindO, Nat.reduceLeDiff, Int.reduceBEq, Int.reduceBNe, Int.reduceLE, Int.reduceLT, Int.reduceGE, Int.reduceGT, Int.reduceNeg, ks, lz, memE, memOp, zb0, hj, w1, l1, l2, ha, t1, t2, hcc, hp, p1, p2, d1, d2, o1, o2, e1, e2, n1, n2, zns, zce, zhy, setO]
end
end Go.Fu
namespace Go.Fu
open Go Go.Mx
set_option maxRecDepth 10000
theorem zwh {C : CallF} {n : Nat} (id len i : Nat) (x : Pr) (B : List Pr) (hl : len < 1000) : ∀ (rp m : List Pr) (f : Nat) (σ : Store), WF σ → id < σ.next → (rp.reverse ++ x :: (m ++ B)).length = len → rp.length < f → aget σ.objs id = some (cellsOf ((rp.reverse ++ x :: (m ++ B)).map dP)) → (∀ y ∈ rp, CmpC C x y) →
    ∃ j σ', loopN (exec C n a_49) f (EIs id len i rp.length) σ = some (.exit 2, EIe id len i j, σ') ∧ SameB id σ σ' ∧ aget σ'.objs id = some (cellsOf (((insP x rp).reverse ++ m ++ B).map dP))
  | [], m, f, σ, hw, hid, hlen, hf, ha, hc => by
    obtain ⟨g, rfl⟩ : ∃ g, f = g + 1 := ⟨f - 1, by simp only [List.length_nil] at hf; omega⟩
    refine ⟨0, σ, za7 (zc9b id len i σ), SameB.refl hw, ?_⟩
    rw [ha]
    simp [insP]
  | y :: q, m, f, σ, hw, hid, hlen, hf, ha, hc => by
    obtain ⟨g, rfl⟩ : ∃ g, f = g + 1 := ⟨f - 1, by simp only [List.length_cons] at hf; omega⟩
    have e1 : (y :: q).reverse ++ x :: (m ++ B) = q.reverse ++ y :: x :: (m ++ B) := by simp
    rw [e1] at hlen ha
    have hql : q.reverse.length = q.length := List.length_reverse
    have hcy := hc y (by simp)
    have hlp : (y :: q).length = q.reverse.length + 1 := by rw [hql]; rfl
    rw [hlp]
    by_cases hp : byC x y < 0
    · have hstep := zc8b (C := C) (n := n) id len i q.reverse (m ++ B) x y σ hlen hl ha hcy hp
      rw [zb4 hstep, hql]
      obtain ⟨j, σ', h1, h2, h3⟩ := zwh (C := C) (n := n) id len i x B hl q (y :: m) g _ (zlr hw id _ hid) hid (by
        simp only [List.length_append, List.length_cons, List.length_reverse] at hlen ⊢; omega) (by simp only [List.length_cons] at hf; omega) (by rw [zbv, if_pos rfl]) (fun z hz => hc z (List.mem_cons_of_mem _ hz))
      refine ⟨j, σ', h1, (zds hw _ hid).trans h2, ?_⟩
      have hlt : ltP x y = true := by unfold ltP; exact decide_eq_true hp
      rw [h3]
      simp [insP, hlt]
    · refine ⟨_, σ, za7 (zc7b (C := C) (n := n) id len i q.reverse (m ++ B) x y σ hlen hl ha hcy hp), SameB.refl hw, ?_⟩
      have hlt : ltP x y = false := by unfold ltP; exact decide_eq_false hp
      rw [ha]
      simp [insP, hlt]
section
variable {C : CallF} {n : Nat}
def EOs (id len i : Nat) : Env := { slots := [(0, ⟨false, .arr k_1 id 0 len⟩), (1, ⟨false, .int .i64 0⟩), (2, ⟨false, .int .i64 len⟩), (3, ⟨false, .fn (.func n_15) [] []⟩), (8, ⟨false, .int .i64 i⟩)], locs := [], boxes := [], defers := [] }
theorem ze5b (l : List Pr) (i : Nat) (h : i < l.length) : srt (l.take (i + 1)) = insP l[i] (srt (l.take i)) := by
  rw [← za8 l i h]
  unfold srt
  rw [List.foldl_append]
  rfl
theorem zl1 (l : List Pr) : (srt l).length = l.length := by
  have := (zfa l [] List.Pairwise.nil).2.length_eq
  simpa [srt] using this
theorem zdjb (id i : Nat) (l : List Pr) (σ : Store) (hw : WF σ) (hid : id < σ.next) (hi : i < l.length) (hl : l.length < 1000) (hn : l.length < n) (ha : aget σ.objs id = some (cellsOf (((srt (l.take i)).reverse ++ l.drop i).map dP))) (hc : ∀ p ∈ l, ∀ q ∈ l, CmpC C p q) :
    ∃ σ', exec C n a_50 (EOs id l.length i) σ = some (.normal, EOs id l.length (i + 1), σ') ∧ SameB id σ σ' ∧ aget σ'.objs id = some (cellsOf (((srt (l.take (i + 1))).reverse ++ l.drop (i + 1)).map dP)) := by
  have hdr : l.drop i = l[i] :: l.drop (i + 1) := List.drop_eq_getElem_cons hi
  have hsl : (srt (l.take i)).length = i := by rw [zl1, List.length_take]; omega
  rw [hdr] at ha
  obtain ⟨j, σ', h1, h2, h3⟩ := zwh (C := C) (n := n) id l.length i l[i] (l.drop (i + 1)) hl (srt (l.take i)) [] n σ hw hid (by
    simp only [List.nil_append, List.length_append, List.length_reverse, List.length_cons, List.length_drop, hsl]; omega) (by omega) ha (fun y hy => hc _ (List.getElem_mem hi) y (by
      have hm := ((zfa (l.take i) [] List.Pairwise.nil).2.mem_iff (a := y)).1 hy
      exact List.mem_of_mem_take (by simpa using hm)))
  refine ⟨σ', ?_, h2, ?_⟩
  · have w1 := zam (i := i) (by omega)
    have h4 : ((i : Int) < (l.length : Int)) := by omega
    rw [hsl] at h1
    simp only [EIs, EIe] at h1
    simp only [a_50, EOs, de0, de1, de2, szQ, szB, szL, sy0, sy1, sy2, sy3, sy4, sy5, zad, zaa, zac, zae, adel, zah, zag, zai, zaf, evalV, aget, aset, adel1, nth, AOp.kind, Nat.reduceAdd, Nat.reduceSub, Nat.reduceMul, Nat.reduceBEq, Nat.ble, bindO, Nat.reduceLeDiff, Int.reduceBEq, Int.reduceBNe, Int.reduceLE, Int.reduceLT, Int.reduceGE, Int.reduceGT, Int.reduceNeg, ks, lz, h1, h4, w1]
  · rw [h3, ze5b l i hi, List.append_nil]
theorem zgbb (id len i : Nat) (h : ¬ (i < len)) (σ : Store) : exec C n a_50 (EOs id len i) σ = some (.exit 0, { EOs id len i with slots := [(0, ⟨false, .arr k_1 id 0 len⟩), (1, ⟨false, .int .i64 0⟩), (2, ⟨false, .int .i64 len⟩), (3, ⟨false, .fn (.func n_15) [] []⟩), (8, ⟨false, .int .i64 i⟩), (14, ⟨false, .bool false⟩)] }, σ) := by
  have hi : ¬ ((i : Int) < (len : Int)) := by omega
  simp only [a_50, EOs, de0, de1, de2, szQ, szB, szL, sy0, sy1, sy2, sy3, sy4, sy5, zad, zaa, zac, zae, adel, zah, zag, zai, zaf, evalV, aget, aset, adel1, nth, AOp.kind, Nat.reduceAdd, Nat.reduceSub, Nat.reduceMul, Nat.reduceBEq, Nat.ble, bindO, Nat.reduceLeDiff, Int.reduceBEq, Int.reduceBNe, Int.reduceLE, Int.reduceLT, Int.reduceGE, Int.reduceGT, Int.reduceNeg, ks, lz, hi]
end
def SortR (id : Nat) (l : List Pr) (σ σ' : Store) : Prop := SameB id σ σ' ∧ aget σ'.objs id = some (cellsOf ((srt l).reverse.map dP))
theorem zz4 (m : Nat) (l : List Pr) (hl : l.length < 1000) (hne : l ≠ []) (hm : l.length + 4 ≤ m) (id : Nat) (σ : Store) (hw : WF σ) (hid : id < σ.next) (ha : aget σ.objs id = some (cellsOf (l.map dP))) (hc : ∀ p ∈ l, ∀ q ∈ l, CmpC (T m) p q) :
    ∃ σ', T (m + 1) n_115 [.arr k_1 id 0 l.length, .int .i64 0, .int .i64 l.length, .fn (.func n_15) [] []] σ = some (.ret ⟨false, .tup []⟩, σ') ∧ SortR id l σ σ' := by
  have hpos : 0 < l.length := by cases l with
    | nil => exact absurd rfl hne
    | cons a b => simp
  obtain ⟨⟨x, e, σ3⟩, hloop, hx1, hx2, hx3, ho3⟩ := zbw (body := exec (T m) m a_50) (fun i e σ' => e = EOs id l.length i ∧ SameB id σ σ' ∧ aget σ'.objs id = some (cellsOf (((srt (l.take i)).reverse ++ l.drop i).map dP)))
    (fun x => x.1 = .exit 0 ∧ x.2.1 = { EOs id l.length l.length with slots := [(0, ⟨false, .arr k_1 id 0 l.length⟩), (1, ⟨false, .int .i64 0⟩), (2, ⟨false, .int .i64 l.length⟩), (3, ⟨false, .fn (.func n_15) [] []⟩), (8, ⟨false, .int .i64 l.length⟩), (14, ⟨false, .bool false⟩)] } ∧ SameB id σ x.2.2 ∧ aget x.2.2.objs id = some (cellsOf ((srt l).reverse.map dP))) l.length
    (fun i e σ' hi hp => by
      obtain ⟨rfl, hx, g⟩ := hp
      obtain ⟨σ'', h1, h2, h3⟩ := zdjb (C := T m) (n := m) id i l σ' hx.wf (by rw [hx.next]; exact hid) hi hl (by omega) g hc
      exact ⟨_, σ'', h1, rfl, hx.trans h2, h3⟩)
    (fun e σ' hp => by
      obtain ⟨rfl, hx, g⟩ := hp
      rw [List.take_length, List.drop_length, List.append_nil] at g
      exact ⟨_, zgbb id l.length l.length (by omega) σ', fun _ _ h => (by cases h), rfl, rfl, hx, g⟩) 1 m (EOs id l.length 1) σ (by omega) (by omega) ⟨rfl, SameB.refl hw, by
        rw [ha]
        cases l with
        | nil => exact absurd rfl hne
        | cons a b => rfl⟩
  simp only at hx1 hx2 hx3 ho3
  subst hx1 hx2
  refine ⟨σ3, ?_, hx3, ho3⟩
  have w1 : IntKind.i64.wrap (0 + 1) = 1 := by decide
  have c1 : ((1 : Nat) : Int) = 1 := rfl
  simp only [EOs, c1] at hloop
  rw [T_fun (af := a_88) rfl rfl]
  simp only [a_88, de0, de1, de2, szQ, szB, szL, sy0, sy1, sy2, sy3, sy4, sy5, zad, zaa, zac, zae, adel, zah, zag, zai, zaf, evalV, aget, aset, adel1, nth, AOp.kind, Nat.reduceAdd, Nat.reduceSub, Nat.reduceMul, Nat.reduceBEq, Nat.ble, bindO, Nat.reduceLeDiff, Int.reduceBEq, Int.reduceBNe, Int.reduceLE, Int.reduceLT, Int.reduceGE, Int.reduceGT, Int.reduceNeg, ks, lz, w1, hloop]
theorem zz3 (m : Nat) (f : D) (σ : Store) : T (m + 2) n_115 [.nils, .int .i64 0, .int .i64 0, f] σ = some (.ret ⟨false, .tup []⟩, σ) := by
  have w1 : IntKind.i64.wrap (0 + 1) = 1 := by decide
  have hl : loopN (exec (T (m + 1)) (m + 1) a_50) (m + 1) { slots := [(0, ⟨false, .nils⟩), (1, ⟨false, .int .i64 0⟩), (2, ⟨false, .int .i64 0⟩), (3, ⟨false, f⟩), (8, ⟨false, .int .i64 1⟩)], locs := [], boxes := [], defers := [] } σ = some (.exit 0, { slots := [(0, ⟨false, .nils⟩), (1, ⟨false, .int .i64 0⟩), (2, ⟨false, .int .i64 0⟩), (3, ⟨false, f⟩), (8, ⟨false, .int .i64 1⟩), (14, ⟨false, .bool false⟩)], locs := [], boxes := [], defers := [] }, σ) := za7 (by
    simp only [a_50, de0, de1, de2, szQ, szB, szL, sy0, sy1, sy2, sy3, sy4, sy5, zad, zaa, zac, zae, adel, zah, zag, zai, zaf, evalV, aget, aset, adel1, nth, AOp.kind, Nat.reduceAdd, Nat.reduceSub, Nat.reduceMul, Nat.reduceBEq, Nat.ble, bindO, Nat.reduceLeDiff, Int.reduceBEq, Int.reduceBNe, Int.reduceLE, Int.reduceLT, Int.reduceGE, Int.reduceGT, Int.reduceNeg, ks, lz])
  rw [T_fun (af := a_88) rfl rfl]
  simp only [a_88, de0, de1, de2, szQ, szB, szL, sy0, sy1, sy2, sy3, sy4, sy5, zad, zaa, zac, zae, adel, zah, zag, zai, zaf, evalV, aget, aset, adel1, nth, AOp.kind, Nat.reduceAdd, Nat.reduceSub, Nat.reduceMul, Nat.reduceBEq, Nat.ble, bindO, Nat.reduceLeDiff, Int.reduceBEq, Int.reduceBNe, Int.reduceLE, Int.reduceLT, Int.reduceGE, Int.reduceGT, Int.reduceNeg, ks, lz, w1, hl]
theorem zom (m : Nat) (d : D) (k : Nat) (hk : k < 20) (f : D) (σ σ' : Store) (h : T (m + 3) n_115 [d, .int .i64 0, .int .i64 k, f] σ = some (.ret ⟨false, .tup []⟩, σ')) : T (m + 4) n_184 [d, .int .i64 k, f] σ = some (.ret ⟨false, .tup []⟩, σ') := by
  have h1 : ¬ ((20 : Int) ≤ (k : Int)) := by omega
  have h2 : ¬ ((20 : Int) < (k : Int)) := by omega
  have hl0 : loopN (exec (T (m + 3)) (m + 3) a_172) (m + 3) { slots := [(0, ⟨false, d⟩), (1, ⟨false, .int .i64 k⟩), (2, ⟨false, f⟩), (6, ⟨false, .int .i64 20⟩), (7, ⟨false, .int .i64 0⟩), (8, ⟨false, .int .i64 20⟩)], locs := [], boxes := [], defers := [] } σ = some (.exit 0, { slots := [(0, ⟨false, d⟩), (1, ⟨false, .int .i64 k⟩), (2, ⟨false, f⟩), (6, ⟨false, .int .i64 20⟩), (7, ⟨false, .int .i64 0⟩), (8, ⟨false, .int .i64 20⟩), (13, ⟨false, .bool false⟩)], locs := [], boxes := [], defers := [] }, σ) := za7 (by
    simp only [a_172, de0, de1, de2, szQ, szB, szL, sy0, sy1, sy2, sy3, sy4, sy5, zad, zaa, zac, zae, adel, zah, zag, zai, zaf, evalV, aget, aset, adel1, nth, AOp.kind, Nat.reduceAdd, Nat.reduceSub, Nat.reduceMul, Nat.reduceBEq, Nat.ble, bindO, Nat.reduceLeDiff, Int.reduceBEq, Int.reduceBNe, Int.reduceLE, Int.reduceLT, Int.reduceGE, Int.reduceGT, Int.reduceNeg, ks, lz, h1])
  have hl2 : loopN (exec (T (m + 3)) (m + 3) a_173) (m + 3) { slots := [(0, ⟨false, d⟩), (1, ⟨false, .int .i64 k⟩), (2, ⟨false, f⟩), (6, ⟨false, .int .i64 20⟩)], locs := [], boxes := [], defers := [] } σ' = some (.exit 2, { slots := [(0, ⟨false, d⟩), (1, ⟨false, .int .i64 k⟩), (2, ⟨false, f⟩), (6, ⟨false, .int .i64 20⟩), (30, ⟨false, .bool false⟩)], locs := [], boxes := [], defers := [] }, σ') := za7 (by
    simp only [a_173, de0, de1, de2, szQ, szB, szL, sy0, sy1, sy2, sy3, sy4, sy5, zad, zaa, zac, zae, adel, zah, zag, zai, zaf, evalV, aget, aset, adel1, nth, AOp.kind, Nat.reduceAdd, Nat.reduceSub, Nat.reduceMul, Nat.reduceBEq, Nat.ble, bindO, Nat.reduceLeDiff, Int.reduceBEq, Int.reduceBNe, Int.reduceLE, Int.reduceLT, Int.reduceGE, Int.reduceGT, Int.reduceNeg, ks, lz, h2])
  rw [T_fun (af := a_153) rfl rfl]
  simp only [a_153, de0, de1, de2, szQ, szB, szL, sy0, sy1, sy2, sy3, sy4, sy5, zad, zaa, zac, zae, adel, zah, zag, zai, zaf, evalV, aget, aset, adel1, nth, AOp.kind, Nat.reduceAdd, Nat.reduceSub, Nat.reduceMul, Nat.reduceBEq, Nat.ble, bindO, Nat.reduceLeDiff, Int.reduceBEq, Int.reduceBNe, Int.reduceLE, Int.reduceLT, Int.reduceGE, Int.reduceGT, Int.reduceNeg, ks, lz, hl0, h, hl2]
theorem zww (m : Nat) (d : D) (k : Nat) (f : D) (hf : f = .fn (.func n_15) [] []) (σ σ' : Store) (hd : lenOf d = some k) (h : T m n_184 [d, .int .i64 k, f] σ = some (.ret ⟨false, .tup []⟩, σ')) : T (m + 1) n_168 [d, f] σ = some (.ret ⟨false, .tup []⟩, σ') := by
  rw [T_fun (af := a_152) rfl rfl]
  simp only [a_152, de0, de1, de2, szQ, szB, szL, sy0, sy1, sy2, sy3, sy4, sy5, zad, zaa, zac, zae, adel, zah, zag, zai, zaf, evalV, aget, aset, adel1, nth, AOp.kind, Nat.reduceAdd, Nat.reduceSub, Nat.reduceMul, Nat.reduceBEq, Nat.ble, bindO, Nat.reduceLeDiff, Int.reduceBEq, Int.reduceBNe, Int.reduceLE, Int.reduceLT, Int.reduceGE, Int.reduceGT, Int.reduceNeg, ks, lz, hd, h]
end Go.Fu
namespace Go.Fu
open Go Go.Mx
set_option maxRecDepth 10000
theorem zs2 (A : List Pr) (i : Nat) (h : i < A.length) : A.take i ++ A[i] :: A.drop (i + 1) = A := by
  rw [← List.drop_eq_getElem_cons h, List.take_append_drop]
theorem zs7 {A : List Pr} {i : Nat} (h : i < A.length) : (A.take i).length = i := by rw [List.length_take]; omega
theorem zf2 (A : List Pr) (i : Nat) (h : i < A.length) : takeC (cellsOf (A.map dP)) (i * 5) 5 = some (cP A[i]) := by
  have := zhf A[i] (A.drop (i + 1)) (A.take i)
  rwa [zs2 A i h, zs7 h] at this
theorem zhcb (A : List Pr) (i : Nat) (h : i < A.length) (x : Pr) : zap (cellsOf (A.map dP)) (i * 5) ((cP x).map Cell.of) = cellsOf ((A.set i x).map dP) := by
  have h1 := zoh x A[i] (A.drop (i + 1)) (A.take i)
  rw [zs2 A i h, zs7 h] at h1
  rw [h1, List.set_eq_take_append_cons_drop, if_pos h]
theorem zp4 : ∀ (cs : List Cell) (o : Nat) (new : List Cell), (zap cs o new).take o = cs.take o
  | cs, 0, new => rfl
  | [], o + 1, new => by cases new <;> rfl
  | c :: cs, o + 1, [] => rfl
  | c :: cs, o + 1, x :: new => by
    have := zp4 cs o (x :: new)
    show (c :: zap cs o (x :: new)).take (o + 1) = _
    rw [List.take_succ_cons, List.take_succ_cons, this]
def eqP (p q : Pr) : Bool := byC p q == 0
theorem zw8 (p q : Pr) (hp : okP p) (hq : okP q) : Evly fun n => ∀ σ, T n n_166 [.agg (cP p), .agg (cP q)] σ = some (.ret ⟨false, .bool (eqP p q)⟩, σ) := (zov p q hp hq).step 0 fun m _ h σ => by
  have h1 := h σ
  simp only [dP, cT] at h1
  rw [T_fun (af := a_140) rfl rfl]
  simp only [a_140, cP, cT, de0, de1, de2, szQ, szB, szL, sy0, sy1, sy2, sy3, sy4, sy5, zad, zaa, zac, zae, adel, zah, zag, zai, zaf, evalV, aget, aset, adel1, nth, AOp.kind, Nat.reduceAdd, Nat.reduceSub, Nat.reduceMul, Nat.reduceBEq, Nat.ble, bindO, Nat.reduceLeDiff, Int.reduceBEq, Int.reduceBNe, Int.reduceLE, Int.reduceLT, Int.reduceGE, Int.reduceGT, Int.reduceNeg, ks, lz, h1, eqP]
def cpG (p : Pr) : List Pr → List Pr
  | [] => []
  | x :: r => if eqP x p then cpG x r else x :: cpG x r
def cpt : List Pr → List Pr
  | [] => []
  | x :: r => x :: cpG x r
theorem zrd (x : Pr) : ∀ (r : List Pr) (p : Pr), cpG p (r ++ [x]) = cpG p r ++ (if eqP x ((p :: r).getLast (by simp)) then [] else [x])
  | [], p => by
    simp only [List.nil_append, cpG, List.getLast_singleton]
    first | rfl | (split <;> rfl)
  | y :: r, p => by
    have ih := zrd x r y
    have hl : (p :: y :: r).getLast (by simp) = (y :: r).getLast (by simp) := List.getLast_cons (by simp)
    simp only [List.cons_append, cpG, ih, hl]
    split <;> rfl
theorem zm2 (L : List Pr) (i : Nat) (h0 : 0 < i) (h : i < L.length) : cpt (L.take (i + 1)) = cpt (L.take i) ++ (if eqP L[i] L[i - 1] then [] else [L[i]]) := by
  rw [← za8 L i h]
  obtain ⟨j, rfl⟩ : ∃ j, i = j + 1 := ⟨i - 1, by omega⟩
  have hj : j < L.length := by omega
  cases hT : L.take (j + 1) with
  | nil =>
    have : (L.take (j + 1)).length = j + 1 := by rw [List.length_take]; omega
    rw [hT] at this; simp at this
  | cons p r =>
    have hlast : (p :: r).getLast (by simp) = L[j] := by
      have h1 : (L.take (j + 1)).getLast? = some L[j] := by
        rw [← za8 L j hj, List.getLast?_concat]
      rw [hT, List.getLast?_eq_some_getLast (by simp)] at h1
      exact Option.some.inj h1
    simp only [List.cons_append, cpt, zrd, hlast, Nat.add_sub_cancel]
theorem zt6 (L : List Pr) : (cpt L).length ≤ L.length := by
  have hg : ∀ (r : List Pr) (p : Pr), (cpG p r).length ≤ r.length := by
    intro r
    induction r with
    | nil => intro p; simp [cpG]
    | cons x r ih =>
      intro p
      have := ih x
      unfold cpG
      split <;> simp only [List.length_cons] <;> omega
  cases L with
  | nil => simp [cpt]
  | cons x r => have := hg r x; simp only [cpt, List.length_cons]; omega
def EqC (C : CallF) (p q : Pr) : Prop := ∀ σ, C n_166 [.agg (cP p), .agg (cP q)] σ = some (.ret ⟨false, .bool (eqP p q)⟩, σ)
section
variable {C : CallF} {n : Nat}
def fnC : D := .fn (.func n_166) [] []
def EC0 (id len K k k2 : Nat) : Env := { slots := [(0, ⟨false, .arr k_1 id 0 len⟩), (1, ⟨false, fnC⟩), (5, ⟨false, .int .i64 k⟩), (6, ⟨false, .arr k_1 id K (len - K)⟩), (7, ⟨false, .int .i64 k2⟩)], locs := [], boxes := [], defers := [] }
theorem zcyb (id len K k k2 : Nat) (A : List Pr) (x y : Pr) (σ : Store) (hA : A.length = len) (hl : len < 1000) (h0 : 0 < k2) (h : K + k2 < len) (ha : aget σ.objs id = some (cellsOf (A.map dP))) (t1 : takeC (cellsOf (A.map dP)) ((K + k2) * 5) 5 = some (cP x)) (t2 : takeC (cellsOf (A.map dP)) ((K + (k2 - 1)) * 5) 5 = some (cP y)) (hc : EqC C x y) (hp : eqP x y = true) :
    exec C n a_35 (EC0 id len K k k2) σ = some (.normal, EC0 id len K k (k2 + 1), σ) := by
  have hi : ((k2 : Int) < ((len - K : Nat) : Int)) := by omega
  have w1 := zam (i := k2) (by omega)
  have w2 : IntKind.i64.wrap ((k2 : Int) - 1) = ((k2 - 1 : Nat) : Int) := by rw [zbc (by omega) (by omega)]; omega
  have l1 : k2 < len - K := by omega
  have l2 : k2 - 1 < len - K := by omega
  have hcc := hc σ
  rw [hp] at hcc
  simp only [a_35, EC0, fnC, de0, de1, de2, szQ, szB, szL, sy0, sy1, sy2, sy3, sy4, sy5, zad, zaa, zac, zae, adel, zah, zag, zai, zaf, evalV, aget, aset, adel1, nth, AOp.kind, Nat.reduceAdd, Nat.reduceSub, Nat.reduceMul, Nat.reduceBEq, Nat.ble, bindO, Nat.reduceLeDiff, Int.reduceBEq, Int.reduceBNe, Int.reduceLE, Int.reduceLT, Int.reduceGE, Int.reduceGT, Int.reduceNeg, ks, lz, memE, memOp, zb0, hi, w1, w2, l1, l2, ha, t1, t2, hcc]
theorem zcxb (id len K k k2 : Nat) (A : List Pr) (x y : Pr) (σ : Store) (hA : A.length = len) (hl : len < 1000) (h0 : 0 < k2) (h : K + k2 < len) (hk : k < len) (ha : aget σ.objs id = some (cellsOf (A.map dP))) (t1 : takeC (cellsOf (A.map dP)) ((K + k2) * 5) 5 = some (cP x)) (t2 : takeC (cellsOf (A.map dP)) ((K + (k2 - 1)) * 5) 5 = some (cP y)) (hc : EqC C x y) (hp : eqP x y = false) :
    exec C n a_35 (EC0 id len K k k2) σ = some (.normal, EC0 id len K (k + 1) (k2 + 1), setO σ id (cellsOf ((A.set k x).map dP))) := by
  have hi : ((k2 : Int) < ((len - K : Nat) : Int)) := by omega
  have w1 := zam (i := k2) (by omega)
  have w3 := zam (i := k) (by omega)
  have w2 : IntKind.i64.wrap ((k2 : Int) - 1) = ((k2 - 1 : Nat) : Int) := by rw [zbc (by omega) (by omega)]; omega
  have l1 : k2 < len - K := by omega
  have l2 : k2 - 1 < len - K := by omega
  have p1 := zhcb A k (by omega) x
  have c1 := zeg A
  have d1 : k * 5 + 5 ≤ (cellsOf (A.map dP)).length := by omega
  have hcc := hc σ
  rw [hp] at hcc
  have o1 : (D.agg (cP x)).ok = true := ok_dP _
  have e1 : (D.agg (cP x)).cells = cP x := rfl
  have n1 : (D.agg (cP x)).one = false := rfl
  simp only [a_35, EC0, fnC, de0, de1, de2, szQ, szB, szL, sy0, sy1, sy2, sy3, sy4, sy5, zad, zaa, zac, zae, adel, zah, zag, zai, zaf, evalV, aget, aset, adel1, nth, AOp.kind, Nat.reduceAdd, Nat.reduceSub, Nat.reduceMul, Nat.reduceBEq, Nat.ble, bindO, Nat.reduceLeDiff, Int.reduceBEq, Int.reduceBNe, Int.reduceLE, Int.reduceLT, Int.reduceGE, Int.reduceGT, Int.reduceNeg, ks, lz, memE, memOp, zb0, hi, hk, w1, w2, w3, l1, l2, ha, t1, t2, hcc, p1, d1, o1, e1, n1, zns, setO]
theorem zfwb (id len K k k2 : Nat) (h : ¬ (k2 < len - K)) (σ : Store) : exec C n a_35 (EC0 id len K k k2) σ = some (.exit 2, { EC0 id len K k k2 with slots := [(0, ⟨false, .arr k_1 id 0 len⟩), (1, ⟨false, fnC⟩), (5, ⟨false, .int .i64 k⟩), (6, ⟨false, .arr k_1 id K (len - K)⟩), (7, ⟨false, .int .i64 k2⟩), (35, ⟨false, .bool false⟩)] }, σ) := by
  have hi : ¬ ((k2 : Int) < ((len - K : Nat) : Int)) := by omega
  simp only [a_35, EC0, fnC, de0, de1, de2, szQ, szB, szL, sy0, sy1, sy2, sy3, sy4, sy5, zad, zaa, zac, zae, adel, zah, zag, zai, zaf, evalV, aget, aset, adel1, nth, AOp.kind, Nat.reduceAdd, Nat.reduceSub, Nat.reduceMul, Nat.reduceBEq, Nat.ble, bindO, Nat.reduceLeDiff, Int.reduceBEq, Int.reduceBNe, Int.reduceLE, Int.reduceLT, Int.reduceGE, Int.reduceGT, Int.reduceNeg, ks, lz, hi]
end
end Go.Fu
