/-
  Code that lies in the store as an array: appends, join.
-/
import Derived.Test.YtldfbnbckiifeaaGreatDoorFgCodeA
set_option maxHeartbeats 4000000
set_option linter.unusedSimpArgs false
set_option linter.unusedVariables false
set_option linter.unusedSectionVars false
namespace Go.Fu
open Go Go.Mx
set_option maxRecDepth 10000
theorem zer {body : Env → Store → XRes} (P : Nat → Env → Store → Prop) (Q : AExit × Env × Store → Prop) (k : Nat) (hstep : ∀ i e σ, i < k → P i e σ → ∃ e' σ', body e σ = some (.normal, e', σ') ∧ P (i + 1) e' σ')
    (hend : ∀ e σ, P k e σ → ∃ r, body e σ = some r ∧ (∀ e σ, r ≠ (.normal, e, σ)) ∧ Q r) : ∀ (j n : Nat) (e : Env) (σ : Store), j ≤ k → k < n + j → P j e σ → ∃ r, loopN body n e σ = some r ∧ Q r
  | j, 0, e, σ, h1, h2, _ => by omega
  | j, n + 1, e, σ, h1, h2, hp => by
    rw [loopN]
    by_cases hj : j = k
    · subst hj
      obtain ⟨r, hr, hn, hq⟩ := hend e σ hp
      rw [hr]
      obtain ⟨x, e', σ'⟩ := r
      cases x with
      | normal => exact absurd rfl (hn e' σ')
      | _ => exact ⟨_, rfl, hq⟩
    · obtain ⟨e', σ', hb, hp'⟩ := hstep j e σ (by omega) hp
      rw [hb]
      exact zer P Q k hstep hend (j + 1) n e' σ' (by omega) (by omega) hp'
theorem zej : ∀ a b : List D, cellsOf (a ++ b) = cellsOf a ++ cellsOf b
  | [], b => rfl
  | d :: a, b => by simp only [List.cons_append, cellsOf, zej a b, List.append_assoc]
theorem zpy : ∀ a : List D, (cellsOf a).map (fun c => Cell.of c.d) = cellsOf a
  | [] => rfl
  | d :: a => by
    simp only [cellsOf, List.map_append, List.map_map, zpy a]
    rfl
theorem zmo {k : RowK} : ∀ ds : List D, (∀ d ∈ ds, d.cells.length = k.sz ∧ packD k d.cells = d) → zd1 k ds.length ((cellsOf ds).map fun c => c.d) = ds
  | [], _ => rfl
  | d :: ds, h => by
    obtain ⟨h1, h2⟩ := h d (by simp)
    have h3 := zmo ds fun x hx => h x (List.mem_cons_of_mem _ hx)
    have e1 : (d.cells.map Cell.of).map (fun c => c.d) = d.cells := by
      rw [List.map_map]
      exact List.map_id'' (fun _ => rfl) _
    simp only [List.length_cons, zd1, cellsOf, List.map_append, e1]
    rw [List.take_left' h1, List.drop_left' h1, h2, h3]
theorem zka {k : RowK} {ds : List D} (h : ∀ d ∈ ds, d.cells.length = k.sz ∧ packD k d.cells = d) : elems k (cellsOf ds) 0 ds.length = ds := by
  simp only [elems, Nat.zero_mul, List.drop_zero]
  exact zmo ds h
theorem zp2 {n : Nat} {os : Objs} : ∀ ds : List D, (∀ d ∈ ds, za2 n d os = some (d, os)) → zcc (za2 n) ds os = some (ds, os)
  | [], _ => rfl
  | d :: ds, h => by
    have h1 := h d (by simp)
    have h2 := zp2 ds fun x hx => h x (List.mem_cons_of_mem _ hx)
    simp only [zcc, h1, bindO, zab, h2]
def cI : List In → List Cell
  | [] => []
  | i :: r => ⟨false, .str i.op⟩ :: ⟨false, .int .i64 i.n⟩ :: ⟨false, .int .i64 i.m⟩ :: ⟨false, .str i.name⟩ :: cI r
theorem cI_eq : ∀ l : List In, cI l = cellsOf (l.map dI)
  | [] => rfl
  | i :: r => by rw [cI, cI_eq r]; rfl
theorem zpt : ∀ l : List In, (cI l).length = l.length * 4
  | [] => rfl
  | i :: r => by rw [cI]; simp only [List.length_cons, zpt r]; omega
theorem zmy (l : List In) : ∀ d ∈ l.map dI, d.cells.length = k_0.sz ∧ packD k_0 d.cells = d := fun d hd => by
  obtain ⟨x, _, rfl⟩ := List.mem_map.1 hd
  exact ⟨rfl, rfl⟩
theorem zq2 : ∀ l : List In, za6 k_0.sz (l.map dI) = true
  | [] => rfl
  | i :: r => by simp only [List.map_cons, za6, zq2 r]; rfl
theorem zr1 {α : Type} : ∀ (o : List (Nat × α)) (id : Nat), (∀ p ∈ o, p.1 < id) → adel1 o id = o
  | [], _, _ => rfl
  | (k, x) :: o, id, h => by
    have hk : (k == id) = false := beq_false_of_ne (by have := h (k, x) (by simp); simp only at this; omega)
    rw [adel1, hk, zaf, zr1 o id fun p hp => h p (List.mem_cons_of_mem _ hp)]
structure AS (o : List (Nat × List Cell)) (σ : Store) (id : Nat) (l : List In) : Prop where
  objs : σ.objs = (id, cI l) :: o
  low : ∀ p ∈ o, p.1 < id
  tys : aget σ.tys id = some ⟨k_0.el, k_0.sz⟩
  lt : id < σ.next
theorem AS.get {o : List (Nat × List Cell)} {σ : Store} {id : Nat} {l : List In} (h : AS o σ id l) : aget σ.objs id = some (cI l) := by
  rw [h.objs]
  simp [aget, ifB]
theorem AS.list {o : List (Nat × List Cell)} {σ : Store} {id : Nat} {l : List In} (h : AS o σ id l) : zb1 σ.objs (.arr k_0 id 0 l.length) = some (l.map dI) := by
  have e := zka (k := k_0) (ds := l.map dI) (zmy l)
  rw [List.length_map] at e
  have hd : decide ((0 + l.length) * k_0.sz ≤ (cI l).length) = true := by rw [zpt]; simp [k_0]
  have hc : (k_0.ag || k_0.sz == 1) = true := rfl
  simp only [zb1, h.get, bindO, zab, hc, hd, Bool.and_self, zad]
  rw [cI_eq, e]
theorem AS.more {o : List (Nat × List Cell)} {σ : Store} {id : Nat} {l : List In} (h : AS o σ id l) (x : In) (hl : l.length < 1000000000) : ∃ σ', zcv σ k_0 48 (.arr k_0 id 0 l.length) [dI x] = some (.arr k_0 σ.next 0 (l.length + 1), σ') ∧ AS o σ' σ.next (l ++ [x]) := by
  have h1 : za6 k_0.sz [dI x] = true := rfl
  have e0 : decide (l.length * k_0.sz ≤ (cI l).length) = true := by rw [zpt]; simp [k_0]
  have e1 : decide ((l.length + 1) * 48 ≤ bound) = true := decide_eq_true (show (l.length + 1) * 48 ≤ 1099511627776 by omega)
  have e2 : decide (l.length + 1 ≤ bound) = true := decide_eq_true (show l.length + 1 ≤ 1099511627776 by omega)
  have ek : k_0.same k_0 = true := rfl
  have ht : (cI l).take (l.length * k_0.sz) = cI l := List.take_of_length_le (by rw [zpt]; simp [k_0])
  have en : (cI l).map (fun c => Cell.of c.d) ++ cellsOf [dI x] = cI (l ++ [x]) := by
    rw [cI_eq, cI_eq, zpy, List.map_append, zej]
    rfl
  refine ⟨zb2 { σ with objs := adel1 σ.objs id } k_0 (cI (l ++ [x])), ?_, ?_⟩
  · simp only [zcv, h1, zad, h.get, h.tys, bindO, zab, ek, beq_self_eq_true, List.length_cons, List.length_nil, Nat.zero_add, e0, e1, e2, Bool.and_self, ht, en]
  · have hb : (id == id) = true := by simp
    have hdel : adel1 σ.objs id = o := by rw [h.objs, adel1, hb, zad, zr1 o id h.low]
    refine ⟨by simp only [zb2, hdel], fun p hp => Nat.lt_trans (h.low p hp) h.lt, by simp [zb2, aget, ifB], by simp [zb2]⟩
theorem AS.first {σ : Store} (hlow : ∀ p ∈ σ.objs, p.1 < σ.next) (l : List In) (hne : l ≠ []) (hl : l.length < 1000000000) : ∃ σ', zcv σ k_0 48 .nils (l.map dI) = some (.arr k_0 σ.next 0 l.length, σ') ∧ AS σ.objs σ' σ.next l := by
  have e1 : decide (l.length * 48 ≤ bound) = true := decide_eq_true (show l.length * 48 ≤ 1099511627776 by omega)
  have e2 : decide (l.length ≤ bound) = true := decide_eq_true (show l.length ≤ 1099511627776 by omega)
  have e : (l.map dI).isEmpty = false := by cases l with
    | nil => exact absurd rfl hne
    | cons a b => rfl
  refine ⟨zb2 σ k_0 (cI l), ?_, ?_⟩
  · rw [cI_eq]
    simp only [zcv, zq2, e, zad, zaf, e1, e2, Bool.and_self, List.length_map]
  · exact ⟨rfl, hlow, by simp [zb2, aget, ifB], by simp [zb2]⟩
section
variable {C : CallF} {n : Nat}
def Ejb (d : D) (b : List In) (id m i : Nat) : Env := { slots := [(0, ⟨false, d⟩), (1, ⟨false, dIs b⟩), (5, ⟨false, .arr k_0 id 0 m⟩), (6, ⟨false, .int .i64 i⟩)], locs := [], boxes := [], defers := [] }
theorem zitb (d : D) (k : Nat) (hd : lenOf d = some k) (b : List In) (i id m : Nat) (σ σ' : Store) (h : i < b.length) (hl : b.length < 1000000000) (ha : zcv σ k_0 48 (.arr k_0 id 0 m) [dI (shI k b[i])] = some (.arr k_0 σ.next 0 (m + 1), σ')) : exec C n none zcp (Ejb d b id m i) σ = some (.normal, Ejb d b σ.next (m + 1) (i + 1), σ') := by
  have hi : ((i : Int) < (b.length : Int)) := by omega
  have w := zaj (i := i) (by omega)
  have hx := idx_I b i h
  cases hb : b[i] with
  | mk op nn mm nm =>
  rw [hb] at ha hx
  simp only [shI, goesI] at ha
  simp only [dI] at hx ha
  cases h1 : op == [84, 69, 83, 84] with
  | true =>
    simp only [h1, Bool.true_or, zad] at ha
    simp only [zcp, Ejb, sA, Nat.reduceAdd, Nat.reduceSub, Nat.reduceMul, Nat.reduceBEq, Nat.reduceLeDiff, Int.reduceBEq, Int.reduceBNe, Int.reduceLE, Int.reduceLT, Int.reduceGE, Int.reduceGT, Int.reduceNeg, kn, memE, memOp, len_I, hd, hi, natI, hx, h1, ha, w]
  | false =>
    cases h2 : op == [84, 69, 83, 84, 73] with
    | true =>
      simp only [h1, h2, Bool.false_or, Bool.true_or, zad] at ha
      simp only [zcp, Ejb, sA, Nat.reduceAdd, Nat.reduceSub, Nat.reduceMul, Nat.reduceBEq, Nat.reduceLeDiff, Int.reduceBEq, Int.reduceBNe, Int.reduceLE, Int.reduceLT, Int.reduceGE, Int.reduceGT, Int.reduceNeg, kn, memE, memOp, len_I, hd, hi, natI, hx, h1, h2, ha, w]
    | false =>
      cases h3 : op == [74, 85, 77, 80] with
      | true =>
        simp only [h1, h2, h3, Bool.false_or, zad] at ha
        simp only [zcp, Ejb, sA, Nat.reduceAdd, Nat.reduceSub, Nat.reduceMul, Nat.reduceBEq, Nat.reduceLeDiff, Int.reduceBEq, Int.reduceBNe, Int.reduceLE, Int.reduceLT, Int.reduceGE, Int.reduceGT, Int.reduceNeg, kn, memE, memOp, len_I, hd, hi, natI, hx, h1, h2, h3, ha, w]
      | false =>
        simp only [h1, h2, h3, Bool.false_or, zaf] at ha
        simp only [zcp, Ejb, sA, Nat.reduceAdd, Nat.reduceSub, Nat.reduceMul, Nat.reduceBEq, Nat.reduceLeDiff, Int.reduceBEq, Int.reduceBNe, Int.reduceLE, Int.reduceLT, Int.reduceGE, Int.reduceGT, Int.reduceNeg, kn, memE, memOp, len_I, hd, hi, natI, hx, h1, h2, h3, ha, w]
theorem zk3b (d : D) (b : List In) (id m : Nat) (σ : Store) : exec C n none zcp (Ejb d b id m b.length) σ = some (.exit 0, { Ejb d b id m b.length with slots := [(0, ⟨false, d⟩), (1, ⟨false, dIs b⟩), (5, ⟨false, .arr k_0 id 0 m⟩), (6, ⟨false, .int .i64 b.length⟩), (13, ⟨false, .bool false⟩)] }, σ) := by
  have hi : ¬ ((b.length : Int) < (b.length : Int)) := by omega
  simp only [zcp, Ejb, sA, Nat.reduceAdd, Nat.reduceSub, Nat.reduceMul, Nat.reduceBEq, Nat.reduceLeDiff, Int.reduceBEq, Int.reduceBNe, Int.reduceLE, Int.reduceLT, Int.reduceGE, Int.reduceGT, Int.reduceNeg, kn, memE, memOp, len_I, hi]
end
theorem joinB {C : CallF} {n : Nat} {RD : CallF} (d : D) (a b : List In) (σ : Store) (hlow : ∀ p ∈ σ.objs, p.1 < σ.next) (hne : a ≠ []) (hla : lenOf d = some a.length) (hli : zb1 σ.objs d = some (a.map dI)) (hl : a.length + b.length < 1000000000) (hn : b.length < n) :
    ∃ id σ', finX Ra RD zgq σ.next (exec C n none zgq.body (zbp [d, dIs b]) σ) = some (.ret ⟨false, .arr k_0 id 0 (a.length + b.length)⟩, σ') ∧ AS σ.objs σ' id (joinM a b) := by
  obtain ⟨σ1, h1, hs1⟩ := AS.first hlow a hne (by omega)
  obtain ⟨r, hr, id, σ', rfl, hs⟩ := zer (body := exec C n none zcp)
    (fun i e σ2 => ∃ id, e = Ejb d b id (a.length + i) i ∧ AS σ.objs σ2 id (a ++ (b.take i).map (shI a.length)))
    (fun r => ∃ id σ', r = (.exit 0, { Ejb d b id (a.length + b.length) b.length with slots := [(0, ⟨false, d⟩), (1, ⟨false, dIs b⟩), (5, ⟨false, .arr k_0 id 0 (a.length + b.length)⟩), (6, ⟨false, .int .i64 b.length⟩), (13, ⟨false, .bool false⟩)] }, σ') ∧ AS σ.objs σ' id (joinM a b)) b.length
    (fun i e σ2 hi ⟨id, he, hs⟩ => by
      subst he
      have hlen : (a ++ (b.take i).map (shI a.length)).length = a.length + i := by simp; omega
      obtain ⟨σ3, h3, hs3⟩ := hs.more (shI a.length b[i]) (by omega)
      rw [hlen] at h3
      refine ⟨_, σ3, zitb d a.length hla b i id _ σ2 σ3 hi (by omega) h3, σ2.next, by simp [Nat.add_assoc], ?_⟩
      have e : a ++ (b.take i).map (shI a.length) ++ [shI a.length b[i]] = a ++ (b.take (i + 1)).map (shI a.length) := by rw [List.append_assoc, ← zba b i hi, List.map_append]; rfl
      rw [← e]
      exact hs3)
    (fun e σ2 ⟨id, he, hs⟩ => by
      subst he
      refine ⟨_, zk3b d b id _ σ2, fun _ _ h => (by cases h), id, σ2, rfl, ?_⟩
      rw [List.take_length] at hs
      exact hs) 0 n (Ejb d b σ.next a.length 0) σ1 (by omega) (by omega) ⟨σ.next, by simp, by simpa using hs1⟩
  simp only [Ejb, zeroI] at hr
  exact ⟨id, σ', by simp only [zgq, sA, Nat.reduceAdd, Nat.reduceSub, Nat.reduceMul, Nat.reduceBEq, Nat.reduceLeDiff, Int.reduceBEq, Int.reduceBNe, Int.reduceLE, Int.reduceLT, Int.reduceGE, Int.reduceGT, Int.reduceNeg, kn, memE, memOp, hli, h1, hr], hs⟩
end Go.Fu
namespace Go.Fu
open Go Go.Mx
set_option maxRecDepth 10000
def Γb : FuncId → Option AFun := fun f => ifB (f == n_4) (some zgq) (Γa f)
theorem Γb_holds : Holds Go.Proofs.Tryz.prog Γb := by
  intro f af h
  unfold Γb at h
  by_cases e : f = n_4
  · subst e
    simp only [beq_self_eq_true, zad, Option.some.injEq] at h
    subst h
    exact ⟨rfl, _, rfl, zvj⟩
  · have e' : (f == n_4) = false := by simpa using e
    rw [e', zaf] at h
    exact Γa_holds f af h
noncomputable def U (S : Specs) (n : Nat) : CallF := runS Go.Proofs.Tryz.prog κ Γb Ra Xa S n
theorem zhob (S : Specs) (n : Nat) : zc4 Go.Proofs.Tryz.prog κ (U S n) := (zqp Γb_holds zgz zou n).1
theorem U_orc {S : Specs} {f : FuncId} {s : List D → Cell → Prop} {ds : List D} {c : Cell} (hf : aget S f = some s) (hY : isY f = false) (hs : s ds c) (hp : OkP f ds c) : ∃ c', s ds c' ∧ ∀ n σ, U S (n + 1) f ds σ = some (.ret c', σ) := zvu hf hY hs hp
theorem zho {S : Specs} (hs : has S n_4 = false) {N : Nat} (d : D) (a b : List In) (σ : Store) (hlow : ∀ p ∈ σ.objs, p.1 < σ.next) (hne : a ≠ []) (hla : lenOf d = some a.length) (hli : zb1 σ.objs d = some (a.map dI)) (hl : a.length + b.length < 1000000000) (hn : b.length < N) :
    ∃ id σ', U S (N + 1) n_4 [d, dIs b] σ = some (.ret ⟨false, .arr k_0 id 0 (a.length + b.length)⟩, σ') ∧ AS σ.objs σ' id (joinM a b) := by
  obtain ⟨id, σ', h1, h2⟩ := joinB (C := U S N) (n := N) (RD := runSD Go.Proofs.Tryz.prog κ Γb Ra Xa S N) d a b σ hlow hne hla hli hl hn
  exact ⟨id, σ', (zvt hs rfl rfl).trans h1, h2⟩
theorem zbfb {S : Specs} {n m : Nat} {ds : List D} {c : Cell} {σ' : Store} (hl : ds.length = 4) (hd : zan ds = true) (hc : noPtr c.d = true)
    (hr : finX Ra (fun _ _ _ => none) zci 0 (exec (U S n) m none zci.body (zbp ds) σ0) = some (.ret c, σ')) : OkP n_11 ds c := by
  refine zkh (zhob S n) zgz rfl rfl ztn hl hd hc (n := m) (σ' := σ') ?_
  unfold finX at hr
  exact hr
def zeyb : List D → Cell → Prop := fun ds c => ∀ s x, ds = [.str s, .int .i64 x] → c = ⟨true, dIs [op1 s x]⟩
theorem zgyb (s : Tx) (x : Int) : OkP n_5 [.str s, .int .i64 x] ⟨true, dIs [op1 s x]⟩ := by
  refine zap (af := a_95) (n := 1) (σ' := σ0) (zar [] 0) rfl rfl rfl rfl ?_
  simp only [a_95, sA, Nat.reduceAdd, Nat.reduceSub, Nat.reduceMul, Nat.reduceBEq, Nat.reduceLeDiff, Int.reduceBEq, Int.reduceBNe, Int.reduceLE, Int.reduceLT, Int.reduceGE, Int.reduceGT, Int.reduceNeg, kn]
  rfl
theorem U_op {S : Specs} (hS : aget S n_5 = some zeyb) (s : Tx) (x : Int) (n : Nat) (σ : Store) : U S (n + 1) n_5 [.str s, .int .i64 x] σ = some (.ret ⟨true, dIs [op1 s x]⟩, σ) := by
  obtain ⟨c, h1, h2⟩ := U_orc (S := S) hS rfl (c := ⟨true, dIs [op1 s x]⟩) (fun a' b' e => by
    simp only [List.cons.injEq, D.str.injEq, D.int.injEq, true_and, and_true] at e
    rw [e.1, e.2]) (zgyb s x)
  rw [h2, h1 s x rfl]
theorem U_alt {S : Specs} (hS : aget S n_105 = some zewb) (a : Hd × Co) (env : List Tx) (hl : env.length + a.1.vars.length < 100000000) (n : Nat) (σ : Store) : U S (n + 1) n_105 [dA a, dSs env] σ = some (.ret ⟨false, .tup [dIs (altM a env).1, dSs (altM a env).2]⟩, σ) := by
  obtain ⟨c, h1, h2⟩ := U_orc (S := S) hS rfl (c := ⟨false, .tup [dIs (altM a env).1, dSs (altM a env).2]⟩) (fun a' b' e => by
    simp only [List.cons.injEq, and_true] at e
    rw [zkkb e.1, zbn e.2]) (zfmb a env hl)
  rw [h2, h1 a env rfl]
theorem U_S {B : Nat} {S : Specs} (hS : aget S n_7 = some (spS B)) (a : Co) (env : List Tx) (hp : OkI B (8 * a.size) n_7 [dCo a, dSs env]) : ∃ is, GC B (8 * a.size) is ∧ ∀ n σ, U S (n + 1) n_7 [dCo a, dSs env] σ = some (.ret ⟨false, dIs is⟩, σ) := by
  obtain ⟨js, h1, h2⟩ := hp
  obtain ⟨c, h3, h4⟩ := U_orc (S := S) hS rfl (c := ⟨false, dIs js⟩) (fun a' b' e => by
    simp only [List.cons.injEq, and_true] at e
    obtain rfl := zcn e.1
    exact ⟨js, rfl, h2⟩) h1
  obtain ⟨is, rfl, h5⟩ := h3 a env rfl
  exact ⟨is, h5, h4⟩
theorem U_T {B : Nat} {S : Specs} (hS : aget S n_10 = some (spT B)) (a : Co) (env : List Tx) (hp : OkI B (8 * a.size + 3) n_10 [dCo a, dSs env]) : ∃ is, GC B (8 * a.size + 3) is ∧ ∀ n σ, U S (n + 1) n_10 [dCo a, dSs env] σ = some (.ret ⟨false, dIs is⟩, σ) := by
  obtain ⟨js, h1, h2⟩ := hp
  obtain ⟨c, h3, h4⟩ := U_orc (S := S) hS rfl (c := ⟨false, dIs js⟩) (fun a' b' e => by
    simp only [List.cons.injEq, and_true] at e
    obtain rfl := zcn e.1
    exact ⟨js, rfl, h2⟩) h1
  obtain ⟨is, rfl, h5⟩ := h3 a env rfl
  exact ⟨is, h5, h4⟩
theorem U_C {B : Nat} {S : Specs} (hS : aget S n_11 = some (spC B)) (a : Co) (i : Nat) (env : List Tx) (t : Bool) (hp : OkI B (2 + 8 * szA (a.al.drop i)) n_11 [dCo a, .int .i64 i, dSs env, .bool t]) :
    ∃ is, GC B (2 + 8 * szA (a.al.drop i)) is ∧ ∀ n σ, U S (n + 1) n_11 [dCo a, .int .i64 i, dSs env, .bool t] σ = some (.ret ⟨false, dIs is⟩, σ) := by
  obtain ⟨js, h1, h2⟩ := hp
  obtain ⟨c, h3, h4⟩ := U_orc (S := S) hS rfl (c := ⟨false, dIs js⟩) (fun a' i' b' t' e => by
    simp only [List.cons.injEq, D.int.injEq, D.bool.injEq, true_and, and_true] at e
    obtain rfl := zcn e.1
    obtain rfl : i = i' := by omega
    exact ⟨js, rfl, h2⟩) h1
  obtain ⟨is, rfl, h5⟩ := h3 a i env t rfl
  exact ⟨is, h5, h4⟩
def SCs (B : Nat) : Specs := [(n_5, zeyb), (n_105, zewb), (n_7, spS B), (n_10, spT B), (n_11, spC B)]
def setN (v : Int) : List In → List In
  | [] => []
  | i :: r => { i with n := v } :: r
theorem zl4 (v : Int) : ∀ l : List In, (setN v l).length = l.length
  | [] => rfl
  | _ :: _ => rfl
theorem zup {B n : Nat} {v : Int} {l : List In} (hv : Small v) (h : GC B n l) : GC B n (setN v l) := by
  refine ⟨?_, by rw [zl4]; exact h.2⟩
  cases l with
  | nil => exact h.1
  | cons i r =>
    intro x hx
    simp only [setN, List.mem_cons] at hx
    rcases hx with rfl | hx
    · have := h.1 i (by simp)
      exact ⟨this.1, hv, this.2.2.1, this.2.2.2⟩
    · exact h.1 x (by simp [hx])
theorem AS.idx {o : List (Nat × List Cell)} {σ : Store} {id : Nat} {l : List In} (_h : AS o σ id l) (hne : l ≠ []) : za7 4 (.arr k_0 id 0 l.length) 0 = some (.ptr id 0) := by
  cases l with
  | nil => exact absurd rfl hne
  | cons a b =>
    have : decide (0 < (a :: b).length) = true := by simp
    simp only [za7, this]
    rfl
theorem AS.set {o : List (Nat × List Cell)} {σ : Store} {id : Nat} {l : List In} (h : AS o σ id l) (hne : l ≠ []) (v : Int) : fits ⟨false, .int .i64 v⟩ 1 1 (cI l) = true ∧ AS o { σ with objs := aset σ.objs id (zat (cI l) 1 (zbf ⟨false, .int .i64 v⟩)) } id (setN v l) := by
  cases l with
  | nil => exact absurd rfl hne
  | cons a b =>
    refine ⟨?_, ?_, h.low, h.tys, h.lt⟩
    · simp [fits, cI, D.ok, D.cells]
    · have hb : (id == id) = true := by simp
      simp only [h.objs, aset, hb, zad]
      rfl
theorem zeb {z : Nat} : ∀ a : List D, (∀ d ∈ a, d.cells.length = z) → (cellsOf a).length = a.length * z
  | [], _ => by simp [cellsOf]
  | d :: a, h => by
    have h1 := h d (by simp)
    have h2 := zeb a fun x hx => h x (List.mem_cons_of_mem _ hx)
    simp only [cellsOf, List.length_append, List.length_map, h1, h2, List.length_cons, Nat.succ_mul, Nat.add_comm]
theorem zoc {n : Nat} {k : RowK} {id off len : Nat} {os : Objs} : za2 (n + 1) (.arr k id off len) os = bindO (aget os id) fun cs => ifB ((k.ag || k.sz == 1) && decide ((off + len) * k.sz ≤ cs.length)) (bindO (zcc (za2 n) (elems k cs off len) (adel1 os id)) fun r => some (.list k r.1, r.2)) none := rfl
theorem zhk {k : RowK} {id n : Nat} {ds : List D} {os os' : Objs} (ho : aget os id = some (cellsOf ds)) (hd : adel1 os id = os') (hk : (k.ag || k.sz == 1) = true) (h : ∀ d ∈ ds, d.cells.length = k.sz ∧ packD k d.cells = d) (hf : ∀ d ∈ ds, za2 n d os' = some (d, os')) :
    za2 (n + 1) (.arr k id 0 ds.length) os = some (.list k ds, os') := by
  have hl := zeb ds fun d hd => (h d hd).1
  have e0 : decide ((0 + ds.length) * k.sz ≤ (cellsOf ds).length) = true := by simp; omega
  simp only [zoc, ho, bindO, zab, hk, e0, Bool.and_self, ifB, zka h, hd, zp2 ds hf]
theorem AS.frz {o : List (Nat × List Cell)} {σ : Store} {id : Nat} {l : List In} (h : AS o σ id l) (hne : l ≠ []) (s : Nat) (e : Env) (b : Bool) (hs : aget e.slots s = some ⟨b, .arr k_0 id 0 l.length⟩) : ∃ σ' b', zbo [.slot s] e σ = some ({ e with slots := aset e.slots s ⟨b', dIs l⟩ }, σ') := by
  have hr := zhk (k := k_0) (id := id) (n := 39) (ds := l.map dI) (os := σ.objs) (os' := adel1 σ.objs id) (by rw [h.get, cI_eq]) rfl rfl (zmy l) (fun d hd => by
    obtain ⟨x, _, rfl⟩ := List.mem_map.1 hd
    rfl)
  rw [List.length_map] at hr
  have hd : dIs l = .list k_0 (l.map dI) := by
    cases l with
    | nil => exact absurd rfl hne
    | cons a b => rfl
  refine ⟨{ σ with objs := adel1 σ.objs id }, Cell.keeps ⟨b, .arr k_0 id 0 l.length⟩, ?_⟩
  simp only [zbo, zbq, hs, bindO, zab, hr, hd]
end Go.Fu
namespace Go.Fu
open Go Go.Mx
set_option maxRecDepth 10000
theorem zge {a b : List In} (h : a ≠ []) : joinM a b ≠ [] := by simp [joinM, h]
theorem AS.frzD {o : List (Nat × List Cell)} {σ : Store} {id : Nat} {l : List In} (h : AS o σ id l) (hne : l ≠ []) : za2 40 (.arr k_0 id 0 l.length) σ.objs = some (dIs l, adel1 σ.objs id) := by
  have hr := zhk (k := k_0) (id := id) (n := 39) (ds := l.map dI) (os := σ.objs) (os' := adel1 σ.objs id) (by rw [h.get, cI_eq]) rfl rfl (zmy l) (fun d hd => by
    obtain ⟨x, _, rfl⟩ := List.mem_map.1 hd
    rfl)
  rw [List.length_map] at hr
  have hd : dIs l = .list k_0 (l.map dI) := by
    cases l with
    | nil => exact absurd rfl hne
    | cons a b => rfl
  rw [hr, hd]
theorem AS.lowN {σ : Store} {id : Nat} {o : List (Nat × List Cell)} {l : List In} (h : AS o σ id l) : ∀ p ∈ σ.objs, p.1 < σ.next := by
  rw [h.objs]
  intro p hp
  rcases List.mem_cons.1 hp with rfl | hp
  · exact h.lt
  · exact Nat.lt_trans (h.low p hp) h.lt
theorem AS.set2 {o : List (Nat × List Cell)} {σ : Store} {id : Nat} {l : List In} (h : AS o σ id l) (hne : l ≠ []) (v : Int) : decide (2 ≤ (cI l).length) = true ∧ AS o { σ with objs := aset σ.objs id (zat (cI l) 1 [⟨false, .int .i64 v⟩]) } id (setN v l) :=
  ⟨by have := (h.set hne v).1; simpa [fits, D.ok, D.cells] using this, (h.set hne v).2⟩
theorem zb4 {C : CallF} {n : Nat} {ro : Option Nat} {ts : List FTgt} {b : ACode} {e : Env} {σ : Store} : exec C n ro (.frz ts b) e σ = bindO (zbo ts e σ) fun x => exec C n ro b x.1 x.2 := rfl
theorem zbr {k : RowK} {b : Bool} {id n : Nat} : Cell.keeps ⟨b, .arr k id 0 n⟩ = false := rfl
theorem zf4 {B N : Nat} {c : Co} {i : Nat} {env : List Tx} {t : Bool} {is : List In} {o : Bool} {σ' : Store} (hr : finX Ra (fun _ _ _ => none) zci 0 (exec (U (SCs B) (N + 1)) 1 none zci.body (zbp [dCo c, .int .i64 i, dSs env, .bool t]) σ0) = some (.ret ⟨o, dIs is⟩, σ')) : OkP n_11 [dCo c, .int .i64 i, dSs env, .bool t] ⟨false, dIs is⟩ :=
  OkP.weak (o := o) rfl (zbfb (n := N + 1) (m := 1) (σ' := σ') rfl (by simp [zan, za5, zas, noPtr]) (zdi _) hr)
theorem zse {B : Nat} (c : Co) (i : Nat) (env : List Tx) (t : Bool) (hi : c.al.length ≤ i) : OkI B 2 n_11 [dCo c, .int .i64 i, dSs env, .bool t] := by
  have h1 := U_op (S := SCs B) rfl sFAIL 0 0 σ0
  have h2 := U_op (S := SCs B) rfl sPOP 1 0 σ0
  have hii : ((c.al.length : Int) ≤ (i : Int)) := by omega
  have hap : za1 k_0 48 ⟨true, dIs [op1 sPOP 1]⟩ [dI (op1 sFAIL 0)] = some ⟨true, dIs [op1 sPOP 1, op1 sFAIL 0]⟩ := appI1 [op1 sPOP 1] (op1 sFAIL 0) true (fun _ => rfl) (by simp)
  have has : zbl (dIs [op1 sFAIL 0]) = some [dI (op1 sFAIL 0)] := rfl
  simp only [sFAIL, sPOP] at h1 h2 hap has
  cases t with
  | true =>
    refine ⟨[op1 sFAIL 0], zf4 (B := B) (N := 0) (o := true) (σ' := σ0) ?_, gc_le (gc_op (by decide) zS) (by omega)⟩
    simp only [sFAIL]
    simp only [zci, sA, Nat.reduceAdd, Nat.reduceSub, Nat.reduceMul, Nat.reduceBEq, Nat.reduceLeDiff, Int.reduceBEq, Int.reduceBNe, Int.reduceLE, Int.reduceLT, Int.reduceGE, Int.reduceGT, Int.reduceNeg, kn, zae, zai, onel, len_A, hii, h1]
  | false =>
    refine ⟨[op1 sPOP 1, op1 sFAIL 0], zf4 (B := B) (N := 0) (o := true) (σ' := σ0) ?_, ?_⟩
    · simp only [sFAIL, sPOP]
      simp only [zci, sA, Nat.reduceAdd, Nat.reduceSub, Nat.reduceMul, Nat.reduceBEq, Nat.reduceLeDiff, Int.reduceBEq, Int.reduceBNe, Int.reduceLE, Int.reduceLT, Int.reduceGE, Int.reduceGT, Int.reduceNeg, kn, zae, zai, onel, len_A, hii, h1, h2, has, hap]
    · refine ⟨?_, by simp⟩
      intro x hx
      simp only [List.mem_cons, List.not_mem_nil, or_false] at hx
      rcases hx with rfl | rfl
      · exact gi_op (by decide) oneS
      · exact gi_op (by decide) zS
def sJUMP : Tx := [74, 85, 77, 80]
theorem zra {B : Nat} {n : Int} (h : Small n) : GI B ⟨sJUMP, n, 0, []⟩ := ⟨by simp [sJUMP], h, zS, by simp⟩
theorem zuo {B n : Nat} {l : List In} {x : In} (h : GC B n l) (hx : GI B x) : GC B (n + 1) (l ++ [x]) := by
  refine ⟨fun y hy => ?_, by have := h.2; simp; omega⟩
  rcases List.mem_append.1 hy with hy | hy
  · exact h.1 y hy
  · rw [List.mem_singleton.1 hy]; exact hx
set_option maxHeartbeats 4000000 in
theorem zz0 {B : Nat} (c : Co) (i : Nat) (env : List Tx) (t : Bool) (hi : i < c.al.length) (hl : env.length + c.size < 10000000) (hg : Small c.al[i].1.num ∧ c.al[i].1.name.length ≤ B)
    (hT : ∀ e : List Tx, e.length ≤ env.length + c.al[i].1.vars.length → OkI B (8 * c.al[i].2.size) n_7 [dCo c.al[i].2, dSs e] ∧ OkI B (8 * c.al[i].2.size + 3) n_10 [dCo c.al[i].2, dSs e])
    (hC : OkI B (2 + 8 * szA (c.al.drop (i + 1))) n_11 [dCo c, .int .i64 (i + 1 : Nat), dSs env, .bool t]) :
    OkI B (2 + 8 * szA (c.al.drop i)) n_11 [dCo c, .int .i64 i, dSs env, .bool t] := by
  have hsz := za3 c
  have hal := zc1 c.al
  have hd : szA (c.al.drop i) = 1 + c.al[i].1.vars.length + c.al[i].2.size + szA (c.al.drop (i + 1)) := by
    rw [List.drop_eq_getElem_cons hi]
    simp only [szA]
  have hd0 : szA (c.al.drop i) ≤ szA c.al := by
    have := ziw (c.al.take i) (c.al.drop i)
    rw [List.take_append_drop] at this
    omega
  have hii : ¬ ((c.al.length : Int) ≤ (i : Int)) := by omega
  have hx := idx_A c.al i hi
  generalize c.al[i] = a at hx hg hT hd
  obtain ⟨js, gj, h3⟩ := U_C (S := SCs B) rfl c (i + 1) env t hC
  have ga := zcjb (B := B) a env hg.1 hg.2 (by omega)
  have w := zaj (i := i) (by omega)
  have hdA := dA_eq a
  have g2 := gj.2
  have g3 := ga.2
  cases t with
  | true =>
    obtain ⟨is, gi, h2⟩ := U_T (S := SCs B) rfl a.2 (altM a env).2 (hT _ (zt2 a env)).2
    obtain ⟨N, hN⟩ : ∃ N, is.length + js.length + 10 < N := ⟨_, Nat.lt_succ_self _⟩
    have h1 := U_alt (S := SCs B) rfl a env (by omega) N σ0
    have g1 := gi.2
    obtain ⟨id1, σ1, h4, hs1⟩ := zho (S := SCs B) rfl (N := N) (dIs (altM a env).1) (altM a env).1 is σ0 (fun p hp => by cases hp) (znw a env) (len_I _) (by rw [dIs, zek]) (by omega) (by omega)
    have h2 := h2 N σ0
    have hne1 := zge (b := is) (znw a env)
    have hl1 := zbc (altM a env).1 is
    cases h3f : a.1.form != 3 with
    | false =>
      obtain ⟨id2, σ2, h5, hs2⟩ := zho (S := SCs B) rfl (N := N) (.arr k_0 id1 0 (joinM (altM a env).1 is).length) (joinM (altM a env).1 is) [] σ1 hs1.lowN hne1 rfl hs1.list (by simp; omega) (by simp; omega)
      have hne2 := zge (b := []) hne1
      have hz := hs2.frzD hne2
      rw [zbc (joinM (altM a env).1 is)] at hz
      refine ⟨joinM (joinM (altM a env).1 is) [], zf4 (B := B) (N := N) (o := false) (σ' := { σ2 with objs := adel1 σ2.objs id2 }) ?_, ?_⟩
      · rw [hl1] at h5 hz
        simp only [zae, zai, hdA] at h1 h2 h3 hx
        have en : dIs [] = .nils := rfl
        simp only [en, List.length_nil, Nat.add_zero] at h5 hz
        simp only [zci, sA, Nat.reduceAdd, Nat.reduceSub, Nat.reduceMul, Nat.reduceBEq, Nat.reduceLeDiff, Int.reduceBEq, Int.reduceBNe, Int.reduceLE, Int.reduceLT, Int.reduceGE, Int.reduceGT, Int.reduceNeg, kn, zae, zai, onel, len_A, hii, natI, hx, h1, h2, h3f, h4, h5, zb4, zbo, zbq, hz, zbr]
      · exact gc_le (zcd (zcd ga gi) (n := 0) ⟨by simp, by simp⟩) (by omega)
    | true =>
      have h3 := h3 N σ1
      have hst := hs1.set2 hne1 (joinM (altM a env).1 is).length
      have hix := hs1.idx hne1
      have hlen : lenOf (.arr k_0 id1 0 (joinM (altM a env).1 is).length) = some (joinM (altM a env).1 is).length := rfl
      have hgt := hs1.get
      generalize hσ : ({ σ1 with objs := aset σ1.objs id1 (zat (cI (joinM (altM a env).1 is)) 1 [⟨false, .int .i64 (joinM (altM a env).1 is).length⟩]) } : Store) = σs at hst
      have hse := zl4 (joinM (altM a env).1 is).length (joinM (altM a env).1 is)
      have hnes : setN (joinM (altM a env).1 is).length (joinM (altM a env).1 is) ≠ [] := by
        intro h
        rw [h] at hse
        exact hne1 (List.length_eq_zero_iff.1 hse.symm)
      obtain ⟨id2, σ2, h5, hs2⟩ := zho (S := SCs B) rfl (N := N) (.arr k_0 id1 0 (setN (joinM (altM a env).1 is).length (joinM (altM a env).1 is)).length) (setN (joinM (altM a env).1 is).length (joinM (altM a env).1 is)) js σs hst.2.lowN hnes rfl hst.2.list (by omega) (by omega)
      have hne2 := zge (b := js) hnes
      have hz := hs2.frzD hne2
      rw [zbc (setN _ _)] at hz
      have hf := hst.1
      refine ⟨joinM (setN (joinM (altM a env).1 is).length (joinM (altM a env).1 is)) js, zf4 (B := B) (N := N) (o := false) (σ' := { σ2 with objs := adel1 σ2.objs id2 }) ?_, ?_⟩
      · rw [hse] at h5 hz
        rw [hl1] at h5 hz hix hσ
        simp only [zae, zai, hdA] at h1 h2 h3 hx
        simp only [zci, sA, Nat.reduceAdd, Nat.reduceSub, Nat.reduceMul, Nat.reduceBEq, Nat.reduceLeDiff, Int.reduceBEq, Int.reduceBNe, Int.reduceLE, Int.reduceLT, Int.reduceGE, Int.reduceGT, Int.reduceNeg, kn, zae, zai, onel, len_A, hii, natI, nat0, w, hx, h1, h2, h3, h3f, h4, hix, hgt, hf, hσ, h5, zb4, zbo, zbq, hz, zbr, hl1]
      · exact gc_le (zcd (zup (zct (by omega)) (zcd ga gi)) gj) (by omega)
  | false =>
    obtain ⟨is, gi, h2⟩ := U_S (S := SCs B) rfl a.2 (altM a env).2 (hT _ (zt2 a env)).1
    obtain ⟨N, hN⟩ : ∃ N, is.length + js.length + 10 < N := ⟨_, Nat.lt_succ_self _⟩
    have h1 := U_alt (S := SCs B) rfl a env (by omega) N σ0
    have g1 := gi.2
    obtain ⟨id1, σ1, h4, hs1⟩ := zho (S := SCs B) rfl (N := N) (dIs (altM a env).1) (altM a env).1 is σ0 (fun p hp => by cases hp) (znw a env) (len_I _) (by rw [dIs, zek]) (by omega) (by omega)
    have h2 := h2 N σ0
    have hne1 := zge (b := is) (znw a env)
    have hl1 := zbc (altM a env).1 is
    have gL := zcd ga gi
    rw [← hl1] at h4
    generalize joinM (altM a env).1 is = L at h4 hs1 hne1 hl1 gL
    simp only [zae, zai, hdA] at h1 h2 h3 hx
    cases h1f : a.1.form == 1 with
    | true =>
      have hf1 : a.1.form = 1 := by simpa using h1f
      have h3f : (a.1.form != 3) = true := by rw [hf1]; rfl
      have h6 := U_op (S := SCs B) rfl zda a.1.vars.length N σ1
      obtain ⟨id2, σ2, h7, hs2⟩ := zho (S := SCs B) rfl (N := N) (.arr k_0 id1 0 L.length) L [op1 zda a.1.vars.length] σ1 hs1.lowN hne1 rfl hs1.list (by simp; omega) (by simp; omega)
      have hne2 := zge (b := [op1 zda a.1.vars.length]) hne1
      have hl2 := zbc L [op1 zda a.1.vars.length]
      have gL2 := zcd gL (gc_op (B := B) (s := zda) (x := a.1.vars.length) (by decide) (zct (by omega)))
      rw [← hl2] at h7
      generalize joinM L [op1 zda a.1.vars.length] = L2 at h7 hs2 hne2 hl2 gL2
      simp only [List.length_cons, List.length_nil] at hl2
      have h3 := h3 N σ2
      have w2 := zaj (i := L2.length) (by omega)
      have w3 : IntKind.i64.wrap (((L2.length + 1 : Nat) : Int) + js.length) = ((L2.length + 1 + js.length : Nat) : Int) := by rw [zbu (by omega) (by omega)]; omega
      obtain ⟨σ3, h8, hs3⟩ := hs2.more ⟨sJUMP, (L2.length + 1 + js.length : Nat), 0, []⟩ (by omega)
      have hne3 : L2 ++ [(⟨sJUMP, (L2.length + 1 + js.length : Nat), 0, []⟩ : In)] ≠ [] := by simp
      have hl3 : (L2 ++ [(⟨sJUMP, (L2.length + 1 + js.length : Nat), 0, []⟩ : In)]).length = L2.length + 1 := by simp
      have gL3 := zuo gL2 (zra (B := B) (n := (L2.length + 1 + js.length : Nat)) (zct (by omega)))
      simp only [dI, sJUMP] at h8
      generalize L2 ++ [(⟨sJUMP, (L2.length + 1 + js.length : Nat), 0, []⟩ : In)] = L3 at h8 hs3 hne3 hl3 gL3
      have hst := hs3.set2 hne3 L3.length
      have hix := hs3.idx hne3
      have hgt := hs3.get
      generalize hσ : ({ σ3 with objs := aset σ3.objs σ2.next (zat (cI L3) 1 [⟨false, .int .i64 L3.length⟩]) } : Store) = σs at hst
      have hse := zl4 L3.length L3
      have hnes : setN L3.length L3 ≠ [] := by
        intro h
        rw [h] at hse
        exact hne3 (List.length_eq_zero_iff.1 hse.symm)
      have gL4 := zup (v := L3.length) (zct (by omega)) gL3
      have hs4 := hst.2
      generalize setN L3.length L3 = L4 at hs4 hse hnes gL4
      obtain ⟨id5, σ5, h5, hs5⟩ := zho (S := SCs B) rfl (N := N) (.arr k_0 σ2.next 0 L4.length) L4 js σs hs4.lowN hnes rfl hs4.list (by omega) (by omega)
      have hne5 := zge (b := js) hnes
      have hz := hs5.frzD hne5
      rw [zbc L4] at hz
      refine ⟨joinM L4 js, zf4 (B := B) (N := N) (o := false) (σ' := { σ5 with objs := adel1 σ5.objs id5 }) ?_, ?_⟩
      · rw [hse, hl3] at h5 hz
        have hf := hst.1
        simp only [zda] at h6 h7
        rw [hl3] at hix hσ
        simp only [zci, sA, Nat.reduceAdd, Nat.reduceSub, Nat.reduceMul, Nat.reduceBEq, Nat.reduceLeDiff, Int.reduceBEq, Int.reduceBNe, Int.reduceLE, Int.reduceLT, Int.reduceGE, Int.reduceGT, Int.reduceNeg, kn, memE, memOp, zae, zai, onel, len_A, len_S, len_I, hii, natI, nat0, w, hx, h1, h2, h3, h1f, h3f, h4, h6, h7, w2, w3, h8, hix, hgt, hf, hσ, h5, zb4, zbo, zbq, hz, zbr]
      · exact gc_le (zcd gL4 gj) (by omega)
    | false =>
      cases h3f : a.1.form != 3 with
      | false =>
        have w2 := zaj (i := L.length) (by omega)
        have w3 : IntKind.i64.wrap (((L.length + 1 : Nat) : Int) + (0 : Nat)) = ((L.length + 1 : Nat) : Int) := by rw [zbu (by omega) (by omega)]; omega
        obtain ⟨σ3, h8, hs3⟩ := hs1.more ⟨sJUMP, (L.length + 1 : Nat), 0, []⟩ (by omega)
        have hne3 : L ++ [(⟨sJUMP, (L.length + 1 : Nat), 0, []⟩ : In)] ≠ [] := by simp
        have hl3 : (L ++ [(⟨sJUMP, (L.length + 1 : Nat), 0, []⟩ : In)]).length = L.length + 1 := by simp
        have gL3 := zuo gL (zra (B := B) (n := (L.length + 1 : Nat)) (zct (by omega)))
        simp only [dI, sJUMP] at h8
        generalize L ++ [(⟨sJUMP, (L.length + 1 : Nat), 0, []⟩ : In)] = L3 at h8 hs3 hne3 hl3 gL3
        obtain ⟨id5, σ5, h5, hs5⟩ := zho (S := SCs B) rfl (N := N) (.arr k_0 σ1.next 0 L3.length) L3 [] σ3 hs3.lowN hne3 rfl hs3.list (by simp; omega) (by simp; omega)
        have hne5 := zge (b := []) hne3
        have hz := hs5.frzD hne5
        rw [zbc L3] at hz
        refine ⟨joinM L3 [], zf4 (B := B) (N := N) (o := false) (σ' := { σ5 with objs := adel1 σ5.objs id5 }) ?_, ?_⟩
        · rw [hl3] at h5 hz
          have en : dIs [] = .nils := rfl
          simp only [en, List.length_nil, Nat.add_zero] at h5 hz
          simp only [zci, sA, Nat.reduceAdd, Nat.reduceSub, Nat.reduceMul, Nat.reduceBEq, Nat.reduceLeDiff, Int.reduceBEq, Int.reduceBNe, Int.reduceLE, Int.reduceLT, Int.reduceGE, Int.reduceGT, Int.reduceNeg, kn, memE, memOp, zae, zai, onel, len_A, len_S, len_I, hii, natI, nat0, hx, h1, h2, h1f, h3f, h4, w2, w3, h8, h5, zb4, zbo, zbq, hz, zbr]
        · exact gc_le (zcd gL3 (n := 0) ⟨by simp, by simp⟩) (by omega)
      | true =>
        have h3 := h3 N σ1
        have w2 := zaj (i := L.length) (by omega)
        have w3 : IntKind.i64.wrap (((L.length + 1 : Nat) : Int) + js.length) = ((L.length + 1 + js.length : Nat) : Int) := by rw [zbu (by omega) (by omega)]; omega
        obtain ⟨σ3, h8, hs3⟩ := hs1.more ⟨sJUMP, (L.length + 1 + js.length : Nat), 0, []⟩ (by omega)
        have hne3 : L ++ [(⟨sJUMP, (L.length + 1 + js.length : Nat), 0, []⟩ : In)] ≠ [] := by simp
        have hl3 : (L ++ [(⟨sJUMP, (L.length + 1 + js.length : Nat), 0, []⟩ : In)]).length = L.length + 1 := by simp
        have gL3 := zuo gL (zra (B := B) (n := (L.length + 1 + js.length : Nat)) (zct (by omega)))
        simp only [dI, sJUMP] at h8
        generalize L ++ [(⟨sJUMP, (L.length + 1 + js.length : Nat), 0, []⟩ : In)] = L3 at h8 hs3 hne3 hl3 gL3
        have hst := hs3.set2 hne3 L3.length
        have hix := hs3.idx hne3
        have hgt := hs3.get
        generalize hσ : ({ σ3 with objs := aset σ3.objs σ1.next (zat (cI L3) 1 [⟨false, .int .i64 L3.length⟩]) } : Store) = σs at hst
        have hse := zl4 L3.length L3
        have hnes : setN L3.length L3 ≠ [] := by
          intro h
          rw [h] at hse
          exact hne3 (List.length_eq_zero_iff.1 hse.symm)
        have gL4 := zup (v := L3.length) (zct (by omega)) gL3
        have hs4 := hst.2
        generalize setN L3.length L3 = L4 at hs4 hse hnes gL4
        obtain ⟨id5, σ5, h5, hs5⟩ := zho (S := SCs B) rfl (N := N) (.arr k_0 σ1.next 0 L4.length) L4 js σs hs4.lowN hnes rfl hs4.list (by omega) (by omega)
        have hne5 := zge (b := js) hnes
        have hz := hs5.frzD hne5
        rw [zbc L4] at hz
        refine ⟨joinM L4 js, zf4 (B := B) (N := N) (o := false) (σ' := { σ5 with objs := adel1 σ5.objs id5 }) ?_, ?_⟩
        · rw [hse, hl3] at h5 hz
          have hf := hst.1
          rw [hl3] at hix hσ
          simp only [zci, sA, Nat.reduceAdd, Nat.reduceSub, Nat.reduceMul, Nat.reduceBEq, Nat.reduceLeDiff, Int.reduceBEq, Int.reduceBNe, Int.reduceLE, Int.reduceLT, Int.reduceGE, Int.reduceGT, Int.reduceNeg, kn, memE, memOp, zae, zai, onel, len_A, len_S, len_I, hii, natI, nat0, w, hx, h1, h2, h3, h1f, h3f, h4, w2, w3, h8, hix, hgt, hf, hσ, h5, zb4, zbo, zbq, hz, zbr]
        · exact gc_le (zcd gL4 gj) (by omega)
end Go.Fu
