/-
  Two rows of data types joined; the kinds; the prelude.
-/
import Derived.Test.YtmhedpkbfaginaaGreatDoorFlK
import Derived.Test.YtmhedpkbfaginaaGreatDoorFlD
set_option maxHeartbeats 4000000
set_option linter.unusedSimpArgs false
set_option linter.unusedVariables false
set_option linter.unusedSectionVars false
namespace Go.Fu
open Go Go.Mx
set_option maxRecDepth 10000
set_option maxHeartbeats 4000000
def dd (a b : List Da) : D := .list k_27 [dDl a, dDl b]
theorem len_Dl (l : List Da) : lenOf (dDl l) = some l.length := len_map dDa l
theorem listOf_dDl {os : Objs} (l : List Da) : listOf os (dDl l) = some (l.map dDa) := by rw [dDl, listOf_dlist]
theorem frz_dl {n : Nat} {k : RowK} {os : Objs} (l : List D) : freezeD (n + 1) (dlist k l) os = some (dlist k l, os) := by
  cases l <;> rfl
theorem exec_frz {C : CallF} {n : Nat} {ro : Option Nat} {ts : List FTgt} {b : ACode} {e : Env} {σ : Store} : exec C n ro (.frz ts b) e σ = bindO (freezes ts e σ) fun x => exec C n ro b x.1 x.2 := rfl
theorem frz_dDa {n : Nat} (x : Da) (os : Objs) : freezeD (n + 2) (dDa x) os = some (dDa x, os) := by
  have h1 := frz_dl (n := n) (k := k_2) (os := os) (x.vars.map D.str)
  have h2 := frz_dl (n := n) (k := k_3) (os := os) (List.replicate x.vars.length dKi)
  have h3 := frz_dl (n := n) (k := k_7) (os := os) (x.cons.map dCn)
  have e1 : freezeD (n + 1) (.str x.name) os = some (.str x.name, os) := rfl
  have e2 : freezeD (n + 1) (.int .i64 x.pos) os = some (.int .i64 x.pos, os) := rfl
  have e : ∀ ds, freezeD (n + 2) (.agg ds) os = bindO (freezeL (freezeD (n + 1)) ds os) fun r => some (.agg r.1, r.2) := fun _ => rfl
  simp only [dDa, cDa, e, freezeL, dSs, dKl, dCl, h1, h2, h3, e1, e2, bindO, caseO_some]
section
variable {C : CallF} {n : Nat} {σ : Store}
def Ecc0 (a b : List Da) (acc i : Nat) : Env := { slots := [(0, ⟨false, dd a b⟩), (3, ⟨false, .int .i64 acc⟩), (9, ⟨false, dd a b⟩), (10, ⟨false, .int .i64 2⟩), (11, ⟨false, .int .i64 i⟩)], locs := [], boxes := [], defers := [] }
def Ecc1 (a b : List Da) (d : D) (i : Nat) : Env := { slots := [(6, ⟨false, d⟩), (25, ⟨false, dd a b⟩), (26, ⟨false, .int .i64 2⟩), (27, ⟨false, .int .i64 i⟩)], locs := [], boxes := [], defers := [] }
theorem cc0_step (a b x : List Da) (acc i : Nat) (hi : i < 2) (hx : indexD 1 (dd a b) i = some (.eptr (dDl x))) (hl : acc + x.length < 1000000000) : exec C n none a_54 (Ecc0 a b acc i) σ = some (.normal, Ecc0 a b (acc + x.length) (i + 1), σ) := by
  have hlt : ((i : Int) < 2) := by omega
  have w := wrap64_succ (i := i) (by omega)
  have w2 : IntKind.i64.wrap ((acc : Int) + x.length) = ((acc + x.length : Nat) : Int) := by rw [wrap64 (by omega) (by omega)]; omega
  have g : ¬ (((acc + x.length : Nat) : Int) < 0) := by omega
  have h1 := one_dDl x
  have h2 := len_Dl x
  simp only [a_54, Ecc0, sA, Nat.reduceAdd, Nat.reduceSub, Nat.reduceMul, Nat.reduceBEq, Nat.reduceLeDiff, Int.reduceBEq, Int.reduceBNe, Int.reduceLE, Int.reduceLT, Int.reduceGE, Int.reduceGT, Int.reduceNeg, kn, hlt, natI, hx, h1, h2, w, w2, g]
theorem cc0_end (a b : List Da) (acc : Nat) : exec C n none a_54 (Ecc0 a b acc 2) σ = some (.exit 0, { slots := [(0, ⟨false, dd a b⟩), (3, ⟨false, .int .i64 acc⟩), (9, ⟨false, dd a b⟩), (10, ⟨false, .int .i64 2⟩), (11, ⟨false, .int .i64 2⟩), (12, ⟨false, .bool false⟩)], locs := [], boxes := [], defers := [] }, σ) := by
  have hlt : ¬ (((2 : Nat) : Int) < 2) := by omega
  simp only [a_54, Ecc0, sA, Nat.reduceAdd, Nat.reduceSub, Nat.reduceMul, Nat.reduceBEq, Nat.reduceLeDiff, Int.reduceBEq, Int.reduceBNe, Int.reduceLE, Int.reduceLT, Int.reduceGE, Int.reduceGT, Int.reduceNeg, kn, hlt]
  rfl
theorem cc1_step (a b x : List Da) (d d' : D) (σ' : Store) (i : Nat) (hi : i < 2) (hx : indexD 1 (dd a b) i = some (.eptr (dDl x))) (ha : appendAD σ k_0 96 d (x.map dDa) = some (d', σ')) : exec C n none a_55 (Ecc1 a b d i) σ = some (.normal, Ecc1 a b d' (i + 1), σ') := by
  have hlt : ((i : Int) < 2) := by omega
  have w := wrap64_succ (i := i) (by omega)
  have h1 := one_dDl x
  have hli : listOf σ.objs (dDl x) = some (x.map dDa) := listOf_dDl x
  generalize x.map dDa = xs at *
  simp only [a_55, Ecc1, sA, Nat.reduceAdd, Nat.reduceSub, Nat.reduceMul, Nat.reduceBEq, Nat.reduceLeDiff, Int.reduceBEq, Int.reduceBNe, Int.reduceLE, Int.reduceLT, Int.reduceGE, Int.reduceGT, Int.reduceNeg, kn, memE, memOp, hlt, natI, hx, h1, hli, ha, w]
theorem cc1_end (a b : List Da) (d : D) : exec C n none a_55 (Ecc1 a b d 2) σ = some (.exit 2, { slots := [(6, ⟨false, d⟩), (25, ⟨false, dd a b⟩), (26, ⟨false, .int .i64 2⟩), (27, ⟨false, .int .i64 2⟩), (28, ⟨false, .bool false⟩)], locs := [], boxes := [], defers := [] }, σ) := by
  have hlt : ¬ (((2 : Nat) : Int) < 2) := by omega
  simp only [a_55, Ecc1, sA, Nat.reduceAdd, Nat.reduceSub, Nat.reduceMul, Nat.reduceBEq, Nat.reduceLeDiff, Int.reduceBEq, Int.reduceBNe, Int.reduceLE, Int.reduceLT, Int.reduceGE, Int.reduceGT, Int.reduceNeg, kn, hlt]
  rfl
end
theorem call_concat (n0 : Nat) {S : Specs} (hS : has S n_116 = false) (a b : List Da) (h0 : a ≠ []) (hl : a.length + b.length < 1000000) : OkP n_21 [dd a b] ⟨false, dDl (a ++ b)⟩ := by
  have hpos : 0 < a.length := List.length_pos_iff.2 h0
  have x0 : indexD 1 (dd a b) 0 = some (.eptr (dDl a)) := rfl
  have x1 : indexD 1 (dd a b) 1 = some (.eptr (dDl b)) := rfl
  have hlen : lenOf (dd a b) = some 2 := rfl
  have l0 : loopN (exec (T S 1) 3 none a_54) 3 (Ecc0 a b 0 0) σ0 = _ := (loopN_succ (cc0_step a b a 0 0 (by omega) x0 (by omega))).trans ((loopN_succ (cc0_step a b b _ 1 (by omega) x1 (by omega))).trans (loopN_stop (cc0_end a b _)))
  have hg := grow_run S hS 0 (0 + a.length + b.length) σ0 (by omega) (by omega)
  have hn2 : noPtrL [dd a b] = true := by simp [noPtrL, noPtr, dd, noPtr_dDl]
  have z2 : (((2 : Nat) : Int)) = 2 := rfl
  obtain ⟨σ1, e1⟩ : ∃ σ1, σ1 = newArr σ0 k_0 (rowOf z5D (0 + a.length + b.length)) := ⟨_, rfl⟩
  have s0 : SA σ1 0 [] ((0 + a.length + b.length) * 5) := ⟨⟨_, by rw [e1]; exact agS _ _ _, rowOf_len _⟩, by rw [e1]; exact agS _ _ _⟩
  obtain ⟨σ2, g2, s2⟩ := s0.app a (by simp; omega)
  obtain ⟨σ3, g3, s3⟩ := s2.app b (by simp; omega)
  simp only [List.length_nil, Nat.zero_add, List.nil_append] at g2 g3 s3 s2
  rw [← e1] at hg
  have l1 : loopN (exec (T S 1) 3 none a_55) 3 (Ecc1 a b (.arr k_0 0 0 0) 0) σ1 = _ := (loopN_succ (cc1_step a b a _ _ σ2 0 (by omega) x0 g2)).trans ((loopN_succ (cc1_step a b b _ _ σ3 1 (by omega) x1 g3)).trans (loopN_stop (cc1_end a b _)))
  obtain ⟨cs, h3, hc⟩ := s3.a
  have hcs : cs = [] := List.length_eq_zero_iff.1 hc
  subst hcs
  rw [List.append_nil] at h3
  have hfz := freezeD_row (k := k_0) (id := σ2.next) (n := 39) (ds := (a ++ b).map dDa) (os := σ3.objs) (os' := adel1 σ3.objs σ2.next) h3 rfl rfl (fun d hd => by
    obtain ⟨x, _, rfl⟩ := List.mem_map.1 hd
    exact ⟨rfl, rfl⟩) (fun d hd => by
    obtain ⟨x, _, rfl⟩ := List.mem_map.1 hd
    exact frz_dDa x _)
  rw [List.length_map, List.length_append] at hfz
  have hds : dDl (a ++ b) = .list k_0 ((a ++ b).map dDa) := by
    cases a with
    | nil => exact absurd rfl h0
    | cons x r => rfl
  refine pure_fun (af := a_101) (n := 3) (σ' := Store.trunc { σ3 with objs := adel1 σ3.objs σ2.next } 0) (T_sound S 1) rfl rfl hn2 (noPtr_dDl _) ?_
  rw [hds]
  simp only [Nat.zero_add] at l0 hg
  simp only [Ecc0, zeroI] at l0
  simp only [Ecc1, zeroI] at l1
  have hn0 : σ0.next = 0 := rfl
  rw [hn0] at hg
  generalize (a ++ b).map dDa = ab at *
  have hkp : Cell.keeps ⟨false, .arr k_0 σ2.next 0 (a.length + b.length)⟩ = false := rfl
  simp only [a_101, sA, Nat.reduceAdd, Nat.reduceSub, Nat.reduceMul, Nat.reduceBEq, Nat.reduceLeDiff, Int.reduceBEq, Int.reduceBNe, Int.reduceLE, Int.reduceLT, Int.reduceGE, Int.reduceGT, Int.reduceNeg, kn, hlen, z2, l0, zeroI, hg, l1, exec_frz, freezes, freeze1, hfz, hkp]
end Go.Fu
namespace Go.Fu
open Go Go.Mx
set_option maxRecDepth 10000
set_option maxHeartbeats 4000000
theorem star_pure : OkP n_75 [] ⟨false, dKi⟩ := by
  refine pure_fun (af := a_83) (n := 3) (σ' := σ0) (T_sound [] 1) rfl rfl rfl rfl ?_
  simp only [a_83, sA, Nat.reduceAdd, Nat.reduceSub, Nat.reduceMul, Nat.reduceBEq, Nat.reduceLeDiff, Int.reduceBEq, Int.reduceBNe, Int.reduceLE, Int.reduceLT, Int.reduceGE, Int.reduceGT, Int.reduceNeg, kn, onel]
  rfl
def sp_star : List D → Cell → Prop := fun _ c => c = ⟨false, dKi⟩
def SP1 : Specs := [(n_75, sp_star)]
theorem call_star {S : Specs} (hS : aget S n_75 = some sp_star) (n : Nat) (σ : Store) : T S (n + 1) n_75 [] σ = some (.ret ⟨false, dKi⟩, σ) := by
  obtain ⟨c, g1, g2⟩ := T_orc (S := S) hS rfl (s := sp_star) rfl star_pure
  rw [g2, g1]
theorem prelude_pure : OkP n_17 [] ⟨false, dDl pre3⟩ := by
  have h := call_star (S := SP1) rfl 0 σ0
  refine OkP.weak (o := true) rfl ?_
  refine pure_fun (af := a_82) (n := 3) (σ' := σ0) (T_sound SP1 1) rfl rfl rfl (noPtr_dDl pre3) ?_
  rw [dKi] at h
  simp only [a_82, sA, Nat.reduceAdd, Nat.reduceSub, Nat.reduceMul, Nat.reduceBEq, Nat.reduceLeDiff, Int.reduceBEq, Int.reduceBNe, Int.reduceLE, Int.reduceLT, Int.reduceGE, Int.reduceGT, Int.reduceNeg, kn, onel, h, pre3_D]
section
variable {C : CallF} {n : Nat} {σ : Store}
def Esf (l : List Fi) (i : Nat) : Env := { slots := [(0, ⟨false, dFl l⟩), (1, ⟨false, dFl l⟩), (5, ⟨false, .int .i64 i⟩)], locs := [], boxes := [], defers := [] }
theorem sf_step {S : Specs} (hS : aget S n_8 = some sp_equal) (l : List Fi) (i : Nat) (hi : i < l.length) (hl : l.length ≤ 100000) (hf : Fine l[i].ty) (σ : Store) : ∃ e, exec (T S 1) n none a_45 (Esf l i) σ = some (.normal, e, σ) ∧ e = Esf l (i + 1) := by
  have hx := idx_F l i hi
  have hlt : ((i : Int) < l.length) := by omega
  have w := wrap64_succ (i := i) (by omega)
  have hc := call_equal hS l[i].ty hf 0 σ
  have hlen := len_F l
  refine ⟨_, ?_, rfl⟩
  generalize l[i] = x at *
  have h4 : Mx.part (some 4) (cFi x) 4 = some (.agg (cTy x.ty)) := rfl
  have c0 : nth (cFi x) 0 = some (.str x.name) := rfl
  have c1 : nth (cFi x) 1 = some (.int .i64 x.tag) := rfl
  have c2 : nth (cFi x) 2 = some (.int .i64 x.many) := rfl
  have c3 : nth (cFi x) 3 = some (.int .i64 x.arity) := rfl
  have l4 : ((cTy x.ty).length == 4) = true := rfl
  have dx : dFi x = .agg (cFi x) := rfl
  rw [dx] at hx
  simp only [dTy_eq] at hc
  simp only [a_45, Esf, sA, Nat.reduceAdd, Nat.reduceSub, Nat.reduceMul, Nat.reduceBEq, Nat.reduceLeDiff, Int.reduceBEq, Int.reduceBNe, Int.reduceLE, Int.reduceLT, Int.reduceGE, Int.reduceGT, Int.reduceNeg, kn, onel, hx, hlt, natI, hlen, h4, c0, c1, c2, c3, l4, hc, w, bne_self_eq_false]
theorem sf_end {C : CallF} (l : List Fi) : exec C n none a_45 (Esf l l.length) σ = some (.exit 0, { slots := [(0, ⟨false, dFl l⟩), (1, ⟨false, dFl l⟩), (5, ⟨false, .int .i64 l.length⟩), (15, ⟨false, .bool false⟩)], locs := [], boxes := [], defers := [] }, σ) := by
  have hlen := len_F l
  have hlt : ¬ ((l.length : Int) < l.length) := by omega
  simp only [a_45, Esf, sA, Nat.reduceAdd, Nat.reduceSub, Nat.reduceMul, Nat.reduceBEq, Nat.reduceLeDiff, Int.reduceBEq, Int.reduceBNe, Int.reduceLE, Int.reduceLT, Int.reduceGE, Int.reduceGT, Int.reduceNeg, kn, onel, hlt, hlen]
end
def SP2 : Specs := [(n_8, sp_equal)]
theorem same_pure (l : List Fi) (hl : l.length ≤ 100000) (hf : ∀ x ∈ l, Fine x.ty) : OkP n_128 [dFl l, dFl l] ⟨false, .bool true⟩ := by
  have hlen := len_F l
  have hr := loopN_run (body := exec (T SP2 1) (l.length + 1) none a_45) (Esf l) (fun _ => σ0) l.length (r := _) (fun _ _ h => by cases h) (fun i hi => by
    obtain ⟨e, h1, h2⟩ := sf_step (n := l.length + 1) (S := SP2) rfl l i hi hl (hf _ (List.getElem_mem hi)) σ0
    rw [h1, h2]) (sf_end l) 0 (l.length + 1) (by omega) (by omega)
  refine pure_fun (af := a_95) (n := l.length + 1) (σ' := σ0) (T_sound SP2 1) rfl rfl (by simp [noPtrL, noPtr_dFl]) rfl ?_
  simp only [Esf, zeroI] at hr
  simp only [a_95, sA, Nat.reduceAdd, Nat.reduceSub, Nat.reduceMul, Nat.reduceBEq, Nat.reduceLeDiff, Int.reduceBEq, Int.reduceBNe, Int.reduceLE, Int.reduceLT, Int.reduceGE, Int.reduceGT, Int.reduceNeg, kn, onel, hlen, hr, bne_self_eq_false]
end Go.Fu
namespace Go.Fu
open Go Go.Mx
set_option maxRecDepth 10000
set_option maxHeartbeats 4000000
theorem agA {α : Type} (k : Nat) (v : α) : ∀ l : List (Nat × α), aget (aset l k v) k = some v
  | [] => by simp [aset, aget, ifB]
  | (a, x) :: r => by
    rw [aset]
    cases h : a == k with
    | true => simp [aget, ifB, h]
    | false =>
      cases h2 : Nat.ble k a with
      | true => simp [aget, ifB]
      | false => simp only [ifB_false, aget, h, agA k v r]
theorem agB {α : Type} (k j : Nat) (v : α) (hj : (k == j) = false) : ∀ l : List (Nat × α), aget (aset l k v) j = aget l j
  | [] => by simp [aset, aget, ifB, hj]
  | (a, x) :: r => by
    rw [aset]
    cases h : a == k with
    | true =>
      have : a = k := by simpa using h
      subst this
      simp [aget, ifB, hj]
    | false =>
      cases h2 : Nat.ble k a with
      | true => simp [aget, ifB, hj]
      | false => simp only [ifB_false, aget, agB k j v hj r]
theorem aset_aset {α : Type} (k : Nat) (v w : α) : ∀ l : List (Nat × α), aset (aset l k v) k w = aset l k w
  | [] => by simp [aset, ifB]
  | (i, x) :: l => by
    simp only [aset]
    cases h : i == k with
    | true => simp [aset, ifB, h]
    | false =>
      cases h2 : Nat.ble k i with
      | true => simp [aset, ifB]
      | false => simp [aset, ifB, h, h2, aset_aset k v w l]
def SM (σ : Store) (id : Nat) (x : Oth) : Store := { σ with oth := aset σ.oth id x }
def GM (σ : Store) (x : Oth) : Store := { σ with oth := (σ.next, x) :: σ.oth, next := σ.next + 1 }
theorem mUpd {ks : Bool} {x i y : AOpd} {e : Env} {σ : Store} : memOp (.update ks x i y) e σ = bindO (opd e x) fun c => bindO (opd e i) fun k => bindO (opd e y) fun v => bindO (mapAt σ.oth c.d) fun m => ifB (keyD ks k.d && v.d.ok) (bindO (findM k.d m.2.1) fun r =>
      some (.undef, SM σ m.1 (caseO r (.map (m.2.1 ++ [(k.d, v.d, m.2.2)]) (m.2.2 + 1)) fun p => .map (m.2.1.set p.2.2 (k.d, v.d, p.2.1)) m.2.2))) none := rfl
theorem mMake {e : Env} {σ : Store} : memOp .makeMap e σ = some (.map σ.next, GM σ (.map [] 0)) := rfl
theorem SM_self {σ : Store} {id : Nat} {x : Oth} : aget (SM σ id x).oth id = some x := agA _ _ _
theorem SM_SM {σ : Store} {id : Nat} {x y : Oth} : SM (SM σ id x) id y = SM σ id y := by
  simp only [SM, aset_aset]
structure PN (σ : Store) (p m : Nat) (L : List Da) (es : List (Tx × Nat × Nat)) : Prop where
  obj : aget σ.objs p = some [⟨false, dDl L⟩, ⟨false, .map m⟩]
  map : aget σ.oth m = some (.map (esOf es 0) es.length)
  lt : p < σ.next
def SF (σ : Store) (m : Nat) (es : List (Tx × Nat × Nat)) : Store := SM σ m (.map (esOf es 0) es.length)
theorem SF_objs {σ : Store} {m : Nat} {es : List (Tx × Nat × Nat)} : (SF σ m es).objs = σ.objs := rfl
theorem SF_self {σ : Store} {m : Nat} {es : List (Tx × Nat × Nat)} : aget (SF σ m es).oth m = some (.map (esOf es 0) es.length) := SM_self
theorem SF_snoc {σ : Store} {m : Nat} {es : List (Tx × Nat × Nat)} {x : Tx × Nat × Nat} : SM (SF σ m es) m (.map (esOf es 0 ++ [entM x es.length]) (es.length + 1)) = SF σ m (es ++ [x]) := by
  rw [SF, SM_SM, SF, esOf_snoc, List.length_append, Nat.zero_add]
  rfl
theorem conAt_snoc (i : Nat) : ∀ (l : List Cn) (c : Cn) (k : Nat), conAt i (l ++ [c]) k = conAt i l k ++ [(c.name, i, k + l.length)]
  | [], c, k => rfl
  | x :: r, c, k => by
    simp only [List.cons_append, conAt, conAt_snoc i r c (k + 1), List.length_cons]
    rw [show k + 1 + r.length = k + (r.length + 1) by omega]
theorem conAt_app (i : Nat) : ∀ (a b : List Cn) (k : Nat), conAt i (a ++ b) k = conAt i a k ++ conAt i b (k + a.length)
  | [], b, k => rfl
  | x :: r, b, k => by
    simp only [List.cons_append, conAt, conAt_app i r b (k + 1), List.length_cons]
    rw [show k + 1 + r.length = k + (r.length + 1) by omega]
theorem conAts_app : ∀ (a b : List Da) (i : Nat), conAts (a ++ b) i = conAts a i ++ conAts b (i + a.length)
  | [], b, i => by simp [conAts]
  | x :: r, b, i => by
    simp only [List.cons_append, conAts, conAts_app r b (i + 1), List.length_cons, List.append_assoc]
    rw [show i + 1 + r.length = i + (r.length + 1) by omega]
theorem conAts_snoc (l : List Da) (d : Da) (i : Nat) : conAts (l ++ [d]) i = conAts l i ++ conAt (i + l.length) d.cons 0 := by
  rw [conAts_app]
  simp [conAts]
theorem once_ne {a b : List (Tx × Nat × Nat)} {x : Tx × Nat × Nat} (h : ((a ++ x :: b).map fun x => x.1).Nodup) : ∀ y ∈ a, y.1 ≠ x.1 := by
  intro y hy e
  rw [List.map_append, List.nodup_append] at h
  exact h.2.2 y.1 (List.mem_map_of_mem hy) x.1 (by simp) e
section
variable {C : CallF} {n : Nat} {σ : Store}
def En0 (L : List Da) (p i : Nat) (d : Da) (k : Nat) : Env := { slots := [(3, ⟨false, .ptr p 0⟩), (4, ⟨false, .int .i64 i⟩), (14, ⟨false, .ptr p 0⟩), (19, ⟨false, .int .i64 L.length⟩), (20, ⟨false, .int .i64 i⟩), (30, ⟨false, dCl d.cons⟩), (31, ⟨false, .int .i64 d.cons.length⟩), (32, ⟨false, .int .i64 k⟩)], locs := [], boxes := [], defers := [] }
theorem n0_step (L : List Da) (p m i : Nat) (d : Da) (es : List (Tx × Nat × Nat)) (ho : aget σ.objs p = some [⟨false, dDl L⟩, ⟨false, .map m⟩]) (k : Nat) (hk : k < d.cons.length) (hl : d.cons.length ≤ 1000) (hn : ∀ x ∈ es, x.1 ≠ (d.cons[k]).name) : exec C n none a_36 (En0 L p i d k) (SF σ m es) = some (.normal, En0 L p i d (k + 1), SF σ m (es ++ [((d.cons[k]).name, i, k)])) := by
  have hx := idx_C d.cons k hk
  have hlt : ((k : Int) < d.cons.length) := by omega
  have w := wrap64_succ (i := k) (by omega)
  rw [← SF_objs (m := m) (es := es)] at ho
  have hm := SF_self (σ := σ) (m := m) (es := es)
  have hf := findM_none _ es 0 hn
  rw [← SF_snoc]
  generalize d.cons[k] = c at *
  generalize SF σ m es = τ at *
  have dx : dCn c = .agg [.str c.name, .int .i64 c.pos, dTl c.fs] := rfl
  rw [dx] at hx
  have hma : mapAt τ.oth (.map m) = some (m, esOf es 0, es.length) := by simp only [mapAt, hm, bindO, caseO_some]
  have hkd : keyD true (.str c.name) = true := rfl
  simp only [a_36, En0, sA, Nat.reduceAdd, Nat.reduceSub, Nat.reduceMul, Nat.reduceBEq, Nat.reduceLeDiff, Int.reduceBEq, Int.reduceBNe, Int.reduceLE, Int.reduceLT, Int.reduceGE, Int.reduceGT, Int.reduceNeg, kn, onel, hx, hlt, w, memE, mUpd, ho, hma, hf, hkd, entM]
theorem n0_end (L : List Da) (p i : Nat) (d : Da) : exec C n none a_36 (En0 L p i d d.cons.length) σ = some (.exit 2, { slots := [(3, ⟨false, .ptr p 0⟩), (4, ⟨false, .int .i64 i⟩), (14, ⟨false, .ptr p 0⟩), (19, ⟨false, .int .i64 L.length⟩), (20, ⟨false, .int .i64 i⟩), (30, ⟨false, dCl d.cons⟩), (31, ⟨false, .int .i64 d.cons.length⟩), (32, ⟨false, .int .i64 d.cons.length⟩), (33, ⟨false, .bool false⟩)], locs := [], boxes := [], defers := [] }, σ) := by
  have hlt : ¬ ((d.cons.length : Int) < d.cons.length) := by omega
  simp only [a_36, En0, sA, Nat.reduceAdd, Nat.reduceSub, Nat.reduceMul, Nat.reduceBEq, Nat.reduceLeDiff, Int.reduceBEq, Int.reduceBNe, Int.reduceLE, Int.reduceLT, Int.reduceGE, Int.reduceGT, Int.reduceNeg, kn, onel, hlt]
def En1 (L : List Da) (p i : Nat) : Env := { slots := [(3, ⟨false, .ptr p 0⟩), (14, ⟨false, .ptr p 0⟩), (19, ⟨false, .int .i64 L.length⟩), (20, ⟨false, .int .i64 i⟩)], locs := [], boxes := [], defers := [] }
theorem n1_step (L : List Da) (p m i : Nat) (ho : aget σ.objs p = some [⟨false, dDl L⟩, ⟨false, .map m⟩]) (hi : i < L.length) (hL : L.length ≤ 1000) (hl : L[i].cons.length ≤ 1000) (hn : 2000 ≤ n) (h1 : ((conAts L 0).map fun x => x.1).Nodup) : exec C n none a_37 (En1 L p i) (SF σ m (conAts (L.take i) 0)) = some (.normal, En1 L p (i + 1), SF σ m (conAts (L.take (i + 1)) 0)) := by
  have hx := idx_D L i hi
  have hlt : ((i : Int) < L.length) := by omega
  have w := wrap64_succ (i := i) (by omega)
  have hs : conAts (L.take (i + 1)) 0 = conAts (L.take i) 0 ++ conAt i L[i].cons 0 := by
    rw [← take_snoc L i hi, conAts_snoc, List.length_take, Nat.min_eq_left (by omega), Nat.zero_add]
  have h2 : ((conAts (L.take (i + 1)) 0).map fun x => x.1).Nodup := by
    have e : conAts L 0 = conAts (L.take (i + 1)) 0 ++ conAts (L.drop (i + 1)) (0 + (L.take (i + 1)).length) := by rw [← conAts_app, List.take_append_drop]
    rw [e, List.map_append] at h1
    exact (List.nodup_append.1 h1).1
  rw [hs] at h2
  generalize conAts (L.take i) 0 = es at *
  rw [hs]
  generalize L[i] = d at *
  have hr := loopN_run (body := exec C n none a_36) (En0 L p i d) (fun k => SF σ m (es ++ conAt i (d.cons.take k) 0)) d.cons.length (r := _) (fun _ _ h => by cases h) (fun k hk => by
    have es2 : conAt i (d.cons.take (k + 1)) 0 = conAt i (d.cons.take k) 0 ++ [(d.cons[k].name, i, k)] := by
      rw [← take_snoc d.cons k hk, conAt_snoc, List.length_take, Nat.min_eq_left (by omega), Nat.zero_add]
    show _ = some (AExit.normal, _, SF σ m (es ++ conAt i (d.cons.take (k + 1)) 0))
    rw [es2, ← List.append_assoc]
    refine n0_step L p m i d _ ho k hk hl ?_
    have e : conAt i d.cons 0 = (conAt i (d.cons.take k) 0 ++ [(d.cons[k].name, i, k)]) ++ conAt i (d.cons.drop (k + 1)) (0 + (d.cons.take (k + 1)).length) := by rw [← es2, ← conAt_app, List.take_append_drop]
    rw [e, List.append_assoc, ← List.append_assoc, List.singleton_append] at h2
    exact once_ne h2) (n0_end L p i d) 0 n (by omega) (by omega)
  have dd0 : Mx.nth (cDa d) 4 = some (dCl d.cons) := rfl
  have dx : dDa d = .agg (cDa d) := rfl
  have hlen := len_C d.cons
  have l5 : ((cDa d).length == 5) = true := rfl
  rw [dx] at hx
  simp only [List.take_zero, conAt, List.append_nil, List.take_length] at hr
  rw [← SF_objs (m := m) (es := es)] at ho
  generalize SF σ m es = τ at *
  generalize SF σ m (es ++ conAt i d.cons 0) = τ' at *
  simp only [En0, zeroI] at hr
  simp only [a_37, En1, sA, Nat.reduceAdd, Nat.reduceSub, Nat.reduceMul, Nat.reduceBEq, Nat.reduceLeDiff, Int.reduceBEq, Int.reduceBNe, Int.reduceLE, Int.reduceLT, Int.reduceGE, Int.reduceGT, Int.reduceNeg, kn, onel, hx, hlt, natI, hlen, ho, dd0, l5, hr, w]
theorem n1_end (L : List Da) (p : Nat) : exec C n none a_37 (En1 L p L.length) σ = some (.exit 0, { slots := [(3, ⟨false, .ptr p 0⟩), (14, ⟨false, .ptr p 0⟩), (19, ⟨false, .int .i64 L.length⟩), (20, ⟨false, .int .i64 L.length⟩), (21, ⟨false, .bool false⟩)], locs := [], boxes := [], defers := [] }, σ) := by
  have hlt : ¬ ((L.length : Int) < L.length) := by omega
  simp only [a_37, En1, sA, Nat.reduceAdd, Nat.reduceSub, Nat.reduceMul, Nat.reduceBEq, Nat.reduceLeDiff, Int.reduceBEq, Int.reduceBNe, Int.reduceLE, Int.reduceLT, Int.reduceGE, Int.reduceGT, Int.reduceNeg, kn, onel, hlt]
end
end Go.Fu
namespace Go.Fu
open Go Go.Mx
set_option maxRecDepth 10000
set_option maxHeartbeats 4000000
def sp_prelude : List D → Cell → Prop := fun _ c => c = ⟨false, dDl pre3⟩
def sp_cat : List D → Cell → Prop := fun ds c => ∀ a b : List Da, ds = [dd a b] → c = ⟨false, dDl (a ++ b)⟩
theorem dd_inj {a b a' b' : List Da} (h : dd a b = dd a' b') : a = a' ∧ b = b' := by
  simp only [dd, D.list.injEq, List.cons.injEq, true_and, and_true] at h
  exact ⟨dDl_inj h.1, dDl_inj h.2⟩
theorem call_prelude {S : Specs} (hS : aget S n_17 = some sp_prelude) (n : Nat) (σ : Store) : T S (n + 1) n_17 [] σ = some (.ret ⟨false, dDl pre3⟩, σ) := by
  obtain ⟨c, g1, g2⟩ := T_orc (S := S) hS rfl (s := sp_prelude) rfl prelude_pure
  rw [g2, g1]
theorem call_cat {S : Specs} (hS : aget S n_21 = some sp_cat) (a b : List Da) (h0 : a ≠ []) (hl : a.length + b.length < 1000000) (n : Nat) (σ : Store) : T S (n + 1) n_21 [dd a b] σ = some (.ret ⟨false, dDl (a ++ b)⟩, σ) := by
  obtain ⟨c, g1, g2⟩ := T_orc (S := S) hS rfl (s := sp_cat) (c := ⟨false, dDl (a ++ b)⟩) (fun a' b' e => by
    obtain ⟨rfl, rfl⟩ := dd_inj (List.cons.inj e).1
    rfl) (call_concat 0 (S := []) rfl a b h0 hl)
  rw [g2, g1 a b rfl]
theorem pureC_prelude {S : Specs} (hS : aget S n_17 = some sp_prelude) (n : Nat) : pureC (T S (n + 1)) n_17 [] = some (.c ⟨false, dDl pre3⟩) := by
  have := call_prelude hS n { objs := [], tys := [], oth := [], next := 0 }
  have h2 := noPtr_dDl pre3
  simp only [pureC, noPtrL, ifB_true, this, bindO, caseO_some, h2]
theorem pureC_cat {S : Specs} (hS : aget S n_21 = some sp_cat) (a b : List Da) (h0 : a ≠ []) (hl : a.length + b.length < 1000000) (n : Nat) : pureC (T S (n + 1)) n_21 [dd a b] = some (.c ⟨false, dDl (a ++ b)⟩) := by
  have := call_cat hS a b h0 hl n { objs := [], tys := [], oth := [], next := 0 }
  have h2 := noPtr_dDl (a ++ b)
  have hn2 : noPtrL [dd a b] = true := by simp [noPtrL, noPtr, dd, noPtr_dDl]
  simp only [pureC, hn2, ifB_true, this, bindO, caseO_some, h2]
def GO (τ : Store) (cs : List Cell) : Store := { τ with objs := (τ.next, cs.map fun c => Cell.of c.d) :: τ.objs, tys := adel1 τ.tys τ.next, next := τ.next + 1 }
theorem prom {τ : Store} {cs : List Cell} : freezes [.promote 14] { slots := [], locs := [(3, 14, 0), (14, 14, 0)], boxes := [(14, cs)], defers := [] } τ = some ({ slots := [(3, ⟨false, .ptr τ.next 0⟩), (14, ⟨false, .ptr τ.next 0⟩)], locs := [], boxes := [], defers := [] }, GO τ cs) := rfl
theorem new_run {S : Specs} (hS0 : has S n_114 = false) (hS1 : aget S n_17 = some sp_prelude) (hS2 : aget S n_21 = some sp_cat) (ds : List Da) (hl : ds.length ≤ 900) (hc : ∀ d ∈ ds, d.cons.length ≤ 1000) (h1 : ((conAts (pre3 ++ ds) 0).map fun x => x.1).Nodup) (n : Nat) (hn : 2000 ≤ n) (σ : Store) : ∃ σ' p m, T S (n + 1) n_114 [dPr ds] σ = some (.ret ⟨false, .ptr p 0⟩, σ') ∧ PN σ' p m (pre3 ++ ds) (conAts (pre3 ++ ds) 0) := by
  obtain ⟨n, rfl⟩ : ∃ k, n = k + 1 := ⟨n - 1, by omega⟩
  rw [T_fun (af := a_86) hS0 rfl rfl]
  have p1 := pureC_prelude hS1 n
  have p2 := pureC_cat hS2 pre3 ds (by simp [pre3]) (by simp [pre3]; omega) n
  have hlen := len_D (pre3 ++ ds)
  have hL : (pre3 ++ ds).length ≤ 1000 := by simp [pre3]; omega
  have hc' : ∀ d ∈ pre3 ++ ds, d.cons.length ≤ 1000 := by
    intro d hd
    rcases List.mem_append.1 hd with h | h
    · simp only [pre3, List.mem_cons, List.not_mem_nil, or_false] at h
      rcases h with rfl | rfl | rfl <;> simp
    · exact hc d h
  generalize pre3 ++ ds = L at *
  have hd : dd pre3 ds = .list k_27 [dDl pre3, dDl ds] := rfl
  rw [hd] at p2
  obtain ⟨τ, hτ⟩ : ∃ τ, τ = GO (GM σ (.map [] 0)) [⟨false, dDl L⟩, ⟨false, .map σ.next⟩] := ⟨_, rfl⟩
  have hnx : (GM σ (.map [] 0)).next = σ.next + 1 := rfl
  have ho : aget τ.objs (σ.next + 1) = some [⟨false, dDl L⟩, ⟨false, .map σ.next⟩] := by rw [hτ]; exact agS _ _ _
  have hz : SF τ σ.next (conAts (L.take 0) 0) = τ := by
    rw [hτ]
    simp [SF, SM, GO, GM, conAts, esOf, aset, ifB]
  have hr := loopN_run (body := exec (T S (n + 1)) (n + 1) none a_37) (En1 L (σ.next + 1)) (fun i => SF τ σ.next (conAts (L.take i) 0)) L.length (r := _) (fun _ _ h => by cases h) (fun i hi => n1_step L _ _ i ho hi hL (hc' _ (List.getElem_mem hi)) hn h1) (n1_end L _) 0 (n + 1) (by omega) (by omega)
  simp only [hz, List.take_length] at hr
  refine ⟨SF τ σ.next (conAts L 0), σ.next + 1, σ.next, ?_, ?_⟩
  · simp only [En1, zeroI] at hr
    generalize SF τ σ.next (conAts L 0) = τ' at *
    simp only [a_86, dPr, sA, Nat.reduceAdd, Nat.reduceSub, Nat.reduceMul, Nat.reduceBEq, Nat.reduceLeDiff, Int.reduceBEq, Int.reduceBNe, Int.reduceLE, Int.reduceLT, Int.reduceGE, Int.reduceGT, Int.reduceNeg, kn, onel, p1, p2, memE, mMake, hlen, exec_frz, prom]
    rw [hnx, ← hτ]
    simp only [sA, Nat.reduceAdd, Nat.reduceSub, Nat.reduceMul, Nat.reduceBEq, Nat.reduceLeDiff, Int.reduceBEq, Int.reduceBNe, Int.reduceLE, Int.reduceLT, Int.reduceGE, Int.reduceGT, Int.reduceNeg, kn, onel, hlen, ho, hr]
  · refine ⟨ho, SF_self, ?_⟩
    rw [hτ]
    show σ.next + 1 < σ.next + 1 + 1
    omega
end Go.Fu
namespace Go.Fu
open Go Go.Mx
set_option maxRecDepth 10000
set_option maxHeartbeats 4000000
theorem con_run {S : Specs} (hS0 : has S n_29 = false) {σ : Store} {p m : Nat} {L : List Da} (h : PN σ p m L (conAts L 0)) (hL : L.length ≤ 1000) (s : Tx) (n : Nat) : T S (n + 1) n_29 [.ptr p 0, .str s] σ = some (.ret ⟨false, conR (conM s L)⟩, σ) := by
  rw [T_fun (af := a_69) hS0 rfl rfl]
  have ho := h.obj
  have hma : mapOf σ.oth (.map m) = some (esOf (conAts L 0) 0) := by simp only [mapOf, h.map, bindO, caseO_some]
  have hkd : keyD true (.str s) = true := rfl
  have hf := conAts_find s L 0
  cases hc : conM s L with
  | none =>
    rw [hc] at hf
    have h1 := findM_none s _ 0 hf
    have ez : dDa zDa = .agg [.str [], .int .i64 0, .nils, .nils, .nils] := rfl
    simp only [conR, ez]
    generalize esOf (conAts L 0) 0 = es at *
    simp only [a_69, sA, Nat.reduceAdd, Nat.reduceSub, Nat.reduceMul, Nat.reduceBEq, Nat.reduceLeDiff, Int.reduceBEq, Int.reduceBNe, Int.reduceLE, Int.reduceLT, Int.reduceGE, Int.reduceGT, Int.reduceNeg, kn, onel, ho, hma, hkd, h1]
  | some q =>
    rw [hc] at hf
    obtain ⟨i, e1, e2⟩ := hf
    obtain ⟨b, j, h1⟩ := findM_some s _ 0 _ e2
    obtain ⟨hi, e3⟩ := List.getElem?_eq_some_iff.1 e1
    have hx := idx_D L i hi
    rw [e3] at hx
    simp only [Nat.zero_add] at h1
    obtain ⟨d, k⟩ := q
    simp only [conR] at hx h1 ⊢
    generalize esOf (conAts L 0) 0 = es at *
    simp only [a_69, sA, Nat.reduceAdd, Nat.reduceSub, Nat.reduceMul, Nat.reduceBEq, Nat.reduceLeDiff, Int.reduceBEq, Int.reduceBNe, Int.reduceLE, Int.reduceLT, Int.reduceGE, Int.reduceGT, Int.reduceNeg, kn, onel, ho, hma, hkd, h1, hx, natI, dDa_eq]
def GA (σ : Store) (t : Nat) (cs : List Cell) : Store := { objs := (σ.next, cs) :: σ.objs, tys := (σ.next, ⟨t, 0⟩) :: σ.tys, oth := σ.oth, next := σ.next + 1 }
theorem agC {α : Type} (k j : Nat) (v : α) (l : List (Nat × α)) (hj : k ≠ j) : aget ((k, v) :: l) j = aget l j := by
  have : (k == j) = false := by simpa using hj
  simp [aget, ifB, this]
theorem PN.ga {σ : Store} {p m t : Nat} {L : List Da} {es : List (Tx × Nat × Nat)} {cs : List Cell} (h : PN σ p m L es) : PN (GA σ t cs) p m L es := by
  refine ⟨?_, h.map, Nat.lt_succ_of_lt h.lt⟩
  have := h.lt
  exact (agC _ _ _ _ (by omega)).trans h.obj
theorem pd_run {S : Specs} (hS0 : has S n_61 = false) {σ : Store} {q : Nat} {s : Tx} (h : aget σ.objs q = some [⟨false, .str s⟩]) (d : Da) (n : Nat) : T S (n + 1) n_61 [dDa d, .ptr q 0] σ = some (.ret ⟨false, .bool (d.name == s)⟩, σ) := by
  rw [T_fun (af := a_84) hS0 rfl rfl]
  simp only [a_84, dDa, cDa, sA, Nat.reduceAdd, Nat.reduceSub, Nat.reduceMul, Nat.reduceBEq, Nat.reduceLeDiff, Int.reduceBEq, Int.reduceBNe, Int.reduceLE, Int.reduceLT, Int.reduceGE, Int.reduceGT, Int.reduceNeg, kn, onel, h]
section
variable {C : CallF} {n : Nat} {σ : Store}
def Exf (L : List Da) (g : D) (i : Nat) : Env := { slots := [(0, ⟨false, dDl L⟩), (1, ⟨false, g⟩), (7, ⟨false, .int .i64 L.length⟩), (8, ⟨false, .int .i64 i⟩)], locs := [], boxes := [], defers := [] }
theorem xf_step (L : List Da) (g : D) (fid : Nat) (ca : List D) (hg : D.fn? g = some (fid, [], ca)) (i : Nat) (h : i < L.length) (hl : L.length < 1000000000) (h1 : C fid (dDa (L.getD i zDa) :: ca) σ = some (.ret ⟨false, .bool false⟩, σ)) : exec C n none a_16 (Exf L g i) σ = some (.normal, Exf L g (i + 1), σ) := by
  have hx := idx_D L i h
  have hlt : ((i : Int) < (L.length : Int)) := by omega
  have w := wrap64_succ (i := i) (by omega)
  rw [getD_eq _ _ _ h] at h1
  generalize L[i] = x at *
  simp only [dDa_eq] at hx h1
  have l5 : ((cDa x).length == 5) = true := rfl
  simp only [a_16, Exf, sA, Nat.reduceAdd, Nat.reduceSub, Nat.reduceMul, Nat.reduceBEq, Nat.reduceLeDiff, Int.reduceBEq, Int.reduceBNe, Int.reduceLE, Int.reduceLT, Int.reduceGE, Int.reduceGT, Int.reduceNeg, kn, onel, hlt, natI, hx, l5, hg, h1, w]
theorem xf_stop (L : List Da) (g : D) (fid : Nat) (ca : List D) (hg : D.fn? g = some (fid, [], ca)) (i : Nat) (h : i < L.length) (h1 : C fid (dDa (L.getD i zDa) :: ca) σ = some (.ret ⟨false, .bool true⟩, σ)) : exec C n none a_16 (Exf L g i) σ = some (.ret, { slots := [(4, ⟨false, .int .i64 i⟩)], locs := [], boxes := [], defers := [] }, σ) := by
  have hx := idx_D L i h
  have hlt : ((i : Int) < (L.length : Int)) := by omega
  rw [getD_eq _ _ _ h] at h1
  generalize L[i] = x at *
  simp only [dDa_eq] at hx h1
  have l5 : ((cDa x).length == 5) = true := rfl
  simp only [a_16, Exf, sA, Nat.reduceAdd, Nat.reduceSub, Nat.reduceMul, Nat.reduceBEq, Nat.reduceLeDiff, Int.reduceBEq, Int.reduceBNe, Int.reduceLE, Int.reduceLT, Int.reduceGE, Int.reduceGT, Int.reduceNeg, kn, onel, hlt, natI, hx, l5, hg, h1]
theorem xf_end (L : List Da) (g : D) : exec C n none a_16 (Exf L g L.length) σ = some (.exit 0, { slots := [(0, ⟨false, dDl L⟩), (1, ⟨false, g⟩), (7, ⟨false, .int .i64 L.length⟩), (8, ⟨false, .int .i64 L.length⟩), (9, ⟨false, .bool false⟩)], locs := [], boxes := [], defers := [] }, σ) := by
  have hlt : ¬ ((L.length : Int) < (L.length : Int)) := by omega
  simp only [a_16, Exf, sA, Nat.reduceAdd, Nat.reduceSub, Nat.reduceMul, Nat.reduceBEq, Nat.reduceLeDiff, Int.reduceBEq, Int.reduceBNe, Int.reduceLE, Int.reduceLT, Int.reduceGE, Int.reduceGT, Int.reduceNeg, kn, onel, hlt]
end
def fIx : Option Nat → Int
  | none => -1
  | some i => i
theorem xf_run {S : Specs} (hS0 : has S n_117 = false) (L : List Da) (g : D) (fid : Nat) (ca : List D) (q : Da → Bool) (hg : D.fn? g = some (fid, [], ca)) (hl : L.length ≤ 1000) (n : Nat) (hn : 1001 ≤ n) (σ : Store) (hc : ∀ i, i < L.length → T S n fid (dDa (L.getD i zDa) :: ca) σ = some (.ret ⟨false, .bool (q (L.getD i zDa))⟩, σ)) :
    T S (n + 1) n_117 [dDl L, g] σ = some (.ret ⟨false, .int .i64 (fIx (firstN (fun i => q (L.getD i zDa)) L.length 0))⟩, σ) := by
  rw [T_fun (af := a_74) hS0 rfl rfl]
  have hlen := len_D L
  have h := loopN_first (body := exec (T S n) n none a_16) (Exf L g) σ L.length (fun i => q (L.getD i zDa)) (fun i => (.ret, { slots := [(4, ⟨false, .int .i64 i⟩)], locs := [], boxes := [], defers := [] }, σ)) (fun _ _ h => by cases h) (fun _ _ _ h => by cases h)
    (fun i hi hq => xf_step L g fid ca hg i hi (by omega) (by rw [hc i hi, hq])) (fun i hi hq => xf_stop L g fid ca hg i hi (by rw [hc i hi, hq])) (xf_end L g) L.length 0 n (by omega) (by omega)
  simp only [Exf, zeroI] at h
  cases hf : firstN (fun i => q (L.getD i zDa)) L.length 0 with
  | none =>
    rw [hf] at h
    simp only at h
    simp only [fIx, a_74, sA, Nat.reduceAdd, Nat.reduceSub, Nat.reduceMul, Nat.reduceBEq, Nat.reduceLeDiff, Int.reduceBEq, Int.reduceBNe, Int.reduceLE, Int.reduceLT, Int.reduceGE, Int.reduceGT, Int.reduceNeg, kn, onel, hlen, h]
  | some i =>
    rw [hf] at h
    simp only at h
    simp only [fIx, a_74, sA, Nat.reduceAdd, Nat.reduceSub, Nat.reduceMul, Nat.reduceBEq, Nat.reduceLeDiff, Int.reduceBEq, Int.reduceBNe, Int.reduceLE, Int.reduceLT, Int.reduceGE, Int.reduceGT, Int.reduceNeg, kn, onel, hlen, h]
theorem data_run {S : Specs} (hS0 : has S n_122 = false) (hS1 : has S n_117 = false) (hS2 : has S n_61 = false) {σ : Store} {p m : Nat} {L : List Da} (h : PN σ p m L (conAts L 0)) (hL : L.length ≤ 1000) (s : Tx) (n : Nat) (hn : 1001 ≤ n) : ∃ σ', T S (n + 2) n_122 [.ptr p 0, .str s] σ = some (.ret ⟨false, dataR (dataM s L)⟩, σ') ∧ PN σ' p m L (conAts L 0) := by
  obtain ⟨n, rfl⟩ : ∃ k, n = k + 1 := ⟨n - 1, by omega⟩
  refine ⟨GA σ t_24 [⟨false, .str s⟩], ?_, h.ga⟩
  rw [T_fun (af := a_70) hS0 rfl rfl]
  have ho := (h.ga (t := t_24) (cs := [⟨false, .str s⟩])).obj
  have hq : aget (GA σ t_24 [⟨false, .str s⟩]).objs σ.next = some [⟨false, .str s⟩] := agS _ _ _
  generalize hτ : GA σ t_24 [⟨false, .str s⟩] = τ at *
  have hi := xf_run hS1 L (.fn (.func n_61) [] [.ptr σ.next 0]) n_61 [.ptr σ.next 0] (fun d => d.name == s) rfl hL (n + 1) hn τ (fun i hi => pd_run hS2 hq _ n)
  have e := dataM_first s L []
  simp only [List.nil_append, List.length_nil] at e
  have hlt : ∀ i, firstN (fun i => (L.getD i zDa).name == s) L.length 0 = some i → i < L.length := fun i h => by
    have := firstN_lt h
    omega
  have hgb : memOp (.gbox t_24 (.tmp 1)) { slots := [(0, ⟨false, .ptr p 0⟩), (1, ⟨false, .str s⟩)], locs := [], boxes := [], defers := [] } σ = some (.ptr σ.next 0, τ) := by rw [← hτ]; rfl
  cases hf : firstN (fun i => (L.getD i zDa).name == s) L.length 0 with
  | none =>
    rw [hf] at e hi
    simp only [fIx] at e hi
    rw [e]
    have ez : dDa zDa = .agg [.str [], .int .i64 0, .nils, .nils, .nils] := rfl
    simp only [dataR, ez]
    simp only [a_70, sA, Nat.reduceAdd, Nat.reduceSub, Nat.reduceMul, Nat.reduceBEq, Nat.reduceLeDiff, Int.reduceBEq, Int.reduceBNe, Int.reduceLE, Int.reduceLT, Int.reduceGE, Int.reduceGT, Int.reduceNeg, kn, onel, memE, hgb, ho, hi]
  | some i =>
    have hil := hlt i hf
    rw [hf] at e hi
    simp only [fIx] at e hi
    rw [e]
    have hx := idx_D L i hil
    rw [getD_eq _ _ _ hil]
    have g : ¬ ((i : Int) < 0) := by omega
    generalize L[i] = d at *
    simp only [dataR]
    simp only [dDa_eq] at hx ⊢
    have l5 : ((cDa d).length == 5) = true := rfl
    simp only [a_70, sA, Nat.reduceAdd, Nat.reduceSub, Nat.reduceMul, Nat.reduceBEq, Nat.reduceLeDiff, Int.reduceBEq, Int.reduceBNe, Int.reduceLE, Int.reduceLT, Int.reduceGE, Int.reduceGT, Int.reduceNeg, kn, onel, memE, hgb, ho, hi, g, natI, hx, l5]
end Go.Fu
