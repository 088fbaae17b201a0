/-
  The document's constructors, data types: found by their names.
-/
import Derived.Test.YtmhedpkbfaginaaGreatDoorFlH
set_option maxHeartbeats 4000000
set_option linter.unusedSimpArgs false
set_option linter.unusedVariables false
set_option linter.unusedSectionVars false
namespace Go.Fu
open Go Go.Mx
set_option maxRecDepth 10000
def z5 : List Cell := [⟨false, .str []⟩, ⟨false, .int .i64 0⟩, ⟨false, .nils⟩, ⟨false, .nils⟩, ⟨false, .nils⟩]
section
variable {C : CallF} {n : Nat} {σ : Store}
def Ecn (s : Tx) (L : List Da) (i j : Nat) : Env := { slots := [(1, ⟨false, .str s⟩), (7, ⟨false, dDl L⟩), (8, ⟨false, .int .i64 i⟩), (9, ⟨false, .int .i64 j⟩)], locs := [(4, 4, 0)], boxes := [(4, z5)], defers := [] }
theorem cn_step (s : Tx) (L : List Da) (i j : Nat) (d : Da) (c : Cn) (hj : j < d.cons.length) (hl : d.cons.length ≤ 1000) (hx : indexD 5 (dDl L) i = some (.eptr (dDa d))) (hy : indexD 3 (dCl d.cons) j = some (.eptr (dCn c))) (hq : (c.name == s) = false) :
    exec C n none a_33 (Ecn s L i j) σ = some (.normal, Ecn s L i (j + 1), σ) := by
  have h1 : ((j : Int) < (d.cons.length : Int)) := by omega
  simp only [dDa_eq] at hx
  simp only [dCn_eq] at hy
  simp only [a_33, Ecn, z5, sA, Nat.reduceAdd, Nat.reduceSub, Nat.reduceMul, Nat.reduceBEq, Nat.reduceLeDiff, Int.reduceBEq, Int.reduceBNe, Int.reduceLE, Int.reduceLT, Int.reduceGE, Int.reduceGT, Int.reduceNeg, kn, len_C, h1, natI, hx, hy, onel, hq, wrap64_succ (i := j) (by omega)]
theorem cn_stop (s : Tx) (L : List Da) (i j : Nat) (d : Da) (c : Cn) (hj : j < d.cons.length) (hl : d.cons.length ≤ 1000) (hx : indexD 5 (dDl L) i = some (.eptr (dDa d))) (hy : indexD 3 (dCl d.cons) j = some (.eptr (dCn c))) (hq : (c.name == s) = true) :
    exec C n none a_33 (Ecn s L i j) σ = some (.ret, { slots := [(5, ⟨false, .int .i64 j⟩), (6, ⟨false, .bool true⟩)], locs := [(4, 4, 0)], boxes := [(4, bD d)], defers := [] }, σ) := by
  have h1 : ((j : Int) < (d.cons.length : Int)) := by omega
  simp only [dDa_eq] at hx
  simp only [dCn_eq] at hy
  simp only [a_33, Ecn, z5, bD, sA, Nat.reduceAdd, Nat.reduceSub, Nat.reduceMul, Nat.reduceBEq, Nat.reduceLeDiff, Int.reduceBEq, Int.reduceBNe, Int.reduceLE, Int.reduceLT, Int.reduceGE, Int.reduceGT, Int.reduceNeg, kn, len_C, h1, natI, hx, hy, onel, hq]
theorem cn_end (s : Tx) (L : List Da) (i : Nat) (d : Da) (hx : indexD 5 (dDl L) i = some (.eptr (dDa d))) :
    exec C n none a_33 (Ecn s L i d.cons.length) σ = some (.exit 2, { Ecn s L i d.cons.length with slots := [(1, ⟨false, .str s⟩), (7, ⟨false, dDl L⟩), (8, ⟨false, .int .i64 i⟩), (9, ⟨false, .int .i64 d.cons.length⟩), (25, ⟨false, .bool false⟩)] }, σ) := by
  have h1 : ¬ ((d.cons.length : Int) < (d.cons.length : Int)) := by omega
  simp only [dDa_eq] at hx
  simp only [a_33, Ecn, z5, sA, Nat.reduceAdd, Nat.reduceSub, Nat.reduceMul, Nat.reduceBEq, Nat.reduceLeDiff, Int.reduceBEq, Int.reduceBNe, Int.reduceLE, Int.reduceLT, Int.reduceGE, Int.reduceGT, Int.reduceNeg, kn, len_C, h1, natI, hx, onel]
theorem cn_run (s : Tx) (L : List Da) (i : Nat) (d : Da) (hl : d.cons.length ≤ 1000) (hx : indexD 5 (dDl L) i = some (.eptr (dDa d))) (hn : 1000 < n) :
    loopN (exec C n none a_33) n (Ecn s L i 0) σ = some (match conIn s d.cons 0 with
      | some k => (.ret, { slots := [(5, ⟨false, .int .i64 k⟩), (6, ⟨false, .bool true⟩)], locs := [(4, 4, 0)], boxes := [(4, bD d)], defers := [] }, σ)
      | none => (.exit 2, { Ecn s L i d.cons.length with slots := [(1, ⟨false, .str s⟩), (7, ⟨false, dDl L⟩), (8, ⟨false, .int .i64 i⟩), (9, ⟨false, .int .i64 d.cons.length⟩), (25, ⟨false, .bool false⟩)] }, σ)) := by
  have h := loopN_first (body := exec C n none a_33) (Ecn s L i) σ d.cons.length (fun j => (d.cons.getD j zCn).name == s) (fun k => (.ret, { slots := [(5, ⟨false, .int .i64 k⟩), (6, ⟨false, .bool true⟩)], locs := [(4, 4, 0)], boxes := [(4, bD d)], defers := [] }, σ)) (fun _ _ h => by cases h) (fun _ _ _ h => by cases h)
    (fun j hj hq => by
      rw [getD_eq _ _ _ hj] at hq
      exact cn_step s L i j d _ hj hl hx (idx_C _ _ hj) hq)
    (fun j hj hq => by
      rw [getD_eq _ _ _ hj] at hq
      exact cn_stop s L i j d _ hj hl hx (idx_C _ _ hj) hq) (cn_end s L i d hx) d.cons.length 0 n (by omega) (by omega)
  have e := conIn_first s d.cons []
  simp only [List.nil_append, List.length_nil] at e
  rw [e] at h
  exact h
def Eco (s : Tx) (L : List Da) (i : Nat) : Env := { slots := [(1, ⟨false, .str s⟩), (7, ⟨false, dDl L⟩), (8, ⟨false, .int .i64 i⟩)], locs := [(4, 4, 0)], boxes := [(4, z5)], defers := [] }
theorem co_step (s : Tx) (L : List Da) (i : Nat) (d : Da) (hi : i < L.length) (hL : L.length ≤ 2000) (hl : d.cons.length ≤ 1000) (hx : indexD 5 (dDl L) i = some (.eptr (dDa d))) (hn : 1000 < n) (hq : conIn s d.cons 0 = none) :
    exec C n none a_42 (Eco s L i) σ = some (.normal, Eco s L (i + 1), σ) := by
  have h1 : ((i : Int) < (L.length : Int)) := by omega
  have h := cn_run (C := C) (σ := σ) s L i d hl hx hn
  rw [hq] at h
  simp only [Ecn, z5, zeroI] at h
  simp only [a_42, Eco, z5, sA, Nat.reduceAdd, Nat.reduceSub, Nat.reduceMul, Nat.reduceBEq, Nat.reduceLeDiff, Int.reduceBEq, Int.reduceBNe, Int.reduceLE, Int.reduceLT, Int.reduceGE, Int.reduceGT, Int.reduceNeg, kn, len_D, h1, h, wrap64_succ (i := i) (by omega)]
theorem co_stop (s : Tx) (L : List Da) (i k : Nat) (d : Da) (hi : i < L.length) (hL : L.length ≤ 2000) (hl : d.cons.length ≤ 1000) (hx : indexD 5 (dDl L) i = some (.eptr (dDa d))) (hn : 1000 < n) (hq : conIn s d.cons 0 = some k) :
    exec C n none a_42 (Eco s L i) σ = some (.ret, { slots := [(5, ⟨false, .int .i64 k⟩), (6, ⟨false, .bool true⟩)], locs := [(4, 4, 0)], boxes := [(4, bD d)], defers := [] }, σ) := by
  have h1 : ((i : Int) < (L.length : Int)) := by omega
  have h := cn_run (C := C) (σ := σ) s L i d hl hx hn
  rw [hq] at h
  simp only [Ecn, z5, zeroI] at h
  simp only [a_42, Eco, z5, sA, Nat.reduceAdd, Nat.reduceSub, Nat.reduceMul, Nat.reduceBEq, Nat.reduceLeDiff, Int.reduceBEq, Int.reduceBNe, Int.reduceLE, Int.reduceLT, Int.reduceGE, Int.reduceGT, Int.reduceNeg, kn, len_D, h1, h]
theorem co_end (s : Tx) (L : List Da) : exec C n none a_42 (Eco s L L.length) σ = some (.exit 0, { Eco s L L.length with slots := [(1, ⟨false, .str s⟩), (7, ⟨false, dDl L⟩), (8, ⟨false, .int .i64 L.length⟩), (15, ⟨false, .bool false⟩)] }, σ) := by
  have h1 : ¬ ((L.length : Int) < (L.length : Int)) := by omega
  simp only [a_42, Eco, sA, Nat.reduceAdd, Nat.reduceSub, Nat.reduceMul, Nat.reduceBEq, Nat.reduceLeDiff, Int.reduceBEq, Int.reduceBNe, Int.reduceLE, Int.reduceLT, Int.reduceGE, Int.reduceGT, Int.reduceNeg, kn, len_D, h1]
end
def FineL (l : List Da) : Prop := l.length ≤ 1000 ∧ ∀ d ∈ l, FineD d
theorem fine_pre3 : ∀ d ∈ pre3, FineD d := fun d hd => by
  simp only [pre3, List.mem_cons, List.not_mem_nil, or_false] at hd
  rcases hd with rfl | rfl | rfl
  · exact ⟨by simp, by simp, fun c hc => by cases hc⟩
  · exact ⟨by simp, by simp, fun c hc => by cases hc⟩
  · refine ⟨by simp, by simp, fun c hc => ?_⟩
    simp only [List.mem_cons, List.not_mem_nil, or_false] at hc
    rcases hc with rfl | rfl <;> exact ⟨by simp, fun t ht => by cases ht⟩
theorem fine_all3 {l : List Da} (h : FineL l) : (pre3 ++ l).length ≤ 2000 ∧ ∀ d ∈ pre3 ++ l, FineD d := by
  refine ⟨by have := h.1; simp [pre3]; omega, fun d hd => ?_⟩
  rcases List.mem_append.1 hd with hd | hd
  · exact fine_pre3 d hd
  · exact h.2 d hd
def SCo : Specs := [(n_103, sp_datas)]
theorem rcon_pure (l : List Da) (hl : FineL l) (s : Tx) : OkP n_101 [dPr l, .str s] ⟨false, conR (conM s (pre3 ++ l))⟩ := by
  obtain ⟨hL, hf⟩ := fine_all3 hl
  have h0 := call_datas (S := SCo) rfl l hl.1 0 σ0
  generalize pre3 ++ l = L at hL hf h0
  refine pure_fun (af := a_96) (n := 2001) (σ' := σ0) (T_sound SCo 1) rfl rfl (by simp [noPtrL, noPtr_dPr, noPtr]) (by
    cases conM s L with
    | none => rfl
    | some p => simp [conR, noPtr, noPtrL, noPtr_dDa]) ?_
  have e := conM_first s L []
  simp only [List.nil_append, List.length_nil] at e
  have h := loopN_first (body := exec (T SCo 1) 2001 none a_42) (Eco s L) σ0 L.length (fun i => (conIn s (L.getD i zDa).cons 0).isSome) (fun i => (.ret, { slots := [(5, ⟨false, .int .i64 ((conIn s (L.getD i zDa).cons 0).getD 0 : Nat)⟩), (6, ⟨false, .bool true⟩)], locs := [(4, 4, 0)], boxes := [(4, bD (L.getD i zDa))], defers := [] }, σ0)) (fun _ _ h => by cases h) (fun _ _ _ h => by cases h)
    (fun i hi hq => by
      rw [getD_eq _ _ _ hi] at hq
      have hd := hf _ (List.getElem_mem hi)
      exact co_step s L i _ hi hL hd.cons (idx_D _ _ hi) (by omega) (by simpa using hq))
    (fun i hi hq => by
      simp only [getD_eq _ _ _ hi] at hq ⊢
      have hd := hf _ (List.getElem_mem hi)
      obtain ⟨k, hk⟩ := Option.isSome_iff_exists.1 hq
      rw [hk, Option.getD_some]
      exact co_stop s L i k _ hi hL hd.cons (idx_D _ _ hi) (by omega) hk) (co_end s L) L.length 0 2001 (by omega) (by omega)
  generalize firstN (fun i => (conIn s (L.getD i zDa).cons 0).isSome) L.length 0 = f at h e
  simp only [dPr] at h0
  cases f with
  | none =>
    simp only at h e
    rw [e]
    have ez : dDa zDa = .agg [.str [], .int .i64 0, .nils, .nils, .nils] := rfl
    simp only [conR, ez]
    simp only [Eco, z5, zeroI] at h
    simp only [a_96, sA, Nat.reduceAdd, Nat.reduceSub, Nat.reduceMul, Nat.reduceBEq, Nat.reduceLeDiff, Int.reduceBEq, Int.reduceBNe, Int.reduceLE, Int.reduceLT, Int.reduceGE, Int.reduceGT, Int.reduceNeg, kn, dPr, onel, h0, h]
  | some i =>
    simp only at h e
    obtain ⟨k, e1, e2⟩ := e
    rw [e2]
    simp only [conR]
    simp only [e1, Option.getD_some] at h
    generalize L.getD i zDa = d at h
    simp only [Eco, z5, bD, zeroI] at h
    simp only [a_96, sA, Nat.reduceAdd, Nat.reduceSub, Nat.reduceMul, Nat.reduceBEq, Nat.reduceLeDiff, Int.reduceBEq, Int.reduceBNe, Int.reduceLE, Int.reduceLT, Int.reduceGE, Int.reduceGT, Int.reduceNeg, kn, dPr, onel, h0, h, dDa_eq]
end Go.Fu
namespace Go.Fu
open Go Go.Mx
set_option maxRecDepth 10000
def fl {α : Type} : List α → Bool
  | [] => false
  | _ :: _ => true
theorem fl_ne {α : Type} {l : List α} (h : l ≠ []) : fl l = true := by
  cases l with
  | nil => exact absurd rfl h
  | cons x r => rfl
theorem fl_snoc {α : Type} (l : List α) (v : α) : fl (l ++ [v]) = true := by cases l <;> rfl
section
variable {C : CallF} {n : Nat} {σ : Store}
end
end Go.Fu
namespace Go.Fu
open Go Go.Mx
set_option maxRecDepth 10000
theorem agS {α : Type} (k : Nat) (v : α) (l : List (Nat × α)) : aget ((k, v) :: l) k = some v := by simp [aget, ifB]
theorem chunks_cells {k : RowK} : ∀ ds : List D, (∀ d ∈ ds, d.cells.length = k.sz ∧ packD k d.cells = d) → chunks k ds.length ((cellsOf ds).map fun c => c.d) = ds
  | [], _ => rfl
  | d :: ds, h => by
    obtain ⟨h1, h2⟩ := h d (by simp)
    have h3 := chunks_cells ds fun x hx => h x (List.mem_cons_of_mem _ hx)
    have e1 : (d.cells.map Cell.of).map (fun c => c.d) = d.cells := by
      rw [List.map_map]
      exact List.map_id'' (fun _ => rfl) _
    simp only [List.length_cons, chunks, cellsOf, List.map_append, e1]
    rw [List.take_left' h1, List.drop_left' h1, h2, h3]
theorem elems_cells {k : RowK} {ds : List D} (h : ∀ d ∈ ds, d.cells.length = k.sz ∧ packD k d.cells = d) : elems k (cellsOf ds) 0 ds.length = ds := by
  simp only [elems, Nat.zero_mul, List.drop_zero]
  exact chunks_cells ds h
theorem freezeL_id {n : Nat} {os : Objs} : ∀ ds : List D, (∀ d ∈ ds, freezeD n d os = some (d, os)) → freezeL (freezeD n) ds os = some (ds, os)
  | [], _ => rfl
  | d :: ds, h => by
    have h1 := h d (by simp)
    have h2 := freezeL_id ds fun x hx => h x (List.mem_cons_of_mem _ hx)
    simp only [freezeL, h1, bindO, caseO_some, h2]
theorem cellsOf_len {z : Nat} : ∀ a : List D, (∀ d ∈ a, d.cells.length = z) → (cellsOf a).length = a.length * z
  | [], _ => by simp [cellsOf]
  | d :: a, h => by
    have h1 := h d (by simp)
    have h2 := cellsOf_len a fun x hx => h x (List.mem_cons_of_mem _ hx)
    simp only [cellsOf, List.length_append, List.length_map, h1, h2, List.length_cons, Nat.succ_mul, Nat.add_comm]
theorem freezeD_arr {n : Nat} {k : RowK} {id off len : Nat} {os : Objs} : freezeD (n + 1) (.arr k id off len) os = bindO (aget os id) fun cs => ifB ((k.ag || k.sz == 1) && decide ((off + len) * k.sz ≤ cs.length)) (bindO (freezeL (freezeD n) (elems k cs off len) (adel1 os id)) fun r => some (.list k r.1, r.2)) none := rfl
theorem freezeD_row {k : RowK} {id n : Nat} {ds : List D} {os os' : Objs} (ho : aget os id = some (cellsOf ds)) (hd : adel1 os id = os') (hk : (k.ag || k.sz == 1) = true) (h : ∀ d ∈ ds, d.cells.length = k.sz ∧ packD k d.cells = d) (hf : ∀ d ∈ ds, freezeD n d os' = some (d, os')) :
    freezeD (n + 1) (.arr k id 0 ds.length) os = some (.list k ds, os') := by
  have hl := cellsOf_len ds fun d hd => (h d hd).1
  have e0 : decide ((0 + ds.length) * k.sz ≤ (cellsOf ds).length) = true := by simp; omega
  simp only [freezeD_arr, ho, bindO, caseO_some, hk, e0, Bool.and_self, ifB, elems_cells h, hd, freezeL_id ds hf]
structure SA (σ : Store) (id : Nat) (l : List Da) (r : Nat) : Prop where
  a : ∃ cs, aget σ.objs id = some (cellsOf (l.map dDa) ++ cs) ∧ cs.length = r
  t : aget σ.tys id = some ⟨k_3.el, k_3.sz⟩
theorem da_len (l : List Da) : (cellsOf (l.map dDa)).length = l.length * 5 := by
  have := cellsOf_len (z := 5) (l.map dDa) fun d hd => by
    obtain ⟨x, _, rfl⟩ := List.mem_map.1 hd
    rfl
  rw [List.length_map] at this
  exact this
theorem da_all (l : List Da) : allSize k_3.sz (l.map dDa) = true := allSize_all fun d hd => by
  obtain ⟨s, _, rfl⟩ := List.mem_map.1 hd
  exact ⟨rfl, rfl⟩
theorem cells_of (l : List Da) : (cellsOf (l.map dDa)).map (fun c => Cell.of c.d) = cellsOf (l.map dDa) := by
  induction l with
  | nil => rfl
  | cons x r ih => rw [List.map_cons, cellsOf, List.map_append, ih]; rfl
theorem cellsOf_app : ∀ (a b : List D), cellsOf (a ++ b) = cellsOf a ++ cellsOf b
  | [], b => rfl
  | x :: r, b => by simp only [List.cons_append, cellsOf, cellsOf_app r b, List.append_assoc]
theorem SA.app {σ : Store} {id r : Nat} {l : List Da} (h : SA σ id l r) (m : List Da) (hl : l.length + m.length < 100000000) : ∃ σ1, appendAD σ k_3 96 (.arr k_3 id 0 l.length) (m.map dDa) = some (.arr k_3 σ.next 0 (l.length + m.length), σ1) ∧ SA σ1 σ.next (l ++ m) 0 := by
  obtain ⟨cs, h1, _⟩ := h.a
  have ek : k_3.same k_3 = true := rfl
  have e0 : decide (l.length * k_3.sz ≤ (cellsOf (l.map dDa) ++ cs).length) = true := by simp [k_143, da_len]
  have e1 : decide ((l.length + m.length) * 96 ≤ bound) = true := decide_eq_true (show (l.length + m.length) * 96 ≤ 1099511627776 by omega)
  have e2 : decide (l.length + m.length ≤ bound) = true := decide_eq_true (show l.length + m.length ≤ 1099511627776 by omega)
  have ht : ((cellsOf (l.map dDa) ++ cs).take (l.length * k_3.sz)).map (fun c => Cell.of c.d) ++ cellsOf (m.map dDa) = cellsOf ((l ++ m).map dDa) := by
    have : (cellsOf (l.map dDa) ++ cs).take (l.length * k_3.sz) = cellsOf (l.map dDa) := by
      rw [show l.length * k_3.sz = (cellsOf (l.map dDa)).length by rw [da_len]; rfl]
      exact List.take_left
    rw [this, cells_of, List.map_append, cellsOf_app]
  refine ⟨newArr { σ with objs := adel1 σ.objs id } k_3 (cellsOf ((l ++ m).map dDa)), ?_, ⟨⟨[], by simp only [newArr, List.append_nil]; exact agS _ _ _, rfl⟩, agS _ _ _⟩⟩
  simp only [appendAD, da_all, ifB_true, h1, h.t, bindO, caseO_some, ek, beq_self_eq_true, List.length_map, e0, e1, e2, Bool.and_self, ht]
def z5D : List D := [.str [], .int .i64 0, .nils, .nils, .nils]
theorem rowOf_len : ∀ n : Nat, (rowOf z5D n).length = n * 5
  | 0 => rfl
  | n + 1 => by simp only [rowOf, z5D, List.map_cons, List.map_nil, List.cons_append, List.nil_append, List.length_cons]; rw [show ([D.str [], D.int .i64 0, .nils, .nils, .nils] : List D) = z5D from rfl, rowOf_len n]; omega
theorem grow_run (S : Specs) (hS : has S n_137 = false) (n k : Nat) (σ : Store) (h0 : 0 < k) (hk : k < 1000000) : T S (n + 1) n_137 [.nils, .int .i64 k] σ = some (.ret ⟨false, .arr k_3 σ.next 0 0⟩, newArr σ k_3 (rowOf z5D k)) := by
  rw [T_fun (af := a_124) hS rfl rfl]
  have g1 : ¬ ((k : Int) < 0) := by omega
  have w1 : IntKind.i64.wrap (0 - 0) = 0 := rfl
  have w2 : IntKind.i64.wrap ((k : Int) - 0) = k := by rw [wrap64 (by omega) (by omega)]; omega
  have b1 : (0 < k) := h0
  have b2 : k * 96 ≤ bound := show k * 96 ≤ 1099511627776 by omega
  have b3 : k ≤ bound := show k ≤ 1099511627776 by omega
  have g2 : ((k : Int) > 0) := by omega
  have hs : sliceD 5 D.nils 0 (some 0) = some .nils := rfl
  have hs2 : sliceD 5 (.arr k_3 σ.next 0 k) 0 (some 0) = some (.arr k_3 σ.next 0 0) := by
    simp only [sliceD_arr, Option.getD_some, k_143]
    simp [ifB]
  simp only [z5D]
  generalize hq : (k : Int) = q at *
  have hq2 : q = .ofNat k := by rw [← hq]; rfl
  simp only [a_124, sA, Nat.reduceAdd, Nat.reduceSub, Nat.reduceMul, Nat.reduceBEq, Nat.reduceLeDiff, Int.reduceBEq, Int.reduceBNe, Int.reduceLE, Int.reduceLT, Int.reduceGE, Int.reduceGT, Int.reduceNeg, kn, g1, w1, w2, g2, zeroI, hs]
  subst hq2
  simp only [sA, Nat.reduceAdd, Nat.reduceSub, Nat.reduceMul, Nat.reduceBEq, Nat.reduceLeDiff, Int.reduceBEq, Int.reduceBNe, Int.reduceLE, Int.reduceLT, Int.reduceGE, Int.reduceGT, Int.reduceNeg, kn, b2, b3, b1, hs2, zeroI]
end Go.Fu
namespace Go.Fu
open Go Go.Mx
set_option maxRecDepth 10000
set_option maxHeartbeats 4000000
def dd (a b : List Da) : D := .list k_60 [dDl a, dDl b]
theorem len_Dl (l : List Da) : lenOf (dDl l) = some l.length := len_map dDa l
theorem listOf_dDl {os : Objs} (l : List Da) : listOf os (dDl l) = some (l.map dDa) := by rw [dDl, listOf_dlist]
theorem frz_dl {n : Nat} {k : RowK} {os : Objs} (l : List D) : freezeD (n + 1) (dlist k l) os = some (dlist k l, os) := by
  cases l <;> rfl
theorem exec_frz {C : CallF} {n : Nat} {ro : Option Nat} {ts : List FTgt} {b : ACode} {e : Env} {σ : Store} : exec C n ro (.frz ts b) e σ = bindO (freezes ts e σ) fun x => exec C n ro b x.1 x.2 := rfl
theorem frz_dDa {n : Nat} (x : Da) (os : Objs) : freezeD (n + 2) (dDa x) os = some (dDa x, os) := by
  have h1 := frz_dl (n := n) (k := k_2) (os := os) (x.vars.map D.str)
  have h2 := frz_dl (n := n) (k := k_11) (os := os) (List.replicate x.vars.length dKi)
  have h3 := frz_dl (n := n) (k := k_22) (os := os) (x.cons.map dCn)
  have e1 : freezeD (n + 1) (.str x.name) os = some (.str x.name, os) := rfl
  have e2 : freezeD (n + 1) (.int .i64 x.pos) os = some (.int .i64 x.pos, os) := rfl
  have e : ∀ ds, freezeD (n + 2) (.agg ds) os = bindO (freezeL (freezeD (n + 1)) ds os) fun r => some (.agg r.1, r.2) := fun _ => rfl
  simp only [dDa, cDa, e, freezeL, dSs, dKl, dCl, h1, h2, h3, e1, e2, bindO, caseO_some]
section
variable {C : CallF} {n : Nat} {σ : Store}
def Ecc0 (a b : List Da) (acc i : Nat) : Env := { slots := [(0, ⟨false, dd a b⟩), (3, ⟨false, .int .i64 acc⟩), (9, ⟨false, dd a b⟩), (10, ⟨false, .int .i64 2⟩), (11, ⟨false, .int .i64 i⟩)], locs := [], boxes := [], defers := [] }
def Ecc1 (a b : List Da) (d : D) (i : Nat) : Env := { slots := [(6, ⟨false, d⟩), (25, ⟨false, dd a b⟩), (26, ⟨false, .int .i64 2⟩), (27, ⟨false, .int .i64 i⟩)], locs := [], boxes := [], defers := [] }
theorem cc0_step (a b x : List Da) (acc i : Nat) (hi : i < 2) (hx : indexD 1 (dd a b) i = some (.eptr (dDl x))) (hl : acc + x.length < 1000000000) : exec C n none a_76 (Ecc0 a b acc i) σ = some (.normal, Ecc0 a b (acc + x.length) (i + 1), σ) := by
  have hlt : ((i : Int) < 2) := by omega
  have w := wrap64_succ (i := i) (by omega)
  have w2 : IntKind.i64.wrap ((acc : Int) + x.length) = ((acc + x.length : Nat) : Int) := by rw [wrap64 (by omega) (by omega)]; omega
  have g : ¬ (((acc + x.length : Nat) : Int) < 0) := by omega
  have h1 := one_dDl x
  have h2 := len_Dl x
  simp only [a_76, Ecc0, sA, Nat.reduceAdd, Nat.reduceSub, Nat.reduceMul, Nat.reduceBEq, Nat.reduceLeDiff, Int.reduceBEq, Int.reduceBNe, Int.reduceLE, Int.reduceLT, Int.reduceGE, Int.reduceGT, Int.reduceNeg, kn, hlt, natI, hx, h1, h2, w, w2, g]
theorem cc0_end (a b : List Da) (acc : Nat) : exec C n none a_76 (Ecc0 a b acc 2) σ = some (.exit 0, { slots := [(0, ⟨false, dd a b⟩), (3, ⟨false, .int .i64 acc⟩), (9, ⟨false, dd a b⟩), (10, ⟨false, .int .i64 2⟩), (11, ⟨false, .int .i64 2⟩), (12, ⟨false, .bool false⟩)], locs := [], boxes := [], defers := [] }, σ) := by
  have hlt : ¬ (((2 : Nat) : Int) < 2) := by omega
  simp only [a_76, Ecc0, sA, Nat.reduceAdd, Nat.reduceSub, Nat.reduceMul, Nat.reduceBEq, Nat.reduceLeDiff, Int.reduceBEq, Int.reduceBNe, Int.reduceLE, Int.reduceLT, Int.reduceGE, Int.reduceGT, Int.reduceNeg, kn, hlt]
  rfl
theorem cc1_step (a b x : List Da) (d d' : D) (σ' : Store) (i : Nat) (hi : i < 2) (hx : indexD 1 (dd a b) i = some (.eptr (dDl x))) (ha : appendAD σ k_3 96 d (x.map dDa) = some (d', σ')) : exec C n none a_77 (Ecc1 a b d i) σ = some (.normal, Ecc1 a b d' (i + 1), σ') := by
  have hlt : ((i : Int) < 2) := by omega
  have w := wrap64_succ (i := i) (by omega)
  have h1 := one_dDl x
  have hli : listOf σ.objs (dDl x) = some (x.map dDa) := listOf_dDl x
  generalize x.map dDa = xs at *
  simp only [a_77, Ecc1, sA, Nat.reduceAdd, Nat.reduceSub, Nat.reduceMul, Nat.reduceBEq, Nat.reduceLeDiff, Int.reduceBEq, Int.reduceBNe, Int.reduceLE, Int.reduceLT, Int.reduceGE, Int.reduceGT, Int.reduceNeg, kn, memE, memOp, hlt, natI, hx, h1, hli, ha, w]
theorem cc1_end (a b : List Da) (d : D) : exec C n none a_77 (Ecc1 a b d 2) σ = some (.exit 2, { slots := [(6, ⟨false, d⟩), (25, ⟨false, dd a b⟩), (26, ⟨false, .int .i64 2⟩), (27, ⟨false, .int .i64 2⟩), (28, ⟨false, .bool false⟩)], locs := [], boxes := [], defers := [] }, σ) := by
  have hlt : ¬ (((2 : Nat) : Int) < 2) := by omega
  simp only [a_77, Ecc1, sA, Nat.reduceAdd, Nat.reduceSub, Nat.reduceMul, Nat.reduceBEq, Nat.reduceLeDiff, Int.reduceBEq, Int.reduceBNe, Int.reduceLE, Int.reduceLT, Int.reduceGE, Int.reduceGT, Int.reduceNeg, kn, hlt]
  rfl
end
theorem call_concat (n0 : Nat) {S : Specs} (hS : has S n_137 = false) (a b : List Da) (h0 : a ≠ []) (hl : a.length + b.length < 1000000) : OkP n_53 [dd a b] ⟨false, dDl (a ++ b)⟩ := by
  have hpos : 0 < a.length := List.length_pos_iff.2 h0
  have x0 : indexD 1 (dd a b) 0 = some (.eptr (dDl a)) := rfl
  have x1 : indexD 1 (dd a b) 1 = some (.eptr (dDl b)) := rfl
  have hlen : lenOf (dd a b) = some 2 := rfl
  have l0 : loopN (exec (T S 1) 3 none a_76) 3 (Ecc0 a b 0 0) σ0 = _ := (loopN_succ (cc0_step a b a 0 0 (by omega) x0 (by omega))).trans ((loopN_succ (cc0_step a b b _ 1 (by omega) x1 (by omega))).trans (loopN_stop (cc0_end a b _)))
  have hg := grow_run S hS 0 (0 + a.length + b.length) σ0 (by omega) (by omega)
  have hn2 : noPtrL [dd a b] = true := by simp [noPtrL, noPtr, dd, noPtr_dDl]
  have z2 : (((2 : Nat) : Int)) = 2 := rfl
  obtain ⟨σ1, e1⟩ : ∃ σ1, σ1 = newArr σ0 k_3 (rowOf z5D (0 + a.length + b.length)) := ⟨_, rfl⟩
  have s0 : SA σ1 0 [] ((0 + a.length + b.length) * 5) := ⟨⟨_, by rw [e1]; exact agS _ _ _, rowOf_len _⟩, by rw [e1]; exact agS _ _ _⟩
  obtain ⟨σ2, g2, s2⟩ := s0.app a (by simp; omega)
  obtain ⟨σ3, g3, s3⟩ := s2.app b (by simp; omega)
  simp only [List.length_nil, Nat.zero_add, List.nil_append] at g2 g3 s3 s2
  rw [← e1] at hg
  have l1 : loopN (exec (T S 1) 3 none a_77) 3 (Ecc1 a b (.arr k_3 0 0 0) 0) σ1 = _ := (loopN_succ (cc1_step a b a _ _ σ2 0 (by omega) x0 g2)).trans ((loopN_succ (cc1_step a b b _ _ σ3 1 (by omega) x1 g3)).trans (loopN_stop (cc1_end a b _)))
  obtain ⟨cs, h3, hc⟩ := s3.a
  have hcs : cs = [] := List.length_eq_zero_iff.1 hc
  subst hcs
  rw [List.append_nil] at h3
  have hfz := freezeD_row (k := k_3) (id := σ2.next) (n := 39) (ds := (a ++ b).map dDa) (os := σ3.objs) (os' := adel1 σ3.objs σ2.next) h3 rfl rfl (fun d hd => by
    obtain ⟨x, _, rfl⟩ := List.mem_map.1 hd
    exact ⟨rfl, rfl⟩) (fun d hd => by
    obtain ⟨x, _, rfl⟩ := List.mem_map.1 hd
    exact frz_dDa x _)
  rw [List.length_map, List.length_append] at hfz
  have hds : dDl (a ++ b) = .list k_3 ((a ++ b).map dDa) := by
    cases a with
    | nil => exact absurd rfl h0
    | cons x r => rfl
  refine pure_fun (af := a_123) (n := 3) (σ' := Store.trunc { σ3 with objs := adel1 σ3.objs σ2.next } 0) (T_sound S 1) rfl rfl hn2 (noPtr_dDl _) ?_
  rw [hds]
  simp only [Nat.zero_add] at l0 hg
  simp only [Ecc0, zeroI] at l0
  simp only [Ecc1, zeroI] at l1
  have hn0 : σ0.next = 0 := rfl
  rw [hn0] at hg
  generalize (a ++ b).map dDa = ab at *
  have hkp : Cell.keeps ⟨false, .arr k_3 σ2.next 0 (a.length + b.length)⟩ = false := rfl
  simp only [a_123, sA, Nat.reduceAdd, Nat.reduceSub, Nat.reduceMul, Nat.reduceBEq, Nat.reduceLeDiff, Int.reduceBEq, Int.reduceBNe, Int.reduceLE, Int.reduceLT, Int.reduceGE, Int.reduceGT, Int.reduceNeg, kn, hlen, z2, l0, zeroI, hg, l1, exec_frz, freezes, freeze1, hfz, hkp]
end Go.Fu
namespace Go.Fu
open Go Go.Mx
set_option maxRecDepth 10000
set_option maxHeartbeats 4000000
theorem star_pure : OkP n_99 [] ⟨false, dKi⟩ := by
  refine pure_fun (af := a_111) (n := 3) (σ' := σ0) (T_sound [] 1) rfl rfl rfl rfl ?_
  simp only [a_111, sA, Nat.reduceAdd, Nat.reduceSub, Nat.reduceMul, Nat.reduceBEq, Nat.reduceLeDiff, Int.reduceBEq, Int.reduceBNe, Int.reduceLE, Int.reduceLT, Int.reduceGE, Int.reduceGT, Int.reduceNeg, kn, onel]
  rfl
def sp_star : List D → Cell → Prop := fun _ c => c = ⟨false, dKi⟩
def SP1 : Specs := [(n_99, sp_star)]
theorem call_star {S : Specs} (hS : aget S n_99 = some sp_star) (n : Nat) (σ : Store) : T S (n + 1) n_99 [] σ = some (.ret ⟨false, dKi⟩, σ) := by
  obtain ⟨c, g1, g2⟩ := T_orc (S := S) hS rfl (s := sp_star) rfl star_pure
  rw [g2, g1]
theorem prelude_pure : OkP n_47 [] ⟨false, dDl pre3⟩ := by
  have h := call_star (S := SP1) rfl 0 σ0
  refine OkP.weak (o := true) rfl ?_
  refine pure_fun (af := a_110) (n := 3) (σ' := σ0) (T_sound SP1 1) rfl rfl rfl (noPtr_dDl pre3) ?_
  rw [dKi] at h
  simp only [a_110, sA, Nat.reduceAdd, Nat.reduceSub, Nat.reduceMul, Nat.reduceBEq, Nat.reduceLeDiff, Int.reduceBEq, Int.reduceBNe, Int.reduceLE, Int.reduceLT, Int.reduceGE, Int.reduceGT, Int.reduceNeg, kn, onel, h, pre3_D]
section
variable {C : CallF} {n : Nat} {σ : Store}
end
end Go.Fu
namespace Go.Fu
open Go Go.Mx
set_option maxRecDepth 10000
set_option maxHeartbeats 4000000
theorem agA {α : Type} (k : Nat) (v : α) : ∀ l : List (Nat × α), aget (aset l k v) k = some v
  | [] => by simp [aset, aget, ifB]
  | (a, x) :: r => by
    rw [aset]
    cases h : a == k with
    | true => simp [aget, ifB, h]
    | false =>
      cases h2 : Nat.ble k a with
      | true => simp [aget, ifB]
      | false => simp only [ifB_false, aget, h, agA k v r]
theorem agB {α : Type} (k j : Nat) (v : α) (hj : (k == j) = false) : ∀ l : List (Nat × α), aget (aset l k v) j = aget l j
  | [] => by simp [aset, aget, ifB, hj]
  | (a, x) :: r => by
    rw [aset]
    cases h : a == k with
    | true =>
      have : a = k := by simpa using h
      subst this
      simp [aget, ifB, hj]
    | false =>
      cases h2 : Nat.ble k a with
      | true => simp [aget, ifB, hj]
      | false => simp only [ifB_false, aget, agB k j v hj r]
theorem aset_aset {α : Type} (k : Nat) (v w : α) : ∀ l : List (Nat × α), aset (aset l k v) k w = aset l k w
  | [] => by simp [aset, ifB]
  | (i, x) :: l => by
    simp only [aset]
    cases h : i == k with
    | true => simp [aset, ifB, h]
    | false =>
      cases h2 : Nat.ble k i with
      | true => simp [aset, ifB]
      | false => simp [aset, ifB, h, h2, aset_aset k v w l]
def SM (σ : Store) (id : Nat) (x : Oth) : Store := { σ with oth := aset σ.oth id x }
def GM (σ : Store) (x : Oth) : Store := { σ with oth := (σ.next, x) :: σ.oth, next := σ.next + 1 }
theorem mUpd {ks : Bool} {x i y : AOpd} {e : Env} {σ : Store} : memOp (.update ks x i y) e σ = bindO (opd e x) fun c => bindO (opd e i) fun k => bindO (opd e y) fun v => bindO (mapAt σ.oth c.d) fun m => ifB (keyD ks k.d && v.d.ok) (bindO (findM k.d m.2.1) fun r =>
      some (.undef, SM σ m.1 (caseO r (.map (m.2.1 ++ [(k.d, v.d, m.2.2)]) (m.2.2 + 1)) fun p => .map (m.2.1.set p.2.2 (k.d, v.d, p.2.1)) m.2.2))) none := rfl
theorem mMake {e : Env} {σ : Store} : memOp .makeMap e σ = some (.map σ.next, GM σ (.map [] 0)) := rfl
theorem SM_self {σ : Store} {id : Nat} {x : Oth} : aget (SM σ id x).oth id = some x := agA _ _ _
theorem SM_SM {σ : Store} {id : Nat} {x y : Oth} : SM (SM σ id x) id y = SM σ id y := by
  simp only [SM, aset_aset]
structure PN (σ : Store) (p m : Nat) (L : List Da) (es : List (Tx × Nat × Nat)) : Prop where
  obj : aget σ.objs p = some [⟨false, dDl L⟩, ⟨false, .map m⟩]
  map : aget σ.oth m = some (.map (esOf es 0) es.length)
  lt : p < σ.next
def SF (σ : Store) (m : Nat) (es : List (Tx × Nat × Nat)) : Store := SM σ m (.map (esOf es 0) es.length)
theorem SF_objs {σ : Store} {m : Nat} {es : List (Tx × Nat × Nat)} : (SF σ m es).objs = σ.objs := rfl
theorem SF_self {σ : Store} {m : Nat} {es : List (Tx × Nat × Nat)} : aget (SF σ m es).oth m = some (.map (esOf es 0) es.length) := SM_self
theorem SF_snoc {σ : Store} {m : Nat} {es : List (Tx × Nat × Nat)} {x : Tx × Nat × Nat} : SM (SF σ m es) m (.map (esOf es 0 ++ [entM x es.length]) (es.length + 1)) = SF σ m (es ++ [x]) := by
  rw [SF, SM_SM, SF, esOf_snoc, List.length_append, Nat.zero_add]
  rfl
theorem conAt_snoc (i : Nat) : ∀ (l : List Cn) (c : Cn) (k : Nat), conAt i (l ++ [c]) k = conAt i l k ++ [(c.name, i, k + l.length)]
  | [], c, k => rfl
  | x :: r, c, k => by
    simp only [List.cons_append, conAt, conAt_snoc i r c (k + 1), List.length_cons]
    rw [show k + 1 + r.length = k + (r.length + 1) by omega]
theorem conAt_app (i : Nat) : ∀ (a b : List Cn) (k : Nat), conAt i (a ++ b) k = conAt i a k ++ conAt i b (k + a.length)
  | [], b, k => rfl
  | x :: r, b, k => by
    simp only [List.cons_append, conAt, conAt_app i r b (k + 1), List.length_cons]
    rw [show k + 1 + r.length = k + (r.length + 1) by omega]
theorem conAts_app : ∀ (a b : List Da) (i : Nat), conAts (a ++ b) i = conAts a i ++ conAts b (i + a.length)
  | [], b, i => by simp [conAts]
  | x :: r, b, i => by
    simp only [List.cons_append, conAts, conAts_app r b (i + 1), List.length_cons, List.append_assoc]
    rw [show i + 1 + r.length = i + (r.length + 1) by omega]
theorem conAts_snoc (l : List Da) (d : Da) (i : Nat) : conAts (l ++ [d]) i = conAts l i ++ conAt (i + l.length) d.cons 0 := by
  rw [conAts_app]
  simp [conAts]
theorem once_ne {a b : List (Tx × Nat × Nat)} {x : Tx × Nat × Nat} (h : ((a ++ x :: b).map fun x => x.1).Nodup) : ∀ y ∈ a, y.1 ≠ x.1 := by
  intro y hy e
  rw [List.map_append, List.nodup_append] at h
  exact h.2.2 y.1 (List.mem_map_of_mem hy) x.1 (by simp) e
section
variable {C : CallF} {n : Nat} {σ : Store}
def En0 (L : List Da) (p i : Nat) (d : Da) (k : Nat) : Env := { slots := [(3, ⟨false, .ptr p 0⟩), (4, ⟨false, .int .i64 i⟩), (14, ⟨false, .ptr p 0⟩), (19, ⟨false, .int .i64 L.length⟩), (20, ⟨false, .int .i64 i⟩), (30, ⟨false, dCl d.cons⟩), (31, ⟨false, .int .i64 d.cons.length⟩), (32, ⟨false, .int .i64 k⟩)], locs := [], boxes := [], defers := [] }
theorem n0_step (L : List Da) (p m i : Nat) (d : Da) (es : List (Tx × Nat × Nat)) (ho : aget σ.objs p = some [⟨false, dDl L⟩, ⟨false, .map m⟩]) (k : Nat) (hk : k < d.cons.length) (hl : d.cons.length ≤ 1000) (hn : ∀ x ∈ es, x.1 ≠ (d.cons[k]).name) : exec C n none a_67 (En0 L p i d k) (SF σ m es) = some (.normal, En0 L p i d (k + 1), SF σ m (es ++ [((d.cons[k]).name, i, k)])) := by
  have hx := idx_C d.cons k hk
  have hlt : ((k : Int) < d.cons.length) := by omega
  have w := wrap64_succ (i := k) (by omega)
  rw [← SF_objs (m := m) (es := es)] at ho
  have hm := SF_self (σ := σ) (m := m) (es := es)
  have hf := findM_none _ es 0 hn
  rw [← SF_snoc]
  generalize d.cons[k] = c at *
  generalize SF σ m es = τ at *
  have dx : dCn c = .agg [.str c.name, .int .i64 c.pos, dTl c.fs] := rfl
  rw [dx] at hx
  have hma : mapAt τ.oth (.map m) = some (m, esOf es 0, es.length) := by simp only [mapAt, hm, bindO, caseO_some]
  have hkd : keyD true (.str c.name) = true := rfl
  simp only [a_67, En0, sA, Nat.reduceAdd, Nat.reduceSub, Nat.reduceMul, Nat.reduceBEq, Nat.reduceLeDiff, Int.reduceBEq, Int.reduceBNe, Int.reduceLE, Int.reduceLT, Int.reduceGE, Int.reduceGT, Int.reduceNeg, kn, onel, hx, hlt, w, memE, mUpd, ho, hma, hf, hkd, entM]
theorem n0_end (L : List Da) (p i : Nat) (d : Da) : exec C n none a_67 (En0 L p i d d.cons.length) σ = some (.exit 2, { slots := [(3, ⟨false, .ptr p 0⟩), (4, ⟨false, .int .i64 i⟩), (14, ⟨false, .ptr p 0⟩), (19, ⟨false, .int .i64 L.length⟩), (20, ⟨false, .int .i64 i⟩), (30, ⟨false, dCl d.cons⟩), (31, ⟨false, .int .i64 d.cons.length⟩), (32, ⟨false, .int .i64 d.cons.length⟩), (33, ⟨false, .bool false⟩)], locs := [], boxes := [], defers := [] }, σ) := by
  have hlt : ¬ ((d.cons.length : Int) < d.cons.length) := by omega
  simp only [a_67, En0, sA, Nat.reduceAdd, Nat.reduceSub, Nat.reduceMul, Nat.reduceBEq, Nat.reduceLeDiff, Int.reduceBEq, Int.reduceBNe, Int.reduceLE, Int.reduceLT, Int.reduceGE, Int.reduceGT, Int.reduceNeg, kn, onel, hlt]
def En1 (L : List Da) (p i : Nat) : Env := { slots := [(3, ⟨false, .ptr p 0⟩), (14, ⟨false, .ptr p 0⟩), (19, ⟨false, .int .i64 L.length⟩), (20, ⟨false, .int .i64 i⟩)], locs := [], boxes := [], defers := [] }
theorem n1_step (L : List Da) (p m i : Nat) (ho : aget σ.objs p = some [⟨false, dDl L⟩, ⟨false, .map m⟩]) (hi : i < L.length) (hL : L.length ≤ 1000) (hl : L[i].cons.length ≤ 1000) (hn : 2000 ≤ n) (h1 : ((conAts L 0).map fun x => x.1).Nodup) : exec C n none a_68 (En1 L p i) (SF σ m (conAts (L.take i) 0)) = some (.normal, En1 L p (i + 1), SF σ m (conAts (L.take (i + 1)) 0)) := by
  have hx := idx_D L i hi
  have hlt : ((i : Int) < L.length) := by omega
  have w := wrap64_succ (i := i) (by omega)
  have hs : conAts (L.take (i + 1)) 0 = conAts (L.take i) 0 ++ conAt i L[i].cons 0 := by
    rw [← take_snoc L i hi, conAts_snoc, List.length_take, Nat.min_eq_left (by omega), Nat.zero_add]
  have h2 : ((conAts (L.take (i + 1)) 0).map fun x => x.1).Nodup := by
    have e : conAts L 0 = conAts (L.take (i + 1)) 0 ++ conAts (L.drop (i + 1)) (0 + (L.take (i + 1)).length) := by rw [← conAts_app, List.take_append_drop]
    rw [e, List.map_append] at h1
    exact (List.nodup_append.1 h1).1
  rw [hs] at h2
  generalize conAts (L.take i) 0 = es at *
  rw [hs]
  generalize L[i] = d at *
  have hr := loopN_run (body := exec C n none a_67) (En0 L p i d) (fun k => SF σ m (es ++ conAt i (d.cons.take k) 0)) d.cons.length (r := _) (fun _ _ h => by cases h) (fun k hk => by
    have es2 : conAt i (d.cons.take (k + 1)) 0 = conAt i (d.cons.take k) 0 ++ [(d.cons[k].name, i, k)] := by
      rw [← take_snoc d.cons k hk, conAt_snoc, List.length_take, Nat.min_eq_left (by omega), Nat.zero_add]
    show _ = some (AExit.normal, _, SF σ m (es ++ conAt i (d.cons.take (k + 1)) 0))
    rw [es2, ← List.append_assoc]
    refine n0_step L p m i d _ ho k hk hl ?_
    have e : conAt i d.cons 0 = (conAt i (d.cons.take k) 0 ++ [(d.cons[k].name, i, k)]) ++ conAt i (d.cons.drop (k + 1)) (0 + (d.cons.take (k + 1)).length) := by rw [← es2, ← conAt_app, List.take_append_drop]
    rw [e, List.append_assoc, ← List.append_assoc, List.singleton_append] at h2
    exact once_ne h2) (n0_end L p i d) 0 n (by omega) (by omega)
  have dd0 : Mx.nth (cDa d) 4 = some (dCl d.cons) := rfl
  have dx : dDa d = .agg (cDa d) := rfl
  have hlen := len_C d.cons
  have l5 : ((cDa d).length == 5) = true := rfl
  rw [dx] at hx
  simp only [List.take_zero, conAt, List.append_nil, List.take_length] at hr
  rw [← SF_objs (m := m) (es := es)] at ho
  generalize SF σ m es = τ at *
  generalize SF σ m (es ++ conAt i d.cons 0) = τ' at *
  simp only [En0, zeroI] at hr
  simp only [a_68, En1, sA, Nat.reduceAdd, Nat.reduceSub, Nat.reduceMul, Nat.reduceBEq, Nat.reduceLeDiff, Int.reduceBEq, Int.reduceBNe, Int.reduceLE, Int.reduceLT, Int.reduceGE, Int.reduceGT, Int.reduceNeg, kn, onel, hx, hlt, natI, hlen, ho, dd0, l5, hr, w]
theorem n1_end (L : List Da) (p : Nat) : exec C n none a_68 (En1 L p L.length) σ = some (.exit 0, { slots := [(3, ⟨false, .ptr p 0⟩), (14, ⟨false, .ptr p 0⟩), (19, ⟨false, .int .i64 L.length⟩), (20, ⟨false, .int .i64 L.length⟩), (21, ⟨false, .bool false⟩)], locs := [], boxes := [], defers := [] }, σ) := by
  have hlt : ¬ ((L.length : Int) < L.length) := by omega
  simp only [a_68, En1, sA, Nat.reduceAdd, Nat.reduceSub, Nat.reduceMul, Nat.reduceBEq, Nat.reduceLeDiff, Int.reduceBEq, Int.reduceBNe, Int.reduceLE, Int.reduceLT, Int.reduceGE, Int.reduceGT, Int.reduceNeg, kn, onel, hlt]
end
end Go.Fu
namespace Go.Fu
open Go Go.Mx
set_option maxRecDepth 10000
set_option maxHeartbeats 4000000
def sp_prelude : List D → Cell → Prop := fun _ c => c = ⟨false, dDl pre3⟩
def sp_cat : List D → Cell → Prop := fun ds c => ∀ a b : List Da, ds = [dd a b] → c = ⟨false, dDl (a ++ b)⟩
theorem dd_inj {a b a' b' : List Da} (h : dd a b = dd a' b') : a = a' ∧ b = b' := by
  simp only [dd, D.list.injEq, List.cons.injEq, true_and, and_true] at h
  exact ⟨dDl_inj h.1, dDl_inj h.2⟩
theorem call_prelude {S : Specs} (hS : aget S n_47 = some sp_prelude) (n : Nat) (σ : Store) : T S (n + 1) n_47 [] σ = some (.ret ⟨false, dDl pre3⟩, σ) := by
  obtain ⟨c, g1, g2⟩ := T_orc (S := S) hS rfl (s := sp_prelude) rfl prelude_pure
  rw [g2, g1]
theorem call_cat {S : Specs} (hS : aget S n_53 = some sp_cat) (a b : List Da) (h0 : a ≠ []) (hl : a.length + b.length < 1000000) (n : Nat) (σ : Store) : T S (n + 1) n_53 [dd a b] σ = some (.ret ⟨false, dDl (a ++ b)⟩, σ) := by
  obtain ⟨c, g1, g2⟩ := T_orc (S := S) hS rfl (s := sp_cat) (c := ⟨false, dDl (a ++ b)⟩) (fun a' b' e => by
    obtain ⟨rfl, rfl⟩ := dd_inj (List.cons.inj e).1
    rfl) (call_concat 0 (S := []) rfl a b h0 hl)
  rw [g2, g1 a b rfl]
theorem pureC_prelude {S : Specs} (hS : aget S n_47 = some sp_prelude) (n : Nat) : pureC (T S (n + 1)) n_47 [] = some (.c ⟨false, dDl pre3⟩) := by
  have := call_prelude hS n { objs := [], tys := [], oth := [], next := 0 }
  have h2 := noPtr_dDl pre3
  simp only [pureC, noPtrL, ifB_true, this, bindO, caseO_some, h2]
theorem pureC_cat {S : Specs} (hS : aget S n_53 = some sp_cat) (a b : List Da) (h0 : a ≠ []) (hl : a.length + b.length < 1000000) (n : Nat) : pureC (T S (n + 1)) n_53 [dd a b] = some (.c ⟨false, dDl (a ++ b)⟩) := by
  have := call_cat hS a b h0 hl n { objs := [], tys := [], oth := [], next := 0 }
  have h2 := noPtr_dDl (a ++ b)
  have hn2 : noPtrL [dd a b] = true := by simp [noPtrL, noPtr, dd, noPtr_dDl]
  simp only [pureC, hn2, ifB_true, this, bindO, caseO_some, h2]
def GO (τ : Store) (cs : List Cell) : Store := { τ with objs := (τ.next, cs.map fun c => Cell.of c.d) :: τ.objs, tys := adel1 τ.tys τ.next, next := τ.next + 1 }
theorem prom {τ : Store} {cs : List Cell} : freezes [.promote 14] { slots := [], locs := [(3, 14, 0), (14, 14, 0)], boxes := [(14, cs)], defers := [] } τ = some ({ slots := [(3, ⟨false, .ptr τ.next 0⟩), (14, ⟨false, .ptr τ.next 0⟩)], locs := [], boxes := [], defers := [] }, GO τ cs) := rfl
end Go.Fu
