/-
  The document's constructors, data types: found by their names.
-/
import Derived.Test.YtmhedpkbfaginaaGreatDoorFlH
set_option maxHeartbeats 4000000
set_option linter.unusedSimpArgs false
set_option linter.unusedVariables false
set_option linter.unusedSectionVars false
namespace Go.Fu
open Go Go.Mx
set_option maxRecDepth 10000
def z5 : List Cell := [⟨false, .str []⟩, ⟨false, .int .i64 0⟩, ⟨false, .nils⟩, ⟨false, .nils⟩, ⟨false, .nils⟩]
section
variable {C : CallF} {n : Nat} {σ : Store}
def Ecn (s : Tx) (L : List Da) (i j : Nat) : Env := { slots := [(1, ⟨false, .str s⟩), (7, ⟨false, dDl L⟩), (8, ⟨false, .int .i64 i⟩), (9, ⟨false, .int .i64 j⟩)], locs := [(4, 4, 0)], boxes := [(4, z5)], defers := [] }
theorem cn_step (s : Tx) (L : List Da) (i j : Nat) (d : Da) (c : Cn) (hj : j < d.cons.length) (hl : d.cons.length ≤ 1000) (hx : indexD 5 (dDl L) i = some (.eptr (dDa d))) (hy : indexD 3 (dCl d.cons) j = some (.eptr (dCn c))) (hq : (c.name == s) = false) :
    exec C n none a_12 (Ecn s L i j) σ = some (.normal, Ecn s L i (j + 1), σ) := by
  have h1 : ((j : Int) < (d.cons.length : Int)) := by omega
  simp only [dDa_eq] at hx
  simp only [dCn_eq] at hy
  simp only [a_12, Ecn, z5, sA, Nat.reduceAdd, Nat.reduceSub, Nat.reduceMul, Nat.reduceBEq, Nat.reduceLeDiff, Int.reduceBEq, Int.reduceBNe, Int.reduceLE, Int.reduceLT, Int.reduceGE, Int.reduceGT, Int.reduceNeg, kn, len_C, h1, natI, hx, hy, onel, hq, wrap64_succ (i := j) (by omega)]
theorem cn_stop (s : Tx) (L : List Da) (i j : Nat) (d : Da) (c : Cn) (hj : j < d.cons.length) (hl : d.cons.length ≤ 1000) (hx : indexD 5 (dDl L) i = some (.eptr (dDa d))) (hy : indexD 3 (dCl d.cons) j = some (.eptr (dCn c))) (hq : (c.name == s) = true) :
    exec C n none a_12 (Ecn s L i j) σ = some (.ret, { slots := [(5, ⟨false, .int .i64 j⟩), (6, ⟨false, .bool true⟩)], locs := [(4, 4, 0)], boxes := [(4, bD d)], defers := [] }, σ) := by
  have h1 : ((j : Int) < (d.cons.length : Int)) := by omega
  simp only [dDa_eq] at hx
  simp only [dCn_eq] at hy
  simp only [a_12, Ecn, z5, bD, sA, Nat.reduceAdd, Nat.reduceSub, Nat.reduceMul, Nat.reduceBEq, Nat.reduceLeDiff, Int.reduceBEq, Int.reduceBNe, Int.reduceLE, Int.reduceLT, Int.reduceGE, Int.reduceGT, Int.reduceNeg, kn, len_C, h1, natI, hx, hy, onel, hq]
theorem cn_end (s : Tx) (L : List Da) (i : Nat) (d : Da) (hx : indexD 5 (dDl L) i = some (.eptr (dDa d))) :
    exec C n none a_12 (Ecn s L i d.cons.length) σ = some (.exit 2, { Ecn s L i d.cons.length with slots := [(1, ⟨false, .str s⟩), (7, ⟨false, dDl L⟩), (8, ⟨false, .int .i64 i⟩), (9, ⟨false, .int .i64 d.cons.length⟩), (25, ⟨false, .bool false⟩)] }, σ) := by
  have h1 : ¬ ((d.cons.length : Int) < (d.cons.length : Int)) := by omega
  simp only [dDa_eq] at hx
  simp only [a_12, Ecn, z5, sA, Nat.reduceAdd, Nat.reduceSub, Nat.reduceMul, Nat.reduceBEq, Nat.reduceLeDiff, Int.reduceBEq, Int.reduceBNe, Int.reduceLE, Int.reduceLT, Int.reduceGE, Int.reduceGT, Int.reduceNeg, kn, len_C, h1, natI, hx, onel]
theorem cn_run (s : Tx) (L : List Da) (i : Nat) (d : Da) (hl : d.cons.length ≤ 1000) (hx : indexD 5 (dDl L) i = some (.eptr (dDa d))) (hn : 1000 < n) :
    loopN (exec C n none a_12) n (Ecn s L i 0) σ = some (match conIn s d.cons 0 with
      | some k => (.ret, { slots := [(5, ⟨false, .int .i64 k⟩), (6, ⟨false, .bool true⟩)], locs := [(4, 4, 0)], boxes := [(4, bD d)], defers := [] }, σ)
      | none => (.exit 2, { Ecn s L i d.cons.length with slots := [(1, ⟨false, .str s⟩), (7, ⟨false, dDl L⟩), (8, ⟨false, .int .i64 i⟩), (9, ⟨false, .int .i64 d.cons.length⟩), (25, ⟨false, .bool false⟩)] }, σ)) := by
  have h := loopN_first (body := exec C n none a_12) (Ecn s L i) σ d.cons.length (fun j => (d.cons.getD j zCn).name == s) (fun k => (.ret, { slots := [(5, ⟨false, .int .i64 k⟩), (6, ⟨false, .bool true⟩)], locs := [(4, 4, 0)], boxes := [(4, bD d)], defers := [] }, σ)) (fun _ _ h => by cases h) (fun _ _ _ h => by cases h)
    (fun j hj hq => by
      rw [getD_eq _ _ _ hj] at hq
      exact cn_step s L i j d _ hj hl hx (idx_C _ _ hj) hq)
    (fun j hj hq => by
      rw [getD_eq _ _ _ hj] at hq
      exact cn_stop s L i j d _ hj hl hx (idx_C _ _ hj) hq) (cn_end s L i d hx) d.cons.length 0 n (by omega) (by omega)
  have e := conIn_first s d.cons []
  simp only [List.nil_append, List.length_nil] at e
  rw [e] at h
  exact h
def Eco (s : Tx) (L : List Da) (i : Nat) : Env := { slots := [(1, ⟨false, .str s⟩), (7, ⟨false, dDl L⟩), (8, ⟨false, .int .i64 i⟩)], locs := [(4, 4, 0)], boxes := [(4, z5)], defers := [] }
theorem co_step (s : Tx) (L : List Da) (i : Nat) (d : Da) (hi : i < L.length) (hL : L.length ≤ 2000) (hl : d.cons.length ≤ 1000) (hx : indexD 5 (dDl L) i = some (.eptr (dDa d))) (hn : 1000 < n) (hq : conIn s d.cons 0 = none) :
    exec C n none a_14 (Eco s L i) σ = some (.normal, Eco s L (i + 1), σ) := by
  have h1 : ((i : Int) < (L.length : Int)) := by omega
  have h := cn_run (C := C) (σ := σ) s L i d hl hx hn
  rw [hq] at h
  simp only [Ecn, z5, zeroI] at h
  simp only [a_14, Eco, z5, sA, Nat.reduceAdd, Nat.reduceSub, Nat.reduceMul, Nat.reduceBEq, Nat.reduceLeDiff, Int.reduceBEq, Int.reduceBNe, Int.reduceLE, Int.reduceLT, Int.reduceGE, Int.reduceGT, Int.reduceNeg, kn, len_D, h1, h, wrap64_succ (i := i) (by omega)]
theorem co_stop (s : Tx) (L : List Da) (i k : Nat) (d : Da) (hi : i < L.length) (hL : L.length ≤ 2000) (hl : d.cons.length ≤ 1000) (hx : indexD 5 (dDl L) i = some (.eptr (dDa d))) (hn : 1000 < n) (hq : conIn s d.cons 0 = some k) :
    exec C n none a_14 (Eco s L i) σ = some (.ret, { slots := [(5, ⟨false, .int .i64 k⟩), (6, ⟨false, .bool true⟩)], locs := [(4, 4, 0)], boxes := [(4, bD d)], defers := [] }, σ) := by
  have h1 : ((i : Int) < (L.length : Int)) := by omega
  have h := cn_run (C := C) (σ := σ) s L i d hl hx hn
  rw [hq] at h
  simp only [Ecn, z5, zeroI] at h
  simp only [a_14, Eco, z5, sA, Nat.reduceAdd, Nat.reduceSub, Nat.reduceMul, Nat.reduceBEq, Nat.reduceLeDiff, Int.reduceBEq, Int.reduceBNe, Int.reduceLE, Int.reduceLT, Int.reduceGE, Int.reduceGT, Int.reduceNeg, kn, len_D, h1, h]
theorem co_end (s : Tx) (L : List Da) : exec C n none a_14 (Eco s L L.length) σ = some (.exit 0, { Eco s L L.length with slots := [(1, ⟨false, .str s⟩), (7, ⟨false, dDl L⟩), (8, ⟨false, .int .i64 L.length⟩), (15, ⟨false, .bool false⟩)] }, σ) := by
  have h1 : ¬ ((L.length : Int) < (L.length : Int)) := by omega
  simp only [a_14, Eco, sA, Nat.reduceAdd, Nat.reduceSub, Nat.reduceMul, Nat.reduceBEq, Nat.reduceLeDiff, Int.reduceBEq, Int.reduceBNe, Int.reduceLE, Int.reduceLT, Int.reduceGE, Int.reduceGT, Int.reduceNeg, kn, len_D, h1]
def Eda (s : Tx) (L : List Da) (i : Nat) : Env := { slots := [(1, ⟨false, .str s⟩), (6, ⟨false, dDl L⟩), (7, ⟨false, .int .i64 i⟩)], locs := [(4, 4, 0)], boxes := [(4, z5)], defers := [] }
theorem da_step (s : Tx) (L : List Da) (i : Nat) (d : Da) (hi : i < L.length) (hL : L.length ≤ 2000) (hx : indexD 5 (dDl L) i = some (.eptr (dDa d))) (hq : (d.name == s) = false) : exec C n none a_15 (Eda s L i) σ = some (.normal, Eda s L (i + 1), σ) := by
  have h1 : ((i : Int) < (L.length : Int)) := by omega
  simp only [dDa_eq] at hx
  simp only [a_15, Eda, z5, sA, Nat.reduceAdd, Nat.reduceSub, Nat.reduceMul, Nat.reduceBEq, Nat.reduceLeDiff, Int.reduceBEq, Int.reduceBNe, Int.reduceLE, Int.reduceLT, Int.reduceGE, Int.reduceGT, Int.reduceNeg, kn, len_D, h1, natI, hx, onel, hq, wrap64_succ (i := i) (by omega)]
theorem da_stop (s : Tx) (L : List Da) (i : Nat) (d : Da) (hi : i < L.length) (hL : L.length ≤ 2000) (hx : indexD 5 (dDl L) i = some (.eptr (dDa d))) (hq : (d.name == s) = true) :
    exec C n none a_15 (Eda s L i) σ = some (.ret, { slots := [(5, ⟨false, .bool true⟩)], locs := [(4, 4, 0)], boxes := [(4, bD d)], defers := [] }, σ) := by
  have h1 : ((i : Int) < (L.length : Int)) := by omega
  simp only [dDa_eq] at hx
  simp only [a_15, Eda, z5, bD, sA, Nat.reduceAdd, Nat.reduceSub, Nat.reduceMul, Nat.reduceBEq, Nat.reduceLeDiff, Int.reduceBEq, Int.reduceBNe, Int.reduceLE, Int.reduceLT, Int.reduceGE, Int.reduceGT, Int.reduceNeg, kn, len_D, h1, natI, hx, onel, hq]
theorem da_end (s : Tx) (L : List Da) : exec C n none a_15 (Eda s L L.length) σ = some (.exit 0, { Eda s L L.length with slots := [(1, ⟨false, .str s⟩), (6, ⟨false, dDl L⟩), (7, ⟨false, .int .i64 L.length⟩), (13, ⟨false, .bool false⟩)] }, σ) := by
  have h1 : ¬ ((L.length : Int) < (L.length : Int)) := by omega
  simp only [a_15, Eda, sA, Nat.reduceAdd, Nat.reduceSub, Nat.reduceMul, Nat.reduceBEq, Nat.reduceLeDiff, Int.reduceBEq, Int.reduceBNe, Int.reduceLE, Int.reduceLT, Int.reduceGE, Int.reduceGT, Int.reduceNeg, kn, len_D, h1]
end
def FineL (l : List Da) : Prop := l.length ≤ 1000 ∧ ∀ d ∈ l, FineD d
theorem fine_pre3 : ∀ d ∈ pre3, FineD d := fun d hd => by
  simp only [pre3, List.mem_cons, List.not_mem_nil, or_false] at hd
  rcases hd with rfl | rfl | rfl
  · exact ⟨by simp, by simp, fun c hc => by cases hc⟩
  · exact ⟨by simp, by simp, fun c hc => by cases hc⟩
  · refine ⟨by simp, by simp, fun c hc => ?_⟩
    simp only [List.mem_cons, List.not_mem_nil, or_false] at hc
    rcases hc with rfl | rfl <;> exact ⟨by simp, fun t ht => by cases ht⟩
theorem fine_all3 {l : List Da} (h : FineL l) : (pre3 ++ l).length ≤ 2000 ∧ ∀ d ∈ pre3 ++ l, FineD d := by
  refine ⟨by have := h.1; simp [pre3]; omega, fun d hd => ?_⟩
  rcases List.mem_append.1 hd with hd | hd
  · exact fine_pre3 d hd
  · exact h.2 d hd
def SCo : Specs := [(n_20, sp_datas)]
theorem rcon_pure (l : List Da) (hl : FineL l) (s : Tx) : OkP n_124 [dPr l, .str s] ⟨false, conR (conM s (pre3 ++ l))⟩ := by
  obtain ⟨hL, hf⟩ := fine_all3 hl
  have h0 := call_datas (S := SCo) rfl l hl.1 0 σ0
  generalize pre3 ++ l = L at hL hf h0
  refine pure_fun (af := a_72) (n := 2001) (σ' := σ0) (T_sound SCo 1) rfl rfl (by simp [noPtrL, noPtr_dPr, noPtr]) (by
    cases conM s L with
    | none => rfl
    | some p => simp [conR, noPtr, noPtrL, noPtr_dDa]) ?_
  have e := conM_first s L []
  simp only [List.nil_append, List.length_nil] at e
  have h := loopN_first (body := exec (T SCo 1) 2001 none a_14) (Eco s L) σ0 L.length (fun i => (conIn s (L.getD i zDa).cons 0).isSome) (fun i => (.ret, { slots := [(5, ⟨false, .int .i64 ((conIn s (L.getD i zDa).cons 0).getD 0 : Nat)⟩), (6, ⟨false, .bool true⟩)], locs := [(4, 4, 0)], boxes := [(4, bD (L.getD i zDa))], defers := [] }, σ0)) (fun _ _ h => by cases h) (fun _ _ _ h => by cases h)
    (fun i hi hq => by
      rw [getD_eq _ _ _ hi] at hq
      have hd := hf _ (List.getElem_mem hi)
      exact co_step s L i _ hi hL hd.cons (idx_D _ _ hi) (by omega) (by simpa using hq))
    (fun i hi hq => by
      simp only [getD_eq _ _ _ hi] at hq ⊢
      have hd := hf _ (List.getElem_mem hi)
      obtain ⟨k, hk⟩ := Option.isSome_iff_exists.1 hq
      rw [hk, Option.getD_some]
      exact co_stop s L i k _ hi hL hd.cons (idx_D _ _ hi) (by omega) hk) (co_end s L) L.length 0 2001 (by omega) (by omega)
  generalize firstN (fun i => (conIn s (L.getD i zDa).cons 0).isSome) L.length 0 = f at h e
  simp only [dPr] at h0
  cases f with
  | none =>
    simp only at h e
    rw [e]
    have ez : dDa zDa = .agg [.str [], .int .i64 0, .nils, .nils, .nils] := rfl
    simp only [conR, ez]
    simp only [Eco, z5, zeroI] at h
    simp only [a_72, sA, Nat.reduceAdd, Nat.reduceSub, Nat.reduceMul, Nat.reduceBEq, Nat.reduceLeDiff, Int.reduceBEq, Int.reduceBNe, Int.reduceLE, Int.reduceLT, Int.reduceGE, Int.reduceGT, Int.reduceNeg, kn, dPr, onel, h0, h]
  | some i =>
    simp only at h e
    obtain ⟨k, e1, e2⟩ := e
    rw [e2]
    simp only [conR]
    simp only [e1, Option.getD_some] at h
    generalize L.getD i zDa = d at h
    simp only [Eco, z5, bD, zeroI] at h
    simp only [a_72, sA, Nat.reduceAdd, Nat.reduceSub, Nat.reduceMul, Nat.reduceBEq, Nat.reduceLeDiff, Int.reduceBEq, Int.reduceBNe, Int.reduceLE, Int.reduceLT, Int.reduceGE, Int.reduceGT, Int.reduceNeg, kn, dPr, onel, h0, h, dDa_eq]
theorem rdata_pure (l : List Da) (hl : FineL l) (s : Tx) : OkP n_125 [dPr l, .str s] ⟨false, dataR (dataM s (pre3 ++ l))⟩ := by
  obtain ⟨hL, hf⟩ := fine_all3 hl
  have h0 := call_datas (S := SCo) rfl l hl.1 0 σ0
  generalize pre3 ++ l = L at hL hf h0
  refine pure_fun (af := a_73) (n := 2001) (σ' := σ0) (T_sound SCo 1) rfl rfl (by simp [noPtrL, noPtr_dPr, noPtr]) (by
    cases dataM s L with
    | none => rfl
    | some p => simp [dataR, noPtr, noPtrL, noPtr_dDa]) ?_
  have e := dataM_first s L []
  simp only [List.nil_append, List.length_nil] at e
  have h := loopN_first (body := exec (T SCo 1) 2001 none a_15) (Eda s L) σ0 L.length (fun i => (L.getD i zDa).name == s) (fun i => (.ret, { slots := [(5, ⟨false, .bool true⟩)], locs := [(4, 4, 0)], boxes := [(4, bD (L.getD i zDa))], defers := [] }, σ0)) (fun _ _ h => by cases h) (fun _ _ _ h => by cases h)
    (fun i hi hq => by
      rw [getD_eq _ _ _ hi] at hq
      exact da_step s L i _ hi hL (idx_D _ _ hi) hq)
    (fun i hi hq => by
      simp only [getD_eq _ _ _ hi] at hq ⊢
      exact da_stop s L i _ hi hL (idx_D _ _ hi) hq) (da_end s L) L.length 0 2001 (by omega) (by omega)
  generalize firstN (fun i => (L.getD i zDa).name == s) L.length 0 = f at h e
  simp only [dPr] at h0
  cases f with
  | none =>
    simp only at h e
    rw [e]
    have ez : dDa zDa = .agg [.str [], .int .i64 0, .nils, .nils, .nils] := rfl
    simp only [dataR, ez]
    simp only [Eda, z5, zeroI] at h
    simp only [a_73, sA, Nat.reduceAdd, Nat.reduceSub, Nat.reduceMul, Nat.reduceBEq, Nat.reduceLeDiff, Int.reduceBEq, Int.reduceBNe, Int.reduceLE, Int.reduceLT, Int.reduceGE, Int.reduceGT, Int.reduceNeg, kn, dPr, onel, h0, h]
  | some i =>
    simp only at h e
    rw [e]
    simp only [dataR]
    generalize L.getD i zDa = d at h
    simp only [Eda, z5, bD, zeroI] at h
    simp only [a_73, sA, Nat.reduceAdd, Nat.reduceSub, Nat.reduceMul, Nat.reduceBEq, Nat.reduceLeDiff, Int.reduceBEq, Int.reduceBNe, Int.reduceLE, Int.reduceLT, Int.reduceGE, Int.reduceGT, Int.reduceNeg, kn, dPr, onel, h0, h, dDa_eq]
end Go.Fu
namespace Go.Fu
open Go Go.Mx
set_option maxRecDepth 10000
def fl {α : Type} : List α → Bool
  | [] => false
  | _ :: _ => true
theorem fl_ne {α : Type} {l : List α} (h : l ≠ []) : fl l = true := by
  cases l with
  | nil => exact absurd rfl h
  | cons x r => rfl
theorem fl_snoc {α : Type} (l : List α) (v : α) : fl (l ++ [v]) = true := by cases l <;> rfl
theorem fieldsD_snoc (d : Da) : ∀ (l : List Cn) (c : Cn) (k : Nat), fieldsD d (l ++ [c]) k = fieldsD d l k ++ [fieldM d (k + l.length) c]
  | [], c, k => rfl
  | x :: r, c, k => by
    simp only [List.cons_append, fieldsD, fieldsD_snoc d r c (k + 1), List.length_cons]
    rw [show k + 1 + r.length = k + (r.length + 1) by omega]
theorem fieldsM_snoc : ∀ (l : List Da) (d : Da), fieldsM (l ++ [d]) = fieldsM l ++ fieldsD d d.cons 0
  | [], d => by simp [fieldsM]
  | x :: r, d => by simp only [List.cons_append, fieldsM, fieldsM_snoc r d, List.append_assoc]
theorem fieldsD_len (d : Da) : ∀ (l : List Cn) (k : Nat), (fieldsD d l k).length = l.length
  | [], _ => rfl
  | c :: r, k => by simp only [fieldsD, List.length_cons, fieldsD_len d r]
theorem fieldsM_len : ∀ (l : List Da), (∀ d ∈ l, d.cons.length ≤ 1000) → (fieldsM l).length ≤ 1000 * l.length
  | [], _ => by simp [fieldsM]
  | d :: r, h => by
    have h1 := h d (by simp)
    have h2 := fieldsM_len r fun x hx => h x (by simp [hx])
    simp only [fieldsM, List.length_append, fieldsD_len, List.length_cons]
    omega
section
variable {C : CallF} {n : Nat} {σ : Store}
def Efa (L : List Da) (acc : List Fi) (i j : Nat) (t : Ty) (l : List Tx) (m : Nat) : Env := { slots := [(3, ⟨false, dDl L⟩), (4, ⟨fl acc, dFl acc⟩), (5, ⟨false, .int .i64 i⟩), (6, ⟨false, .int .i64 j⟩), (8, ⟨false, .int .i64 ((l.length : Int) - 1 - (m : Nat))⟩)], locs := [(7, 7, 0)], boxes := [(7, bT (allM (l.drop (l.length - m)) t))], defers := [] }
theorem fa_step (L : List Da) (acc : List Fi) (i j : Nat) (t : Ty) (d : Da) (hx : indexD 5 (dDl L) i = some (.eptr (dDa d))) (m : Nat) (h : m < d.vars.length) (hl : d.vars.length ≤ 1000) : exec C n none a_40 (Efa L acc i j t d.vars m) σ = some (.normal, Efa L acc i j t d.vars (m + 1), σ) := by
  have hy := idx_S d.vars (d.vars.length - 1 - m) (by omega)
  have hz : (d.vars.length : Int) - 1 - (m : Nat) = ((d.vars.length - 1 - m : Nat) : Int) := by omega
  have hp : (0 : Int) ≤ ((d.vars.length - 1 - m : Nat) : Int) := by omega
  have w : IntKind.i64.wrap (((d.vars.length - 1 - m : Nat) : Int) - 1) = (d.vars.length : Int) - 1 - ((m + 1 : Nat) : Int) := by rw [wrap64 (by omega) (by omega)]; omega
  have e : d.vars.drop (d.vars.length - (m + 1)) = d.vars[d.vars.length - 1 - m] :: d.vars.drop (d.vars.length - m) := by
    rw [show d.vars.length - (m + 1) = d.vars.length - 1 - m by omega, List.drop_eq_getElem_cons (by omega), show d.vars.length - 1 - m + 1 = d.vars.length - m by omega]
  unfold Efa
  rw [hz, e]
  have e5 : allM (d.vars[d.vars.length - 1 - m] :: d.vars.drop (d.vars.length - m)) t = tAll d.vars[d.vars.length - 1 - m] (allM (d.vars.drop (d.vars.length - m)) t) := rfl
  rw [e5]
  generalize allM (d.vars.drop (d.vars.length - m)) t = a
  generalize d.vars[d.vars.length - 1 - m]'(by omega) = x at hy
  have q := lst1_T a
  have e1 : (tAll x a).f = 5 := rfl
  have e2 : (tAll x a).n = 0 := rfl
  have e3 : (tAll x a).s = x := rfl
  have e4 : (tAll x a).as_ = [a] := rfl
  simp only [cTy_eq] at q
  simp only [dDa_eq] at hx
  simp only [a_40, bT, e1, e2, e3, e4, sA, Nat.reduceAdd, Nat.reduceSub, Nat.reduceMul, Nat.reduceBEq, Nat.reduceLeDiff, Int.reduceBEq, Int.reduceBNe, Int.reduceLE, Int.reduceLT, Int.reduceGE, Int.reduceGT, Int.reduceNeg, kn, hp, natI, hx, hy, onel, q, w]
theorem fa_end (L : List Da) (acc : List Fi) (i j : Nat) (t : Ty) (l : List Tx) : exec C n none a_40 (Efa L acc i j t l l.length) σ = some (.exit 4, { Efa L acc i j t l l.length with slots := [(3, ⟨false, dDl L⟩), (4, ⟨fl acc, dFl acc⟩), (5, ⟨false, .int .i64 i⟩), (6, ⟨false, .int .i64 j⟩), (8, ⟨false, .int .i64 (-1)⟩), (41, ⟨false, .bool false⟩)] }, σ) := by
  have hz : (l.length : Int) - 1 - (l.length : Nat) = -1 := by omega
  unfold Efa
  rw [hz]
  simp only [a_40, sA, Nat.reduceAdd, Nat.reduceSub, Nat.reduceMul, Nat.reduceBEq, Nat.reduceLeDiff, Int.reduceBEq, Int.reduceBNe, Int.reduceLE, Int.reduceLT, Int.reduceGE, Int.reduceGT, Int.reduceNeg, kn]
def Efb (L : List Da) (acc : List Fi) (i : Nat) (d : Da) (j : Nat) : Env := { slots := [(3, ⟨false, dDl L⟩), (4, ⟨fl (acc ++ fieldsD d (d.cons.take j) 0), dFl (acc ++ fieldsD d (d.cons.take j) 0)⟩), (5, ⟨false, .int .i64 i⟩), (6, ⟨false, .int .i64 j⟩)], locs := [], boxes := [], defers := [] }
theorem fb_step (L : List Da) (acc : List Fi) (i : Nat) (d : Da) (hd : FineD d) (hx : indexD 5 (dDl L) i = some (.eptr (dDa d))) (j : Nat) (h : j < d.cons.length) (ha : acc.length ≤ 10000000) (hn : 1000 < n) (h1 : C n_11 [dDa d, .int .i64 j] σ = some (.ret ⟨false, dTy (typM d d.cons[j])⟩, σ)) :
    exec C n none a_41 (Efb L acc i d j) σ = some (.normal, Efb L acc i d (j + 1), σ) := by
  have hv := hd.vars
  have hc := hd.cons
  have hi : ((j : Int) < (d.cons.length : Int)) := by omega
  have hy := idx_C _ _ h
  have e : fieldsD d (d.cons.take (j + 1)) 0 = fieldsD d (d.cons.take j) 0 ++ [fieldM d j d.cons[j]] := by
    rw [← take_snoc _ j h, fieldsD_snoc]
    congr 3
    simp
    omega
  unfold Efb
  rw [e, ← List.append_assoc, fl_snoc]
  have hlen : (acc ++ fieldsD d (d.cons.take j) 0).length ≤ 10001000 := by
    rw [List.length_append, fieldsD_len, List.length_take]
    omega
  generalize acc ++ fieldsD d (d.cons.take j) 0 = A at hlen
  have hF : fieldM d j d.cons[j] = ⟨d.cons[j].name, j, d.cons.length, d.cons[j].fs.length, allM d.vars (typM d d.cons[j])⟩ := rfl
  have hap := app_F A (fieldM d j d.cons[j]) (fl A) fl_ne (by omega)
  rw [hF] at hap ⊢
  have hm := fun t => loopN_run (body := exec C n none a_40) (Efa L A i j t d.vars) (fun _ => σ) d.vars.length (r := _) (fun _ _ h => by cases h) (fun m hm => fa_step L A i j t d hx m hm hv) (fa_end L A i j t d.vars) 0 n (by omega) (by omega)
  have hm := hm (typM d d.cons[j])
  have d0 : d.vars.drop (d.vars.length - 0) = [] := by simp
  have d1 : d.vars.drop (d.vars.length - d.vars.length) = d.vars := by simp
  have d2 : ∀ t, allM [] t = t := fun _ => rfl
  have n0 : ((0 : Nat) : Int) = 0 := rfl
  simp only [Efa, bT, d0, d1, d2, n0, Int.sub_zero] at hm
  generalize allM d.vars (typM d d.cons[j]) = u at hap hm ⊢
  generalize typM d d.cons[j] = t at h1 hm
  generalize d.cons[j] = c at hy hap ⊢
  have w : IntKind.i64.wrap ((d.vars.length : Int) - 1) = (d.vars.length : Int) - 1 := wrap64 (by omega) (by omega)
  simp only [dFi, cFi, cTy_eq] at hap
  simp only [dDa_eq] at hx
  simp only [dCn_eq] at hy
  simp only [dDa_eq, dTy_eq, cTy_eq] at h1
  simp only [a_41, sA, Nat.reduceAdd, Nat.reduceSub, Nat.reduceMul, Nat.reduceBEq, Nat.reduceLeDiff, Int.reduceBEq, Int.reduceBNe, Int.reduceLE, Int.reduceLT, Int.reduceGE, Int.reduceGT, Int.reduceNeg, kn, len_C, len_S, len_T, hi, natI, hx, hy, onel, h1, hm, hap, w, wrap64_succ (i := j) (by omega)]
theorem fb_end (L : List Da) (acc : List Fi) (i : Nat) (d : Da) (hx : indexD 5 (dDl L) i = some (.eptr (dDa d))) : exec C n none a_41 (Efb L acc i d d.cons.length) σ = some (.exit 2, { Efb L acc i d d.cons.length with slots := [(3, ⟨false, dDl L⟩), (4, ⟨fl (acc ++ fieldsD d d.cons 0), dFl (acc ++ fieldsD d d.cons 0)⟩), (5, ⟨false, .int .i64 i⟩), (6, ⟨false, .int .i64 d.cons.length⟩), (24, ⟨false, .bool false⟩)] }, σ) := by
  have hi : ¬ ((d.cons.length : Int) < (d.cons.length : Int)) := by omega
  simp only [dDa_eq] at hx
  simp only [a_41, Efb, sA, Nat.reduceAdd, Nat.reduceSub, Nat.reduceMul, Nat.reduceBEq, Nat.reduceLeDiff, Int.reduceBEq, Int.reduceBNe, Int.reduceLE, Int.reduceLT, Int.reduceGE, Int.reduceGT, Int.reduceNeg, kn, len_C, hi, natI, hx, onel, List.take_length]
def Efc (L : List Da) (i : Nat) : Env := { slots := [(3, ⟨false, dDl L⟩), (4, ⟨fl (fieldsM (L.take i)), dFl (fieldsM (L.take i))⟩), (5, ⟨false, .int .i64 i⟩)], locs := [], boxes := [], defers := [] }
theorem fc_step (L : List Da) (i : Nat) (h : i < L.length) (hL : L.length ≤ 2000) (hf : ∀ d ∈ L, FineD d) (hn : 1000 < n) (h1 : ∀ j (hj : j < L[i].cons.length), C n_11 [dDa L[i], .int .i64 j] σ = some (.ret ⟨false, dTy (typM L[i] L[i].cons[j])⟩, σ)) :
    exec C n none a_42 (Efc L i) σ = some (.normal, Efc L (i + 1), σ) := by
  have hi : ((i : Int) < (L.length : Int)) := by omega
  have hd := hf _ (List.getElem_mem h)
  have hc := hd.cons
  have hx := idx_D _ _ h
  have e : fieldsM (L.take (i + 1)) = fieldsM (L.take i) ++ fieldsD L[i] L[i].cons 0 := by rw [← take_snoc _ i h, fieldsM_snoc]
  have hlen : (fieldsM (L.take i)).length ≤ 10000000 := by
    have := fieldsM_len (L.take i) fun d hd => (hf d (List.mem_of_mem_take hd)).cons
    have : (L.take i).length ≤ 2000 := by simp; omega
    omega
  unfold Efc
  rw [e]
  generalize fieldsM (L.take i) = A at hlen
  generalize L[i] = d at hd hc hx h1
  have hm := loopN_run (body := exec C n none a_41) (Efb L A i d) (fun _ => σ) d.cons.length (r := _) (fun _ _ h => by cases h) (fun j hj => fb_step L A i d hd hx j hj hlen hn (h1 j hj)) (fb_end L A i d hx) 0 n (by omega) (by omega)
  have n0 : ((0 : Nat) : Int) = 0 := rfl
  simp only [Efb, List.take_zero, fieldsD, List.append_nil, n0] at hm
  simp only [a_42, sA, Nat.reduceAdd, Nat.reduceSub, Nat.reduceMul, Nat.reduceBEq, Nat.reduceLeDiff, Int.reduceBEq, Int.reduceBNe, Int.reduceLE, Int.reduceLT, Int.reduceGE, Int.reduceGT, Int.reduceNeg, kn, len_D, hi, hm, wrap64_succ (i := i) (by omega)]
theorem fc_end (L : List Da) : exec C n none a_42 (Efc L L.length) σ = some (.exit 0, { Efc L L.length with slots := [(3, ⟨false, dDl L⟩), (4, ⟨fl (fieldsM L), dFl (fieldsM L)⟩), (5, ⟨false, .int .i64 L.length⟩), (14, ⟨false, .bool false⟩)] }, σ) := by
  have hi : ¬ ((L.length : Int) < (L.length : Int)) := by omega
  simp only [a_42, Efc, sA, Nat.reduceAdd, Nat.reduceSub, Nat.reduceMul, Nat.reduceBEq, Nat.reduceLeDiff, Int.reduceBEq, Int.reduceBNe, Int.reduceLE, Int.reduceLT, Int.reduceGE, Int.reduceGT, Int.reduceNeg, kn, len_D, hi, List.take_length]
end
def SFs : Specs := [(n_20, sp_datas), (n_11, sp_rtype)]
theorem rfields_pure (l : List Da) (hl : FineL l) : OkP n_126 [dPr l] ⟨false, dFl (fieldsM (pre3 ++ l))⟩ := by
  obtain ⟨hL, hf⟩ := fine_all3 hl
  have h0 := call_datas (S := SFs) rfl l hl.1 0 σ0
  generalize pre3 ++ l = L at hL hf h0
  refine OkP.weak (o := fl (fieldsM L)) rfl (pure_fun (af := a_93) (n := 2001) (σ' := σ0) (T_sound SFs 1) rfl rfl (by simp [noPtrL, noPtr_dPr]) (noPtr_dFl (fieldsM L)) ?_)
  have h := loopN_run (body := exec (T SFs 1) 2001 none a_42) (Efc L) (fun _ => σ0) L.length (r := _) (fun _ _ h => by cases h) (fun i hi => fc_step L i hi hL hf (by omega) (fun j hj => call_rtype rfl _ (hf _ (List.getElem_mem hi)) j hj 0 σ0)) (fc_end L) 0 2001 (by omega) (by omega)
  have n0 : ((0 : Nat) : Int) = 0 := rfl
  have e0 : fl (fieldsM []) = false := rfl
  have e1 : dFl (fieldsM []) = .nils := rfl
  simp only [Efc, List.take_zero, e0, e1, n0] at h
  simp only [dPr] at h0
  simp only [a_93, sA, Nat.reduceAdd, Nat.reduceSub, Nat.reduceMul, Nat.reduceBEq, Nat.reduceLeDiff, Int.reduceBEq, Int.reduceBNe, Int.reduceLE, Int.reduceLT, Int.reduceGE, Int.reduceGT, Int.reduceNeg, kn, dPr, onel, h0, h]
end Go.Fu
namespace Go.Fu
open Go Go.Mx
set_option maxRecDepth 10000
theorem agS {α : Type} (k : Nat) (v : α) (l : List (Nat × α)) : aget ((k, v) :: l) k = some v := by simp [aget, ifB]
theorem chunks_cells {k : RowK} : ∀ ds : List D, (∀ d ∈ ds, d.cells.length = k.sz ∧ packD k d.cells = d) → chunks k ds.length ((cellsOf ds).map fun c => c.d) = ds
  | [], _ => rfl
  | d :: ds, h => by
    obtain ⟨h1, h2⟩ := h d (by simp)
    have h3 := chunks_cells ds fun x hx => h x (List.mem_cons_of_mem _ hx)
    have e1 : (d.cells.map Cell.of).map (fun c => c.d) = d.cells := by
      rw [List.map_map]
      exact List.map_id'' (fun _ => rfl) _
    simp only [List.length_cons, chunks, cellsOf, List.map_append, e1]
    rw [List.take_left' h1, List.drop_left' h1, h2, h3]
theorem elems_cells {k : RowK} {ds : List D} (h : ∀ d ∈ ds, d.cells.length = k.sz ∧ packD k d.cells = d) : elems k (cellsOf ds) 0 ds.length = ds := by
  simp only [elems, Nat.zero_mul, List.drop_zero]
  exact chunks_cells ds h
theorem freezeL_id {n : Nat} {os : Objs} : ∀ ds : List D, (∀ d ∈ ds, freezeD n d os = some (d, os)) → freezeL (freezeD n) ds os = some (ds, os)
  | [], _ => rfl
  | d :: ds, h => by
    have h1 := h d (by simp)
    have h2 := freezeL_id ds fun x hx => h x (List.mem_cons_of_mem _ hx)
    simp only [freezeL, h1, bindO, caseO_some, h2]
theorem cellsOf_len {z : Nat} : ∀ a : List D, (∀ d ∈ a, d.cells.length = z) → (cellsOf a).length = a.length * z
  | [], _ => by simp [cellsOf]
  | d :: a, h => by
    have h1 := h d (by simp)
    have h2 := cellsOf_len a fun x hx => h x (List.mem_cons_of_mem _ hx)
    simp only [cellsOf, List.length_append, List.length_map, h1, h2, List.length_cons, Nat.succ_mul, Nat.add_comm]
theorem freezeD_arr {n : Nat} {k : RowK} {id off len : Nat} {os : Objs} : freezeD (n + 1) (.arr k id off len) os = bindO (aget os id) fun cs => ifB ((k.ag || k.sz == 1) && decide ((off + len) * k.sz ≤ cs.length)) (bindO (freezeL (freezeD n) (elems k cs off len) (adel1 os id)) fun r => some (.list k r.1, r.2)) none := rfl
theorem freezeD_row {k : RowK} {id n : Nat} {ds : List D} {os os' : Objs} (ho : aget os id = some (cellsOf ds)) (hd : adel1 os id = os') (hk : (k.ag || k.sz == 1) = true) (h : ∀ d ∈ ds, d.cells.length = k.sz ∧ packD k d.cells = d) (hf : ∀ d ∈ ds, freezeD n d os' = some (d, os')) :
    freezeD (n + 1) (.arr k id 0 ds.length) os = some (.list k ds, os') := by
  have hl := cellsOf_len ds fun d hd => (h d hd).1
  have e0 : decide ((0 + ds.length) * k.sz ≤ (cellsOf ds).length) = true := by simp; omega
  simp only [freezeD_arr, ho, bindO, caseO_some, hk, e0, Bool.and_self, ifB, elems_cells h, hd, freezeL_id ds hf]
structure SA (σ : Store) (id : Nat) (l : List Da) (r : Nat) : Prop where
  a : ∃ cs, aget σ.objs id = some (cellsOf (l.map dDa) ++ cs) ∧ cs.length = r
  t : aget σ.tys id = some ⟨k_0.el, k_0.sz⟩
theorem da_len (l : List Da) : (cellsOf (l.map dDa)).length = l.length * 5 := by
  have := cellsOf_len (z := 5) (l.map dDa) fun d hd => by
    obtain ⟨x, _, rfl⟩ := List.mem_map.1 hd
    rfl
  rw [List.length_map] at this
  exact this
theorem da_all (l : List Da) : allSize k_0.sz (l.map dDa) = true := allSize_all fun d hd => by
  obtain ⟨s, _, rfl⟩ := List.mem_map.1 hd
  exact ⟨rfl, rfl⟩
theorem cells_of (l : List Da) : (cellsOf (l.map dDa)).map (fun c => Cell.of c.d) = cellsOf (l.map dDa) := by
  induction l with
  | nil => rfl
  | cons x r ih => rw [List.map_cons, cellsOf, List.map_append, ih]; rfl
theorem cellsOf_app : ∀ (a b : List D), cellsOf (a ++ b) = cellsOf a ++ cellsOf b
  | [], b => rfl
  | x :: r, b => by simp only [List.cons_append, cellsOf, cellsOf_app r b, List.append_assoc]
theorem SA.app {σ : Store} {id r : Nat} {l : List Da} (h : SA σ id l r) (m : List Da) (hl : l.length + m.length < 100000000) : ∃ σ1, appendAD σ k_0 96 (.arr k_0 id 0 l.length) (m.map dDa) = some (.arr k_0 σ.next 0 (l.length + m.length), σ1) ∧ SA σ1 σ.next (l ++ m) 0 := by
  obtain ⟨cs, h1, _⟩ := h.a
  have ek : k_0.same k_0 = true := rfl
  have e0 : decide (l.length * k_0.sz ≤ (cellsOf (l.map dDa) ++ cs).length) = true := by simp [k_121, da_len]
  have e1 : decide ((l.length + m.length) * 96 ≤ bound) = true := decide_eq_true (show (l.length + m.length) * 96 ≤ 1099511627776 by omega)
  have e2 : decide (l.length + m.length ≤ bound) = true := decide_eq_true (show l.length + m.length ≤ 1099511627776 by omega)
  have ht : ((cellsOf (l.map dDa) ++ cs).take (l.length * k_0.sz)).map (fun c => Cell.of c.d) ++ cellsOf (m.map dDa) = cellsOf ((l ++ m).map dDa) := by
    have : (cellsOf (l.map dDa) ++ cs).take (l.length * k_0.sz) = cellsOf (l.map dDa) := by
      rw [show l.length * k_0.sz = (cellsOf (l.map dDa)).length by rw [da_len]; rfl]
      exact List.take_left
    rw [this, cells_of, List.map_append, cellsOf_app]
  refine ⟨newArr { σ with objs := adel1 σ.objs id } k_0 (cellsOf ((l ++ m).map dDa)), ?_, ⟨⟨[], by simp only [newArr, List.append_nil]; exact agS _ _ _, rfl⟩, agS _ _ _⟩⟩
  simp only [appendAD, da_all, ifB_true, h1, h.t, bindO, caseO_some, ek, beq_self_eq_true, List.length_map, e0, e1, e2, Bool.and_self, ht]
def z5D : List D := [.str [], .int .i64 0, .nils, .nils, .nils]
theorem rowOf_len : ∀ n : Nat, (rowOf z5D n).length = n * 5
  | 0 => rfl
  | n + 1 => by simp only [rowOf, z5D, List.map_cons, List.map_nil, List.cons_append, List.nil_append, List.length_cons]; rw [show ([D.str [], D.int .i64 0, .nils, .nils, .nils] : List D) = z5D from rfl, rowOf_len n]; omega
theorem grow_run (S : Specs) (hS : has S n_116 = false) (n k : Nat) (σ : Store) (h0 : 0 < k) (hk : k < 1000000) : T S (n + 1) n_116 [.nils, .int .i64 k] σ = some (.ret ⟨false, .arr k_0 σ.next 0 0⟩, newArr σ k_0 (rowOf z5D k)) := by
  rw [T_fun (af := a_102) hS rfl rfl]
  have g1 : ¬ ((k : Int) < 0) := by omega
  have w1 : IntKind.i64.wrap (0 - 0) = 0 := rfl
  have w2 : IntKind.i64.wrap ((k : Int) - 0) = k := by rw [wrap64 (by omega) (by omega)]; omega
  have b1 : (0 < k) := h0
  have b2 : k * 96 ≤ bound := show k * 96 ≤ 1099511627776 by omega
  have b3 : k ≤ bound := show k ≤ 1099511627776 by omega
  have g2 : ((k : Int) > 0) := by omega
  have hs : sliceD 5 D.nils 0 (some 0) = some .nils := rfl
  have hs2 : sliceD 5 (.arr k_0 σ.next 0 k) 0 (some 0) = some (.arr k_0 σ.next 0 0) := by
    simp only [sliceD_arr, Option.getD_some, k_121]
    simp [ifB]
  simp only [z5D]
  generalize hq : (k : Int) = q at *
  have hq2 : q = .ofNat k := by rw [← hq]; rfl
  simp only [a_102, sA, Nat.reduceAdd, Nat.reduceSub, Nat.reduceMul, Nat.reduceBEq, Nat.reduceLeDiff, Int.reduceBEq, Int.reduceBNe, Int.reduceLE, Int.reduceLT, Int.reduceGE, Int.reduceGT, Int.reduceNeg, kn, g1, w1, w2, g2, zeroI, hs]
  subst hq2
  simp only [sA, Nat.reduceAdd, Nat.reduceSub, Nat.reduceMul, Nat.reduceBEq, Nat.reduceLeDiff, Int.reduceBEq, Int.reduceBNe, Int.reduceLE, Int.reduceLT, Int.reduceGE, Int.reduceGT, Int.reduceNeg, kn, b2, b3, b1, hs2, zeroI]
end Go.Fu
