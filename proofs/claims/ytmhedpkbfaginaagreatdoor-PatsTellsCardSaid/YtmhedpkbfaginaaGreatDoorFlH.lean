/-
  A data type's own type, a constructor's type: the program's, the document's.
-/
import Derived.Test.YtmhedpkbfaginaaGreatDoorFlD
set_option maxHeartbeats 4000000
set_option linter.unusedSimpArgs false
set_option linter.unusedVariables false
set_option linter.unusedSectionVars false
namespace Go.Fu
open Go Go.Mx
set_option maxRecDepth 10000
def bD (d : Da) : List Cell := [⟨false, .str d.name⟩, ⟨false, .int .i64 d.pos⟩, ⟨false, dSs d.vars⟩, ⟨false, dKl d.vars.length⟩, ⟨false, dCl d.cons⟩]
theorem dDa_eq (d : Da) : dDa d = .agg [.str d.name, .int .i64 d.pos, dSs d.vars, dKl d.vars.length, dCl d.cons] := rfl
theorem dCn_eq (c : Cn) : dCn c = .agg [.str c.name, .int .i64 c.pos, dTl c.fs] := rfl
structure FineC (c : Cn) : Prop where
  few : c.fs.length ≤ 1000
  fs : ∀ t ∈ c.fs, Fine t
structure FineD (d : Da) : Prop where
  vars : d.vars.length ≤ 1000
  cons : d.cons.length ≤ 1000
  each : ∀ c ∈ d.cons, FineC c
section
variable {C : CallF} {n : Nat} {σ : Store}
def Evs (l : List Tx) (i : Nat) : Env := { slots := [(3, ⟨ow i, dTl ((l.take i).map tVar)⟩), (6, ⟨false, dSs l⟩), (7, ⟨false, .int .i64 l.length⟩), (8, ⟨false, .int .i64 i⟩)], locs := [], boxes := [], defers := [] }
theorem vs_step (l : List Tx) (i : Nat) (h : i < l.length) (hl : l.length ≤ 1000) (h1 : C n_32 [.str l[i]] σ = some (.ret ⟨false, dTy (tVar l[i])⟩, σ)) : exec C n none a_38 (Evs l i) σ = some (.normal, Evs l (i + 1), σ) := by
  have hi : ((i : Int) < (l.length : Int)) := by omega
  have ha := app_T ((l.take i).map tVar) (tVar l[i]) (ow i) (fun h => ow_ne (fun e => h (by rw [e]; rfl))) (by simp; omega)
  have e : (l.take i).map tVar ++ [tVar l[i]] = (l.take (i + 1)).map tVar := by rw [← take_snoc l i h, List.map_append]; rfl
  rw [e] at ha
  simp only [dTy_eq, cTy_eq] at h1 ha
  simp only [a_38, Evs, sA, Nat.reduceAdd, Nat.reduceSub, Nat.reduceMul, Nat.reduceBEq, Nat.reduceLeDiff, Int.reduceBEq, Int.reduceBNe, Int.reduceLE, Int.reduceLT, Int.reduceGE, Int.reduceGT, Int.reduceNeg, kn, hi, natI, idx_S _ _ h, onel, h1, ha, wrap64_succ (i := i) (by omega), ow_succ]
theorem vs_end (l : List Tx) : exec C n none a_38 (Evs l l.length) σ = some (.exit 0, { Evs l l.length with slots := [(3, ⟨ow l.length, dTl (l.map tVar)⟩), (6, ⟨false, dSs l⟩), (7, ⟨false, .int .i64 l.length⟩), (8, ⟨false, .int .i64 l.length⟩), (9, ⟨false, .bool false⟩)] }, σ) := by
  have hi : ¬ ((l.length : Int) < (l.length : Int)) := by omega
  simp only [a_38, Evs, sA, Nat.reduceAdd, Nat.reduceSub, Nat.reduceMul, Nat.reduceBEq, Nat.reduceLeDiff, Int.reduceBEq, Int.reduceBNe, Int.reduceLE, Int.reduceLT, Int.reduceGE, Int.reduceGT, Int.reduceNeg, kn, hi, List.take_length]
end
def SVr : Specs := [(n_32, sp_Var)]
theorem vars_pure (l : List Tx) (hl : l.length ≤ 1000) : OkP n_77 [dSs l] ⟨false, dTl (l.map tVar)⟩ := by
  refine OkP.weak (o := ow l.length) rfl (pure_fun (af := a_89) (n := l.length + 1) (σ' := σ0) (T_sound SVr 1) rfl rfl (by simp [noPtrL, noPtr_dSs]) (noPtr_dTl _) ?_)
  have h1 := loopN_run (body := exec (T SVr 1) (l.length + 1) none a_38) (Evs l) (fun _ => σ0) l.length (r := _) (fun _ _ h => by cases h) (fun i hi => vs_step l i hi hl (call_Var rfl _ 0 σ0)) (vs_end l) 0 (l.length + 1) (by omega) (by omega)
  simp only [Evs, zeroI, List.take_zero, List.map_nil, tys0, ow_zero] at h1
  simp only [a_89, sA, Nat.reduceAdd, Nat.reduceSub, Nat.reduceMul, Nat.reduceBEq, Nat.reduceLeDiff, Int.reduceBEq, Int.reduceBNe, Int.reduceLE, Int.reduceLT, Int.reduceGE, Int.reduceGT, Int.reduceNeg, kn, onel, len_S, h1]
def sp_vars : List D → Cell → Prop := fun ds c => ∀ l, ds = [dSs l] → c = ⟨false, dTl (l.map tVar)⟩
theorem call_vars {S : Specs} (hS : aget S n_77 = some sp_vars) (l : List Tx) (hl : l.length ≤ 1000) (n : Nat) (σ : Store) : T S (n + 1) n_77 [dSs l] σ = some (.ret ⟨false, dTl (l.map tVar)⟩, σ) := by
  obtain ⟨c, g1, g2⟩ := T_orc (S := S) hS rfl (c := ⟨false, dTl (l.map tVar)⟩) (fun l' e => by
    simp only [List.cons.injEq, and_true] at e
    rw [dSs_inj e]) (vars_pure l hl)
  rw [g2, g1 _ rfl]
def SOw : Specs := [(n_23, sp_Con), (n_66, sp_App)]
theorem pown_pure (d : Da) (l : List Ty) (hf : ∀ a ∈ l, Fine a) (hl : l.length ≤ 1000) : OkP n_62 [dDa d, dTl l] ⟨false, dTy (givenM d.name l)⟩ := by
  refine pure_fun (af := a_87) (n := 1) (σ' := σ0) (T_sound SOw 1) rfl rfl (by simp [noPtrL, noPtr_dDa, noPtr_dTl]) (noPtr_dTy _) ?_
  have h0 := call_Con (S := SOw) rfl d.name 0 σ0
  have h1 := call_App (S := SOw) rfl (tCon d.name) l (fine_con _) hf hl 0 σ0
  unfold givenM
  generalize l.foldl tApp (tCon d.name) = b at h1 ⊢
  generalize tCon d.name = z at h0 h1
  simp only [dTy_eq, cTy_eq] at h0 h1
  simp only [a_87, sA, Nat.reduceAdd, Nat.reduceSub, Nat.reduceMul, Nat.reduceBEq, Nat.reduceLeDiff, Int.reduceBEq, Int.reduceBNe, Int.reduceLE, Int.reduceLT, Int.reduceGE, Int.reduceGT, Int.reduceNeg, kn, dDa_eq, dTy_eq, cTy_eq, onel, h0, h1]
def sp_pown : List D → Cell → Prop := fun ds c => ∀ d l, ds = [dDa d, dTl l] → c = ⟨false, dTy (givenM d.name l)⟩
theorem call_pown {S : Specs} (hS : aget S n_62 = some sp_pown) (d : Da) (l : List Ty) (hf : ∀ a ∈ l, Fine a) (hl : l.length ≤ 1000) (n : Nat) (σ : Store) : T S (n + 1) n_62 [dDa d, dTl l] σ = some (.ret ⟨false, dTy (givenM d.name l)⟩, σ) := by
  obtain ⟨c, g1, g2⟩ := T_orc (S := S) hS rfl (c := ⟨false, dTy (givenM d.name l)⟩) (fun d' l' e => by
    simp only [List.cons.injEq, and_true] at e
    rw [dDa_inj e.1, dTl_inj e.2]) (pown_pure d l hf hl)
  rw [g2, g1 _ _ rfl]
theorem fine_vars (l : List Tx) : ∀ a ∈ l.map tVar, Fine a := fun a ha => by
  obtain ⟨s, _, rfl⟩ := List.mem_map.1 ha
  exact fine_var s
theorem fine_own (d : Da) : Fine (givenM d.name (d.vars.map tVar)) := fine_given _ _ (fine_con _) (fine_vars _)
theorem fine_typ {d : Da} {c : Cn} (hc : FineC c) : Fine (typM d c) := fine_funM _ (fine_own d) _ hc.fs
def STo : Specs := [(n_77, sp_vars), (n_62, sp_pown), (n_79, sp_Fun)]
theorem typeOf_pure (d : Da) (hd : FineD d) (k : Nat) (hk : k < d.cons.length) : OkP n_18 [dDa d, .int .i64 k] ⟨false, dTy (typM d d.cons[k])⟩ := by
  have hc := hd.each _ (List.getElem_mem hk)
  refine pure_fun (af := a_88) (n := 1) (σ' := σ0) (T_sound STo 1) rfl rfl (by simp [noPtrL, noPtr_dDa, noPtr]) (noPtr_dTy _) ?_
  have h0 := call_vars (S := STo) rfl d.vars hd.vars 0 σ0
  have h1 := call_pown (S := STo) rfl d (d.vars.map tVar) (fine_vars _) (by simpa using hd.vars) 0 σ0
  have h2 := call_Fun (S := STo) rfl (givenM d.name (d.vars.map tVar)) d.cons[k].fs (fine_own d) hc.fs hc.few 0 σ0
  have hx := idx_C d.cons k hk
  unfold typM
  generalize funM (givenM d.name (d.vars.map tVar)) d.cons[k].fs = b at h2 ⊢
  generalize givenM d.name (d.vars.map tVar) = a at h1 h2
  generalize d.vars.map tVar = v at h0 h1
  generalize d.cons[k] = x at h2 hx
  simp only [dTy_eq, cTy_eq, dDa_eq] at h0 h1 h2
  simp only [dCn_eq] at hx
  simp only [a_88, sA, Nat.reduceAdd, Nat.reduceSub, Nat.reduceMul, Nat.reduceBEq, Nat.reduceLeDiff, Int.reduceBEq, Int.reduceBNe, Int.reduceLE, Int.reduceLT, Int.reduceGE, Int.reduceGT, Int.reduceNeg, kn, dDa_eq, dTy_eq, cTy_eq, onel, natI, hx, h0, h1, h2]
def sp_typeOf : List D → Cell → Prop := fun ds c => ∀ d (k : Nat) (h : k < d.cons.length), ds = [dDa d, .int .i64 k] → c = ⟨false, dTy (typM d d.cons[k])⟩
theorem call_typeOf {S : Specs} (hS : aget S n_18 = some sp_typeOf) (d : Da) (hd : FineD d) (k : Nat) (hk : k < d.cons.length) (n : Nat) (σ : Store) : T S (n + 1) n_18 [dDa d, .int .i64 k] σ = some (.ret ⟨false, dTy (typM d d.cons[k])⟩, σ) := by
  obtain ⟨c, g1, g2⟩ := T_orc (S := S) hS rfl (c := ⟨false, dTy (typM d d.cons[k])⟩) (fun d' k' h' e => by
    simp only [List.cons.injEq, and_true, D.int.injEq, true_and, Int.natCast_inj] at e
    obtain ⟨e1, rfl⟩ := e
    have := dDa_inj e1
    subst this
    rfl) (typeOf_pure d hd k hk)
  rw [g2, g1 _ _ hk rfl]
end Go.Fu
namespace Go.Fu
open Go Go.Mx
set_option maxRecDepth 10000
section
variable {C : CallF} {n : Nat} {σ : Store}
def Egv (t : Ty) (l : List Ty) (i : Nat) : Env := { slots := [(1, ⟨false, dTl l⟩), (6, ⟨false, .int .i64 i⟩)], locs := [(4, 4, 0), (5, 5, 0)], boxes := [(4, z4), (5, bT ((l.take i).foldl tApp t))], defers := [] }
theorem gv_step (t : Ty) (l : List Ty) (i : Nat) (h : i < l.length) (hl : l.length ≤ 1000) : exec C n none a_49 (Egv t l i) σ = some (.normal, Egv t l (i + 1), σ) := by
  have hi : ((i : Int) < (l.length : Int)) := by omega
  unfold Egv
  rw [foldl_take tApp l t i h]
  have hx := idx_T _ _ h
  generalize (l.take i).foldl tApp t = a
  have e := lst_T a l[i]
  have e1 : (tApp a l[i]).f = 4 := rfl
  have e2 : (tApp a l[i]).n = 0 := rfl
  have e3 : (tApp a l[i]).s = [] := rfl
  have e4 : (tApp a l[i]).as_ = [a, l[i]] := rfl
  generalize l[i] = x at hx e e1 e2 e3 e4 ⊢
  simp only [cTy_eq] at e
  simp only [a_49, bT, e1, e2, e3, e4, z4, sA, Nat.reduceAdd, Nat.reduceSub, Nat.reduceMul, Nat.reduceBEq, Nat.reduceLeDiff, Int.reduceBEq, Int.reduceBNe, Int.reduceLE, Int.reduceLT, Int.reduceGE, Int.reduceGT, Int.reduceNeg, kn, hi, natI, hx, dTy_eq, cTy_eq, onel, len_T, e, wrap64_succ (i := i) (by omega)]
theorem gv_end (t : Ty) (l : List Ty) : exec C n none a_49 (Egv t l l.length) σ = some (.exit 0, { Egv t l l.length with slots := [(1, ⟨false, dTl l⟩), (6, ⟨false, .int .i64 l.length⟩), (12, ⟨false, .bool false⟩)] }, σ) := by
  have hi : ¬ ((l.length : Int) < (l.length : Int)) := by omega
  simp only [a_49, Egv, sA, Nat.reduceAdd, Nat.reduceSub, Nat.reduceMul, Nat.reduceBEq, Nat.reduceLeDiff, Int.reduceBEq, Int.reduceBNe, Int.reduceLE, Int.reduceLT, Int.reduceGE, Int.reduceGT, Int.reduceNeg, kn, hi, len_T]
end
theorem given_pure (s : Tx) (l : List Ty) (hl : l.length ≤ 1000) : OkP n_4 [.str s, dTl l] ⟨false, dTy (givenM s l)⟩ := by
  refine pure_fun (af := a_98) (n := l.length + 1) (σ' := σ0) (T_sound [] 1) rfl rfl (by simp [noPtrL, noPtr, noPtr_dTl]) (noPtr_dTy _) ?_
  have h1 := loopN_run (body := exec (T [] 1) (l.length + 1) none a_49) (Egv (tCon s) l) (fun _ => σ0) l.length (r := _) (fun _ _ h => by cases h) (fun i hi => gv_step (tCon s) l i hi hl) (gv_end (tCon s) l) 0 (l.length + 1) (by omega) (by omega)
  have e1 : (tCon s).f = 3 := rfl
  have e2 : (tCon s).n = 0 := rfl
  have e3 : (tCon s).s = s := rfl
  have e4 : dTl (tCon s).as_ = .nils := rfl
  simp only [Egv, zeroI, List.take_zero, List.foldl_nil, List.take_length, bT, z4] at h1
  simp only [e1, e2, e3, e4] at h1
  unfold givenM
  generalize l.foldl tApp (tCon s) = b at h1 ⊢
  simp only [a_98, sA, Nat.reduceAdd, Nat.reduceSub, Nat.reduceMul, Nat.reduceBEq, Nat.reduceLeDiff, Int.reduceBEq, Int.reduceBNe, Int.reduceLE, Int.reduceLT, Int.reduceGE, Int.reduceGT, Int.reduceNeg, kn, dTy_eq, cTy_eq, onel, len_T, h1]
def sp_given : List D → Cell → Prop := fun ds c => ∀ s l, ds = [.str s, dTl l] → c = ⟨false, dTy (givenM s l)⟩
theorem call_given {S : Specs} (hS : aget S n_4 = some sp_given) (s : Tx) (l : List Ty) (hl : l.length ≤ 1000) (n : Nat) (σ : Store) : T S (n + 1) n_4 [.str s, dTl l] σ = some (.ret ⟨false, dTy (givenM s l)⟩, σ) := by
  obtain ⟨c, g1, g2⟩ := T_orc (S := S) hS rfl (c := ⟨false, dTy (givenM s l)⟩) (fun s' l' e => by
    simp only [List.cons.injEq, D.str.injEq, and_true] at e
    rw [e.1, dTl_inj e.2]) (given_pure s l hl)
  rw [g2, g1 _ _ rfl]
theorem rapp_pure (a b : Ty) : OkP n_63 [dTy a, dTy b] ⟨false, dTy (tApp a b)⟩ := by
  refine pure_fun (af := a_92) (n := 1) (σ' := σ0) (T_sound [] 0) rfl rfl (by simp [noPtrL, noPtr_dTy]) (noPtr_dTy _) ?_
  have e := lst_T a b
  simp only [cTy_eq] at e
  have e2 : dTy (tApp a b) = .agg [.int .i64 4, .int .i64 0, .str [], dTl [a, b]] := dTy_eq _
  rw [e2]
  simp only [a_92, sA, Nat.reduceAdd, Nat.reduceSub, Nat.reduceMul, Nat.reduceBEq, Nat.reduceLeDiff, Int.reduceBEq, Int.reduceBNe, Int.reduceLE, Int.reduceLT, Int.reduceGE, Int.reduceGT, Int.reduceNeg, kn, dTy_eq, cTy_eq, onel, e]
def sp_rapp := spT2 tApp
theorem call_rapp {S : Specs} (hS : aget S n_63 = some sp_rapp) (a b : Ty) (n : Nat) (σ : Store) : T S (n + 1) n_63 [dTy a, dTy b] σ = some (.ret ⟨false, dTy (tApp a b)⟩, σ) := by
  obtain ⟨c, g1, g2⟩ := T_orc (S := S) hS rfl spT2_of (rapp_pure a b)
  rw [g2, g1 _ _ rfl]
def SRa : Specs := [(n_63, sp_rapp)]
theorem rfun_pure (a b : Ty) : OkP n_19 [dTy a, dTy b] ⟨false, dTy (tFun a b)⟩ := by
  refine pure_fun (af := a_91) (n := 1) (σ' := σ0) (T_sound SRa 1) rfl rfl (by simp [noPtrL, noPtr_dTy]) (noPtr_dTy _) ?_
  have h0 := call_rapp (S := SRa) rfl (tCon arrowN) a 0 σ0
  have h1 := call_rapp (S := SRa) rfl (tApp (tCon arrowN) a) b 0 σ0
  have e : dTy (tCon arrowN) = .agg [.int .i64 3, .int .i64 0, .str [45, 62], .nils] := dTy_eq _
  rw [e] at h0
  unfold tFun
  generalize tApp (tApp (tCon arrowN) a) b = y at h1 ⊢
  generalize tApp (tCon arrowN) a = x at h0 h1
  simp only [dTy_eq, cTy_eq] at h0 h1
  simp only [a_91, sA, Nat.reduceAdd, Nat.reduceSub, Nat.reduceMul, Nat.reduceBEq, Nat.reduceLeDiff, Int.reduceBEq, Int.reduceBNe, Int.reduceLE, Int.reduceLT, Int.reduceGE, Int.reduceGT, Int.reduceNeg, kn, dTy_eq, cTy_eq, onel, h0, h1]
def sp_rfun := spT2 tFun
theorem call_rfun {S : Specs} (hS : aget S n_19 = some sp_rfun) (a b : Ty) (n : Nat) (σ : Store) : T S (n + 1) n_19 [dTy a, dTy b] σ = some (.ret ⟨false, dTy (tFun a b)⟩, σ) := by
  obtain ⟨c, g1, g2⟩ := T_orc (S := S) hS rfl spT2_of (rfun_pure a b)
  rw [g2, g1 _ _ rfl]
end Go.Fu
namespace Go.Fu
open Go Go.Mx
set_option maxRecDepth 10000
section
variable {C : CallF} {n : Nat} {σ : Store}
def Eta (d : Da) (k i : Nat) : Env := { slots := [(1, ⟨false, .int .i64 k⟩), (5, ⟨ow i, dTl ((d.vars.take i).map tVar)⟩), (6, ⟨false, .int .i64 i⟩)], locs := [(2, 2, 0), (4, 4, 0)], boxes := [(2, bD d), (4, z4)], defers := [] }
theorem ta_step (d : Da) (k i : Nat) (h : i < d.vars.length) (hl : d.vars.length ≤ 1000) : exec C n none a_46 (Eta d k i) σ = some (.normal, Eta d k (i + 1), σ) := by
  have hi : ((i : Int) < (d.vars.length : Int)) := by omega
  have ha := app_T ((d.vars.take i).map tVar) (tVar d.vars[i]) (ow i) (fun h => ow_ne (fun e => h (by rw [e]; rfl))) (by simp; omega)
  have e : (d.vars.take i).map tVar ++ [tVar d.vars[i]] = (d.vars.take (i + 1)).map tVar := by rw [← take_snoc _ i h, List.map_append]; rfl
  have e2 : dTy (tVar d.vars[i]) = .agg [.int .i64 2, .int .i64 0, .str d.vars[i], .nils] := dTy_eq _
  rw [e, e2] at ha
  simp only [a_46, Eta, bD, sA, Nat.reduceAdd, Nat.reduceSub, Nat.reduceMul, Nat.reduceBEq, Nat.reduceLeDiff, Int.reduceBEq, Int.reduceBNe, Int.reduceLE, Int.reduceLT, Int.reduceGE, Int.reduceGT, Int.reduceNeg, kn, len_S, hi, natI, idx_S _ _ h, onel, ha, wrap64_succ (i := i) (by omega), ow_succ]
theorem ta_end (d : Da) (k : Nat) : exec C n none a_46 (Eta d k d.vars.length) σ = some (.exit 0, { Eta d k d.vars.length with slots := [(1, ⟨false, .int .i64 k⟩), (5, ⟨ow d.vars.length, dTl (d.vars.map tVar)⟩), (6, ⟨false, .int .i64 d.vars.length⟩), (13, ⟨false, .bool false⟩)] }, σ) := by
  have hi : ¬ ((d.vars.length : Int) < (d.vars.length : Int)) := by omega
  simp only [a_46, Eta, bD, sA, Nat.reduceAdd, Nat.reduceSub, Nat.reduceMul, Nat.reduceBEq, Nat.reduceLeDiff, Int.reduceBEq, Int.reduceBNe, Int.reduceLE, Int.reduceLT, Int.reduceGE, Int.reduceGT, Int.reduceNeg, kn, len_S, hi, List.take_length]
def Etb (d : Da) (k : Nat) (t : Ty) (l : List Ty) (i : Nat) : Env := { slots := [(1, ⟨false, .int .i64 k⟩), (8, ⟨false, .int .i64 ((l.length : Int) - 1 - (i : Nat))⟩)], locs := [(2, 2, 0), (4, 4, 0), (7, 7, 0)], boxes := [(2, bD d), (4, z4), (7, bT (funM t (l.drop (l.length - i))))], defers := [] }
theorem tb_step (d : Da) (k : Nat) (c : Cn) (hx : indexD 3 (dCl d.cons) k = some (.eptr (dCn c))) (t : Ty) (i : Nat) (h : i < c.fs.length) (hl : c.fs.length ≤ 1000)
    (h3 : C n_19 [dTy (c.fs[c.fs.length - 1 - i]), dTy (funM t (c.fs.drop (c.fs.length - i)))] σ = some (.ret ⟨false, dTy (funM t (c.fs.drop (c.fs.length - (i + 1))))⟩, σ)) : exec C n none a_47 (Etb d k t c.fs i) σ = some (.normal, Etb d k t c.fs (i + 1), σ) := by
  unfold Etb
  have hy := idx_T c.fs (c.fs.length - 1 - i) (by omega)
  have hz : (c.fs.length : Int) - 1 - (i : Nat) = ((c.fs.length - 1 - i : Nat) : Int) := by omega
  have hp : (0 : Int) ≤ ((c.fs.length - 1 - i : Nat) : Int) := by omega
  have w : IntKind.i64.wrap (((c.fs.length - 1 - i : Nat) : Int) - 1) = (c.fs.length : Int) - 1 - ((i + 1 : Nat) : Int) := by rw [wrap64 (by omega) (by omega)]; omega
  generalize c.fs[c.fs.length - 1 - i]'(by omega) = x at h3 hy
  generalize funM t (c.fs.drop (c.fs.length - (i + 1))) = b at h3 ⊢
  generalize funM t (c.fs.drop (c.fs.length - i)) = a at h3 ⊢
  rw [hz]
  simp only [dTy_eq, cTy_eq] at h3 hy
  simp only [dCn_eq] at hx
  simp only [a_47, bT, bD, z4, sA, Nat.reduceAdd, Nat.reduceSub, Nat.reduceMul, Nat.reduceBEq, Nat.reduceLeDiff, Int.reduceBEq, Int.reduceBNe, Int.reduceLE, Int.reduceLT, Int.reduceGE, Int.reduceGT, Int.reduceNeg, kn, hp, natI, hx, hy, dTy_eq, cTy_eq, onel, h3, w]
theorem tb_end (d : Da) (k : Nat) (t : Ty) (l : List Ty) : exec C n none a_47 (Etb d k t l l.length) σ = some (.exit 2, { Etb d k t l l.length with slots := [(1, ⟨false, .int .i64 k⟩), (8, ⟨false, .int .i64 (-1)⟩), (38, ⟨false, .bool false⟩)] }, σ) := by
  have hz : (l.length : Int) - 1 - (l.length : Nat) = -1 := by omega
  unfold Etb
  rw [hz]
  simp only [a_47, sA, Nat.reduceAdd, Nat.reduceSub, Nat.reduceMul, Nat.reduceBEq, Nat.reduceLeDiff, Int.reduceBEq, Int.reduceBNe, Int.reduceLE, Int.reduceLT, Int.reduceGE, Int.reduceGT, Int.reduceNeg, kn]
end
def STy : Specs := [(n_4, sp_given), (n_19, sp_rfun)]
theorem rtype_pure (d : Da) (hd : FineD d) (k : Nat) (hk : k < d.cons.length) : OkP n_11 [dDa d, .int .i64 k] ⟨false, dTy (typM d d.cons[k])⟩ := by
  have hc := hd.each _ (List.getElem_mem hk)
  have hcf := hc.few
  have hv := hd.vars
  refine pure_fun (af := a_96) (n := 1001) (σ' := σ0) (T_sound STy 1) rfl rfl (by simp [noPtrL, noPtr_dDa, noPtr]) (noPtr_dTy _) ?_
  have h1 := loopN_run (body := exec (T STy 1) 1001 none a_46) (Eta d k) (fun _ => σ0) d.vars.length (r := _) (fun _ _ h => by cases h) (fun i hi => ta_step d k i hi hd.vars) (ta_end d k) 0 1001 (by omega) (by omega)
  have h2 := loopN_run (body := exec (T STy 1) 1001 none a_47) (Etb d k (givenM d.name (d.vars.map tVar)) d.cons[k].fs) (fun _ => σ0) d.cons[k].fs.length (r := _) (fun _ _ h => by cases h) (fun i hi => tb_step d k d.cons[k] (idx_C _ _ hk) _ i hi hc.few (by
    have e : d.cons[k].fs.drop (d.cons[k].fs.length - (i + 1)) = d.cons[k].fs[d.cons[k].fs.length - 1 - i] :: d.cons[k].fs.drop (d.cons[k].fs.length - i) := by
      rw [show d.cons[k].fs.length - (i + 1) = d.cons[k].fs.length - 1 - i by omega, List.drop_eq_getElem_cons (by omega), show d.cons[k].fs.length - 1 - i + 1 = d.cons[k].fs.length - i by omega]
    rw [e]
    exact call_rfun rfl _ _ 0 σ0)) (tb_end d k _ _) 0 1001 (by omega) (by omega)
  have h0 := call_given (S := STy) rfl d.name (d.vars.map tVar) (by simpa using hd.vars) 0 σ0
  have hx := idx_C d.cons k hk
  unfold typM
  have d0 : ∀ l : List Ty, l.drop (l.length - 0) = [] := fun l => by simp
  have d1 : ∀ l : List Ty, l.drop (l.length - l.length) = l := fun l => by simp
  have d2 : ∀ t, funM t [] = t := fun _ => rfl
  have n0 : ((0 : Nat) : Int) = 0 := rfl
  simp only [Eta, bD, z4, zeroI, List.take_zero, List.map_nil, tys0, ow_zero] at h1
  simp only [Etb, bD, bT, z4, d0, d1, d2, n0, Int.sub_zero] at h2
  generalize funM (givenM d.name (d.vars.map tVar)) d.cons[k].fs = b at h2 ⊢
  generalize givenM d.name (d.vars.map tVar) = a at h0 h2
  generalize d.cons[k] = c at h2 hx hcf
  have w : IntKind.i64.wrap ((c.fs.length : Int) - 1) = (c.fs.length : Int) - 1 := wrap64 (by omega) (by omega)
  simp only [dTy_eq, cTy_eq] at h0
  simp only [dCn_eq] at hx
  simp only [a_96, sA, Nat.reduceAdd, Nat.reduceSub, Nat.reduceMul, Nat.reduceBEq, Nat.reduceLeDiff, Int.reduceBEq, Int.reduceBNe, Int.reduceLE, Int.reduceLT, Int.reduceGE, Int.reduceGT, Int.reduceNeg, kn, dDa_eq, dTy_eq, cTy_eq, onel, natI, hx, len_T, h0, h1, h2, w]
def sp_rtype := sp_typeOf
theorem call_rtype {S : Specs} (hS : aget S n_11 = some sp_rtype) (d : Da) (hd : FineD d) (k : Nat) (hk : k < d.cons.length) (n : Nat) (σ : Store) : T S (n + 1) n_11 [dDa d, .int .i64 k] σ = some (.ret ⟨false, dTy (typM d d.cons[k])⟩, σ) := by
  obtain ⟨c, g1, g2⟩ := T_orc (S := S) hS rfl (c := ⟨false, dTy (typM d d.cons[k])⟩) (fun d' k' h' e => by
    simp only [List.cons.injEq, and_true, D.int.injEq, true_and, Int.natCast_inj] at e
    obtain ⟨e1, rfl⟩ := e
    have := dDa_inj e1
    subst this
    rfl) (rtype_pure d hd k hk)
  rw [g2, g1 _ _ hk rfl]
section
variable {C : CallF} {n : Nat} {σ : Store}
def Eeq (t : Ty) (i : Nat) : Env := { slots := [(5, ⟨false, .int .i64 i⟩)], locs := [(2, 2, 0), (3, 3, 0)], boxes := [(2, bT t), (3, bT t)], defers := [] }
theorem eq_step (t : Ty) (ht : Fine t) (i : Nat) (h : i < t.as_.length) (h1 : C n_8 [dTy t.as_[i], dTy t.as_[i]] σ = some (.ret ⟨false, .bool true⟩, σ)) : exec C n none a_39 (Eeq t i) σ = some (.normal, Eeq t (i + 1), σ) := by
  have hf := ht.few
  have hi : ((i : Int) < (t.as_.length : Int)) := by omega
  have hx := idx_T _ _ h
  generalize t.as_[i] = x at hx h1
  simp only [dTy_eq, cTy_eq] at hx h1
  simp only [a_39, Eeq, bT, sA, Nat.reduceAdd, Nat.reduceSub, Nat.reduceMul, Nat.reduceBEq, Nat.reduceLeDiff, Int.reduceBEq, Int.reduceBNe, Int.reduceLE, Int.reduceLT, Int.reduceGE, Int.reduceGT, Int.reduceNeg, kn, len_T, hi, natI, hx, onel, h1, wrap64_succ (i := i) (by omega)]
theorem eq_end (t : Ty) : exec C n none a_39 (Eeq t t.as_.length) σ = some (.exit 0, { Eeq t t.as_.length with slots := [(5, ⟨false, .int .i64 t.as_.length⟩), (39, ⟨false, .bool false⟩)] }, σ) := by
  have hi : ¬ ((t.as_.length : Int) < (t.as_.length : Int)) := by omega
  simp only [a_39, Eeq, bT, sA, Nat.reduceAdd, Nat.reduceSub, Nat.reduceMul, Nat.reduceBEq, Nat.reduceLeDiff, Int.reduceBEq, Int.reduceBNe, Int.reduceLE, Int.reduceLT, Int.reduceGE, Int.reduceGT, Int.reduceNeg, kn, len_T, hi]
end
def sp_equal : List D → Cell → Prop := fun ds c => ∀ t, ds = [dTy t, dTy t] → c = ⟨false, .bool true⟩
theorem equal_pure (t : Ty) (ht : Fine t) : OkP n_8 [dTy t, dTy t] ⟨false, .bool true⟩ := by
  induction ht with
  | @mk f n s l hf hl ih =>
    have ht : Fine (.mk f n s l) := .mk hf hl
    generalize he : Ty.mk f n s l = t at ht
    have hel : l = t.as_ := by rw [← he]; rfl
    subst hel
    refine pure_fun (af := a_90) (n := t.as_.length + 1) (σ' := σ0) (T_sound [(n_8, sp_equal)] 1) rfl rfl (by simp [noPtrL, noPtr_dTy]) rfl ?_
    have h1 := loopN_run (body := exec (T [(n_8, sp_equal)] 1) (t.as_.length + 1) none a_39) (Eeq t) (fun _ => σ0) t.as_.length (r := _) (fun _ _ h => by cases h) (fun i hi => eq_step t ht i hi (by
      obtain ⟨c, g1, g2⟩ := T_orc (S := [(n_8, sp_equal)]) rfl rfl (s := sp_equal) (fun _ _ => rfl) (ih _ (List.getElem_mem hi))
      rw [g2, g1 _ rfl])) (eq_end t) 0 (t.as_.length + 1) (by omega) (by omega)
    simp only [Eeq, bT, zeroI] at h1
    simp only [a_90, sA, Nat.reduceAdd, Nat.reduceSub, Nat.reduceMul, Nat.reduceBEq, Nat.reduceLeDiff, Int.reduceBEq, Int.reduceBNe, Int.reduceLE, Int.reduceLT, Int.reduceGE, Int.reduceGT, Int.reduceNeg, kn, dTy_eq, cTy_eq, onel, len_T, h1, bne_self_eq_false, beq_self_eq_true]
theorem call_equal {S : Specs} (hS : aget S n_8 = some sp_equal) (t : Ty) (ht : Fine t) (n : Nat) (σ : Store) : T S (n + 1) n_8 [dTy t, dTy t] σ = some (.ret ⟨false, .bool true⟩, σ) := by
  obtain ⟨c, g1, g2⟩ := T_orc (S := S) hS rfl (s := sp_equal) (fun _ _ => rfl) (equal_pure t ht)
  rw [g2, g1 _ rfl]
end Go.Fu
namespace Go.Fu
open Go Go.Mx
set_option maxRecDepth 10000
def firstN (q : Nat → Bool) : Nat → Nat → Option Nat
  | 0, _ => none
  | m + 1, j => if q j = true then some j else firstN q m (j + 1)
theorem firstN_lt {q : Nat → Bool} : ∀ {m j i : Nat}, firstN q m j = some i → j ≤ i ∧ i < j + m ∧ q i = true
  | 0, _, _, h => by cases h
  | m + 1, j, i, h => by
    simp only [firstN] at h
    by_cases hq : q j = true
    · rw [if_pos hq] at h
      cases h
      exact ⟨Nat.le_refl _, by omega, hq⟩
    · rw [if_neg hq] at h
      obtain ⟨h1, h2, h3⟩ := firstN_lt h
      exact ⟨by omega, by omega, h3⟩
theorem loopN_first {body : Env → Store → XRes} (E : Nat → Env) (σ : Store) (k : Nat) (q : Nat → Bool) (stop : Nat → AExit × Env × Store) {r : AExit × Env × Store} (hr : ∀ e σ, r ≠ (.normal, e, σ)) (hs : ∀ i e σ, stop i ≠ (.normal, e, σ))
    (hstep : ∀ i, i < k → q i = false → body (E i) σ = some (.normal, E (i + 1), σ)) (hstop : ∀ i, i < k → q i = true → body (E i) σ = some (stop i)) (hend : body (E k) σ = some r) : ∀ (m j n : Nat), j + m = k → m < n → loopN body n (E j) σ = some (match firstN q m j with | some i => stop i | none => r)
  | m, j, 0, _, h2 => by omega
  | 0, j, n + 1, h1, _ => by
    have : j = k := by omega
    subst this
    rw [loopN, hend]
    obtain ⟨x, e', σ'⟩ := r
    cases x with
    | normal => exact absurd rfl (hr e' σ')
    | _ => rfl
  | m + 1, j, n + 1, h1, h2 => by
    rw [loopN]
    simp only [firstN]
    cases hq : q j with
    | true =>
      rw [hstop j (by omega) hq, if_pos rfl]
      have := hs j
      have e0 : (match some j with | some i => stop i | none => r) = stop j := rfl
      rw [e0]
      generalize stop j = z at this ⊢
      obtain ⟨x, e', σ'⟩ := z
      cases x with
      | normal => exact absurd rfl (this e' σ')
      | _ => rfl
    | false =>
      rw [hstep j (by omega) hq, if_neg (by simp)]
      exact loopN_first E σ k q stop hr hs hstep hstop hend m (j + 1) n (by omega) (by omega)
def zDa : Da := ⟨[], 0, [], []⟩
def zCn : Cn := ⟨[], 0, []⟩
theorem conIn_first (s : Tx) : ∀ (l pre : List Cn), firstN (fun j => ((pre ++ l).getD j zCn).name == s) l.length pre.length = conIn s l pre.length
  | [], pre => rfl
  | c :: r, pre => by
    have e : ((pre ++ c :: r).getD pre.length zCn) = c := by simp
    have ih := conIn_first s r (pre ++ [c])
    simp only [List.append_assoc, List.cons_append, List.nil_append, List.length_append, List.length_cons, List.length_nil, Nat.zero_add] at ih
    simp only [List.length_cons, firstN, conIn, e, ih]
    by_cases h : c.name = s
    · rw [if_pos h, if_pos (by simpa using h)]
    · rw [if_neg h, if_neg (by simpa using h)]
theorem conM_first (s : Tx) : ∀ (l pre : List Da), match firstN (fun i => (conIn s ((pre ++ l).getD i zDa).cons 0).isSome) l.length pre.length with
    | none => conM s l = none
    | some i => ∃ k, conIn s ((pre ++ l).getD i zDa).cons 0 = some k ∧ conM s l = some ((pre ++ l).getD i zDa, k)
  | [], pre => rfl
  | d :: r, pre => by
    have e : ((pre ++ d :: r).getD pre.length zDa) = d := by simp
    have ih := conM_first s r (pre ++ [d])
    simp only [List.append_assoc, List.cons_append, List.nil_append, List.length_append, List.length_cons, List.length_nil, Nat.zero_add] at ih
    simp only [List.length_cons, firstN, conM, e]
    cases hc : conIn s d.cons 0 with
    | some k =>
      rw [Option.isSome_some, if_pos rfl]
      exact ⟨k, by rw [e, hc], by rw [e]⟩
    | none =>
      rw [Option.isSome_none, if_neg (by simp)]
      exact ih
theorem dataM_first (s : Tx) : ∀ (l pre : List Da), match firstN (fun i => ((pre ++ l).getD i zDa).name == s) l.length pre.length with
    | none => dataM s l = none
    | some i => dataM s l = some ((pre ++ l).getD i zDa)
  | [], pre => rfl
  | d :: r, pre => by
    have e : ((pre ++ d :: r).getD pre.length zDa) = d := by simp
    have ih := dataM_first s r (pre ++ [d])
    simp only [List.append_assoc, List.cons_append, List.nil_append, List.length_append, List.length_cons, List.length_nil, Nat.zero_add] at ih
    simp only [List.length_cons, firstN, e]
    cases hc : d.name == s with
    | true =>
      rw [if_pos rfl]
      simp only [dataM, List.find?_cons, hc, e]
    | false =>
      rw [if_neg (by simp)]
      simp only [dataM, List.find?_cons, hc]
      exact ih
def conR : Option (Da × Nat) → D
  | none => .tup [dDa zDa, .int .i64 0, .bool false]
  | some p => .tup [dDa p.1, .int .i64 p.2, .bool true]
def dataR : Option Da → D
  | none => .tup [dDa zDa, .bool false]
  | some d => .tup [dDa d, .bool true]
theorem app_Ds (a b : List Da) (o : Bool) (ho : a ≠ [] → o = true) (hl : a.length + b.length < 1000000000) : appendD k_0 96 ⟨o, dDl a⟩ (b.map dDa) = some ⟨true, dDl (a ++ b)⟩ := by
  rw [dDl, append_more (fun h => ho (by simpa using h)) (fun d hd => by obtain ⟨x, _, rfl⟩ := List.mem_map.1 hd; exact ⟨ok_dDa x, cells_dDa x⟩) (by simp [bound]; omega) (by simp [bound]; omega)]
  rw [dDl, List.map_append]
theorem pre3_D : dDl pre3 = .list k_0 [.agg [.str [45, 62], .int .i64 0, .list k_2 [.str [97], .str [98]], .list k_3 [.agg [.nils], .agg [.nils]], .nils], .agg [.str [73, 110, 116], .int .i64 0, .nils, .nils, .nils], .agg [.str [66, 111, 111, 108], .int .i64 0, .nils, .nils, .list k_7 [.agg [.str [70, 97, 108, 115, 101], .int .i64 0, .nils], .agg [.str [84, 114, 117, 101], .int .i64 0, .nils]]]] := rfl
theorem datas_pure (ds : List Da) (hl : ds.length ≤ 1000) : OkP n_20 [dPr ds] ⟨false, dDl (pre3 ++ ds)⟩ := by
  refine OkP.weak (o := true) rfl (pure_fun (af := a_97) (n := 1) (σ' := σ0) (T_sound [] 1) rfl rfl (by simp [noPtrL, noPtr_dPr]) (noPtr_dDl (pre3 ++ ds)) ?_)
  have ha := app_Ds pre3 ds true (fun _ => rfl) (by simp [pre3]; omega)
  rw [pre3_D] at ha
  simp only [a_97, sA, Nat.reduceAdd, Nat.reduceSub, Nat.reduceMul, Nat.reduceBEq, Nat.reduceLeDiff, Int.reduceBEq, Int.reduceBNe, Int.reduceLE, Int.reduceLT, Int.reduceGE, Int.reduceGT, Int.reduceNeg, kn, dPr, onel, asL_D, ha]
def sp_datas : List D → Cell → Prop := fun ds c => ∀ l, ds = [dPr l] → c = ⟨false, dDl (pre3 ++ l)⟩
theorem dPr_inj {a b : List Da} (h : dPr a = dPr b) : a = b := by
  simp only [dPr, D.agg.injEq, List.cons.injEq, and_true] at h
  exact dDl_inj h
theorem call_datas {S : Specs} (hS : aget S n_20 = some sp_datas) (ds : List Da) (hl : ds.length ≤ 1000) (n : Nat) (σ : Store) : T S (n + 1) n_20 [dPr ds] σ = some (.ret ⟨false, dDl (pre3 ++ ds)⟩, σ) := by
  obtain ⟨c, g1, g2⟩ := T_orc (S := S) hS rfl (c := ⟨false, dDl (pre3 ++ ds)⟩) (fun l' e => by
    simp only [List.cons.injEq, and_true] at e
    rw [dPr_inj e]) (datas_pure ds hl)
  rw [g2, g1 _ rfl]
end Go.Fu
