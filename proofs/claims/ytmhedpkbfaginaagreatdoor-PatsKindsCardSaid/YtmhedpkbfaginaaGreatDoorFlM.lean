/-
  A data type's own type, a constructor's type: the program's, the document's.
-/
import Derived.Test.YtmhedpkbfaginaaGreatDoorFlD
set_option maxHeartbeats 4000000
set_option linter.unusedSimpArgs false
set_option linter.unusedVariables false
set_option linter.unusedSectionVars false
namespace Go.Fu
open Go Go.Mx
set_option maxRecDepth 10000
def bD (d : Da) : List Cell := [⟨false, .str d.name⟩, ⟨false, .int .i64 d.pos⟩, ⟨false, dSs d.vars⟩, ⟨false, dKl d.vars.length⟩, ⟨false, dCl d.cons⟩]
theorem dDa_eq (d : Da) : dDa d = .agg [.str d.name, .int .i64 d.pos, dSs d.vars, dKl d.vars.length, dCl d.cons] := rfl
theorem dCn_eq (c : Cn) : dCn c = .agg [.str c.name, .int .i64 c.pos, dTl c.fs] := rfl
structure FineC (c : Cn) : Prop where
  few : c.fs.length ≤ 1000
  fs : ∀ t ∈ c.fs, Fine t
structure FineD (d : Da) : Prop where
  vars : d.vars.length ≤ 1000
  cons : d.cons.length ≤ 1000
  each : ∀ c ∈ d.cons, FineC c
section
variable {C : CallF} {n : Nat} {σ : Store}
def Evs (l : List Tx) (i : Nat) : Env := { slots := [(3, ⟨ow i, dTl ((l.take i).map tVar)⟩), (6, ⟨false, dSs l⟩), (7, ⟨false, .int .i64 l.length⟩), (8, ⟨false, .int .i64 i⟩)], locs := [], boxes := [], defers := [] }
theorem vs_step (l : List Tx) (i : Nat) (h : i < l.length) (hl : l.length ≤ 1000) (h1 : C n_34 [.str l[i]] σ = some (.ret ⟨false, dTy (tVar l[i])⟩, σ)) : exec C n none a_44 (Evs l i) σ = some (.normal, Evs l (i + 1), σ) := by
  have hi : ((i : Int) < (l.length : Int)) := by omega
  have ha := app_T ((l.take i).map tVar) (tVar l[i]) (ow i) (fun h => ow_ne (fun e => h (by rw [e]; rfl))) (by simp; omega)
  have e : (l.take i).map tVar ++ [tVar l[i]] = (l.take (i + 1)).map tVar := by rw [← take_snoc l i h, List.map_append]; rfl
  rw [e] at ha
  simp only [dTy_eq, cTy_eq] at h1 ha
  simp only [a_44, Evs, sA, Nat.reduceAdd, Nat.reduceSub, Nat.reduceMul, Nat.reduceBEq, Nat.reduceLeDiff, Int.reduceBEq, Int.reduceBNe, Int.reduceLE, Int.reduceLT, Int.reduceGE, Int.reduceGT, Int.reduceNeg, kn, hi, natI, idx_S _ _ h, onel, h1, ha, wrap64_succ (i := i) (by omega), ow_succ]
theorem vs_end (l : List Tx) : exec C n none a_44 (Evs l l.length) σ = some (.exit 0, { Evs l l.length with slots := [(3, ⟨ow l.length, dTl (l.map tVar)⟩), (6, ⟨false, dSs l⟩), (7, ⟨false, .int .i64 l.length⟩), (8, ⟨false, .int .i64 l.length⟩), (9, ⟨false, .bool false⟩)] }, σ) := by
  have hi : ¬ ((l.length : Int) < (l.length : Int)) := by omega
  simp only [a_44, Evs, sA, Nat.reduceAdd, Nat.reduceSub, Nat.reduceMul, Nat.reduceBEq, Nat.reduceLeDiff, Int.reduceBEq, Int.reduceBNe, Int.reduceLE, Int.reduceLT, Int.reduceGE, Int.reduceGT, Int.reduceNeg, kn, hi, List.take_length]
end
def SVr : Specs := [(n_34, sp_Var)]
theorem vars_pure (l : List Tx) (hl : l.length ≤ 1000) : OkP n_76 [dSs l] ⟨false, dTl (l.map tVar)⟩ := by
  refine OkP.weak (o := ow l.length) rfl (pure_fun (af := a_106) (n := l.length + 1) (σ' := σ0) (T_sound SVr 1) rfl rfl (by simp [noPtrL, noPtr_dSs]) (noPtr_dTl _) ?_)
  have h1 := loopN_run (body := exec (T SVr 1) (l.length + 1) none a_44) (Evs l) (fun _ => σ0) l.length (r := _) (fun _ _ h => by cases h) (fun i hi => vs_step l i hi hl (call_Var rfl _ 0 σ0)) (vs_end l) 0 (l.length + 1) (by omega) (by omega)
  simp only [Evs, zeroI, List.take_zero, List.map_nil, tys0, ow_zero] at h1
  simp only [a_106, sA, Nat.reduceAdd, Nat.reduceSub, Nat.reduceMul, Nat.reduceBEq, Nat.reduceLeDiff, Int.reduceBEq, Int.reduceBNe, Int.reduceLE, Int.reduceLT, Int.reduceGE, Int.reduceGT, Int.reduceNeg, kn, onel, len_S, h1]
def sp_vars : List D → Cell → Prop := fun ds c => ∀ l, ds = [dSs l] → c = ⟨false, dTl (l.map tVar)⟩
theorem call_vars {S : Specs} (hS : aget S n_76 = some sp_vars) (l : List Tx) (hl : l.length ≤ 1000) (n : Nat) (σ : Store) : T S (n + 1) n_76 [dSs l] σ = some (.ret ⟨false, dTl (l.map tVar)⟩, σ) := by
  obtain ⟨c, g1, g2⟩ := T_orc (S := S) hS rfl (c := ⟨false, dTl (l.map tVar)⟩) (fun l' e => by
    simp only [List.cons.injEq, and_true] at e
    rw [dSs_inj e]) (vars_pure l hl)
  rw [g2, g1 _ rfl]
def SOw : Specs := [(n_26, sp_Con), (n_66, sp_App)]
theorem pown_pure (d : Da) (l : List Ty) (hf : ∀ a ∈ l, Fine a) (hl : l.length ≤ 1000) : OkP n_62 [dDa d, dTl l] ⟨false, dTy (givenM d.name l)⟩ := by
  refine pure_fun (af := a_104) (n := 1) (σ' := σ0) (T_sound SOw 1) rfl rfl (by simp [noPtrL, noPtr_dDa, noPtr_dTl]) (noPtr_dTy _) ?_
  have h0 := call_Con (S := SOw) rfl d.name 0 σ0
  have h1 := call_App (S := SOw) rfl (tCon d.name) l (fine_con _) hf hl 0 σ0
  unfold givenM
  generalize l.foldl tApp (tCon d.name) = b at h1 ⊢
  generalize tCon d.name = z at h0 h1
  simp only [dTy_eq, cTy_eq] at h0 h1
  simp only [a_104, sA, Nat.reduceAdd, Nat.reduceSub, Nat.reduceMul, Nat.reduceBEq, Nat.reduceLeDiff, Int.reduceBEq, Int.reduceBNe, Int.reduceLE, Int.reduceLT, Int.reduceGE, Int.reduceGT, Int.reduceNeg, kn, dDa_eq, dTy_eq, cTy_eq, onel, h0, h1]
def sp_pown : List D → Cell → Prop := fun ds c => ∀ d l, ds = [dDa d, dTl l] → c = ⟨false, dTy (givenM d.name l)⟩
theorem call_pown {S : Specs} (hS : aget S n_62 = some sp_pown) (d : Da) (l : List Ty) (hf : ∀ a ∈ l, Fine a) (hl : l.length ≤ 1000) (n : Nat) (σ : Store) : T S (n + 1) n_62 [dDa d, dTl l] σ = some (.ret ⟨false, dTy (givenM d.name l)⟩, σ) := by
  obtain ⟨c, g1, g2⟩ := T_orc (S := S) hS rfl (c := ⟨false, dTy (givenM d.name l)⟩) (fun d' l' e => by
    simp only [List.cons.injEq, and_true] at e
    rw [dDa_inj e.1, dTl_inj e.2]) (pown_pure d l hf hl)
  rw [g2, g1 _ _ rfl]
theorem fine_vars (l : List Tx) : ∀ a ∈ l.map tVar, Fine a := fun a ha => by
  obtain ⟨s, _, rfl⟩ := List.mem_map.1 ha
  exact fine_var s
theorem fine_own (d : Da) : Fine (givenM d.name (d.vars.map tVar)) := fine_given _ _ (fine_con _) (fine_vars _)
theorem fine_typ {d : Da} {c : Cn} (hc : FineC c) : Fine (typM d c) := fine_funM _ (fine_own d) _ hc.fs
def STo : Specs := [(n_76, sp_vars), (n_62, sp_pown), (n_79, sp_Fun)]
theorem typeOf_pure (d : Da) (hd : FineD d) (k : Nat) (hk : k < d.cons.length) : OkP n_24 [dDa d, .int .i64 k] ⟨false, dTy (typM d d.cons[k])⟩ := by
  have hc := hd.each _ (List.getElem_mem hk)
  refine pure_fun (af := a_105) (n := 1) (σ' := σ0) (T_sound STo 1) rfl rfl (by simp [noPtrL, noPtr_dDa, noPtr]) (noPtr_dTy _) ?_
  have h0 := call_vars (S := STo) rfl d.vars hd.vars 0 σ0
  have h1 := call_pown (S := STo) rfl d (d.vars.map tVar) (fine_vars _) (by simpa using hd.vars) 0 σ0
  have h2 := call_Fun (S := STo) rfl (givenM d.name (d.vars.map tVar)) d.cons[k].fs (fine_own d) hc.fs hc.few 0 σ0
  have hx := idx_C d.cons k hk
  unfold typM
  generalize funM (givenM d.name (d.vars.map tVar)) d.cons[k].fs = b at h2 ⊢
  generalize givenM d.name (d.vars.map tVar) = a at h1 h2
  generalize d.vars.map tVar = v at h0 h1
  generalize d.cons[k] = x at h2 hx
  simp only [dTy_eq, cTy_eq, dDa_eq] at h0 h1 h2
  simp only [dCn_eq] at hx
  simp only [a_105, sA, Nat.reduceAdd, Nat.reduceSub, Nat.reduceMul, Nat.reduceBEq, Nat.reduceLeDiff, Int.reduceBEq, Int.reduceBNe, Int.reduceLE, Int.reduceLT, Int.reduceGE, Int.reduceGT, Int.reduceNeg, kn, dDa_eq, dTy_eq, cTy_eq, onel, natI, hx, h0, h1, h2]
def sp_typeOf : List D → Cell → Prop := fun ds c => ∀ d (k : Nat) (h : k < d.cons.length), ds = [dDa d, .int .i64 k] → c = ⟨false, dTy (typM d d.cons[k])⟩
theorem call_typeOf {S : Specs} (hS : aget S n_24 = some sp_typeOf) (d : Da) (hd : FineD d) (k : Nat) (hk : k < d.cons.length) (n : Nat) (σ : Store) : T S (n + 1) n_24 [dDa d, .int .i64 k] σ = some (.ret ⟨false, dTy (typM d d.cons[k])⟩, σ) := by
  obtain ⟨c, g1, g2⟩ := T_orc (S := S) hS rfl (c := ⟨false, dTy (typM d d.cons[k])⟩) (fun d' k' h' e => by
    simp only [List.cons.injEq, and_true, D.int.injEq, true_and, Int.natCast_inj] at e
    obtain ⟨e1, rfl⟩ := e
    have := dDa_inj e1
    subst this
    rfl) (typeOf_pure d hd k hk)
  rw [g2, g1 _ _ hk rfl]
end Go.Fu
namespace Go.Fu
open Go Go.Mx
set_option maxRecDepth 10000
section
variable {C : CallF} {n : Nat} {σ : Store}
def Egv (t : Ty) (l : List Ty) (i : Nat) : Env := { slots := [(1, ⟨false, dTl l⟩), (6, ⟨false, .int .i64 i⟩)], locs := [(4, 4, 0), (5, 5, 0)], boxes := [(4, z4), (5, bT ((l.take i).foldl tApp t))], defers := [] }
theorem gv_step (t : Ty) (l : List Ty) (i : Nat) (h : i < l.length) (hl : l.length ≤ 1000) : exec C n none a_48 (Egv t l i) σ = some (.normal, Egv t l (i + 1), σ) := by
  have hi : ((i : Int) < (l.length : Int)) := by omega
  unfold Egv
  rw [foldl_take tApp l t i h]
  have hx := idx_T _ _ h
  generalize (l.take i).foldl tApp t = a
  have e := lst_T a l[i]
  have e1 : (tApp a l[i]).f = 4 := rfl
  have e2 : (tApp a l[i]).n = 0 := rfl
  have e3 : (tApp a l[i]).s = [] := rfl
  have e4 : (tApp a l[i]).as_ = [a, l[i]] := rfl
  generalize l[i] = x at hx e e1 e2 e3 e4 ⊢
  simp only [cTy_eq] at e
  simp only [a_48, bT, e1, e2, e3, e4, z4, sA, Nat.reduceAdd, Nat.reduceSub, Nat.reduceMul, Nat.reduceBEq, Nat.reduceLeDiff, Int.reduceBEq, Int.reduceBNe, Int.reduceLE, Int.reduceLT, Int.reduceGE, Int.reduceGT, Int.reduceNeg, kn, hi, natI, hx, dTy_eq, cTy_eq, onel, len_T, e, wrap64_succ (i := i) (by omega)]
theorem gv_end (t : Ty) (l : List Ty) : exec C n none a_48 (Egv t l l.length) σ = some (.exit 0, { Egv t l l.length with slots := [(1, ⟨false, dTl l⟩), (6, ⟨false, .int .i64 l.length⟩), (12, ⟨false, .bool false⟩)] }, σ) := by
  have hi : ¬ ((l.length : Int) < (l.length : Int)) := by omega
  simp only [a_48, Egv, sA, Nat.reduceAdd, Nat.reduceSub, Nat.reduceMul, Nat.reduceBEq, Nat.reduceLeDiff, Int.reduceBEq, Int.reduceBNe, Int.reduceLE, Int.reduceLT, Int.reduceGE, Int.reduceGT, Int.reduceNeg, kn, hi, len_T]
end
theorem given_pure (s : Tx) (l : List Ty) (hl : l.length ≤ 1000) : OkP n_6 [.str s, dTl l] ⟨false, dTy (givenM s l)⟩ := by
  refine pure_fun (af := a_110) (n := l.length + 1) (σ' := σ0) (T_sound [] 1) rfl rfl (by simp [noPtrL, noPtr, noPtr_dTl]) (noPtr_dTy _) ?_
  have h1 := loopN_run (body := exec (T [] 1) (l.length + 1) none a_48) (Egv (tCon s) l) (fun _ => σ0) l.length (r := _) (fun _ _ h => by cases h) (fun i hi => gv_step (tCon s) l i hi hl) (gv_end (tCon s) l) 0 (l.length + 1) (by omega) (by omega)
  have e1 : (tCon s).f = 3 := rfl
  have e2 : (tCon s).n = 0 := rfl
  have e3 : (tCon s).s = s := rfl
  have e4 : dTl (tCon s).as_ = .nils := rfl
  simp only [Egv, zeroI, List.take_zero, List.foldl_nil, List.take_length, bT, z4] at h1
  simp only [e1, e2, e3, e4] at h1
  unfold givenM
  generalize l.foldl tApp (tCon s) = b at h1 ⊢
  simp only [a_110, sA, Nat.reduceAdd, Nat.reduceSub, Nat.reduceMul, Nat.reduceBEq, Nat.reduceLeDiff, Int.reduceBEq, Int.reduceBNe, Int.reduceLE, Int.reduceLT, Int.reduceGE, Int.reduceGT, Int.reduceNeg, kn, dTy_eq, cTy_eq, onel, len_T, h1]
def sp_given : List D → Cell → Prop := fun ds c => ∀ s l, ds = [.str s, dTl l] → c = ⟨false, dTy (givenM s l)⟩
theorem call_given {S : Specs} (hS : aget S n_6 = some sp_given) (s : Tx) (l : List Ty) (hl : l.length ≤ 1000) (n : Nat) (σ : Store) : T S (n + 1) n_6 [.str s, dTl l] σ = some (.ret ⟨false, dTy (givenM s l)⟩, σ) := by
  obtain ⟨c, g1, g2⟩ := T_orc (S := S) hS rfl (c := ⟨false, dTy (givenM s l)⟩) (fun s' l' e => by
    simp only [List.cons.injEq, D.str.injEq, and_true] at e
    rw [e.1, dTl_inj e.2]) (given_pure s l hl)
  rw [g2, g1 _ _ rfl]
theorem rapp_pure (a b : Ty) : OkP n_63 [dTy a, dTy b] ⟨false, dTy (tApp a b)⟩ := by
  refine pure_fun (af := a_108) (n := 1) (σ' := σ0) (T_sound [] 0) rfl rfl (by simp [noPtrL, noPtr_dTy]) (noPtr_dTy _) ?_
  have e := lst_T a b
  simp only [cTy_eq] at e
  have e2 : dTy (tApp a b) = .agg [.int .i64 4, .int .i64 0, .str [], dTl [a, b]] := dTy_eq _
  rw [e2]
  simp only [a_108, sA, Nat.reduceAdd, Nat.reduceSub, Nat.reduceMul, Nat.reduceBEq, Nat.reduceLeDiff, Int.reduceBEq, Int.reduceBNe, Int.reduceLE, Int.reduceLT, Int.reduceGE, Int.reduceGT, Int.reduceNeg, kn, dTy_eq, cTy_eq, onel, e]
def sp_rapp := spT2 tApp
theorem call_rapp {S : Specs} (hS : aget S n_63 = some sp_rapp) (a b : Ty) (n : Nat) (σ : Store) : T S (n + 1) n_63 [dTy a, dTy b] σ = some (.ret ⟨false, dTy (tApp a b)⟩, σ) := by
  obtain ⟨c, g1, g2⟩ := T_orc (S := S) hS rfl spT2_of (rapp_pure a b)
  rw [g2, g1 _ _ rfl]
def SRa : Specs := [(n_63, sp_rapp)]
theorem rfun_pure (a b : Ty) : OkP n_77 [dTy a, dTy b] ⟨false, dTy (tFun a b)⟩ := by
  refine pure_fun (af := a_107) (n := 1) (σ' := σ0) (T_sound SRa 1) rfl rfl (by simp [noPtrL, noPtr_dTy]) (noPtr_dTy _) ?_
  have h0 := call_rapp (S := SRa) rfl (tCon arrowN) a 0 σ0
  have h1 := call_rapp (S := SRa) rfl (tApp (tCon arrowN) a) b 0 σ0
  have e : dTy (tCon arrowN) = .agg [.int .i64 3, .int .i64 0, .str [45, 62], .nils] := dTy_eq _
  rw [e] at h0
  unfold tFun
  generalize tApp (tApp (tCon arrowN) a) b = y at h1 ⊢
  generalize tApp (tCon arrowN) a = x at h0 h1
  simp only [dTy_eq, cTy_eq] at h0 h1
  simp only [a_107, sA, Nat.reduceAdd, Nat.reduceSub, Nat.reduceMul, Nat.reduceBEq, Nat.reduceLeDiff, Int.reduceBEq, Int.reduceBNe, Int.reduceLE, Int.reduceLT, Int.reduceGE, Int.reduceGT, Int.reduceNeg, kn, dTy_eq, cTy_eq, onel, h0, h1]
def sp_rfun := spT2 tFun
theorem call_rfun {S : Specs} (hS : aget S n_77 = some sp_rfun) (a b : Ty) (n : Nat) (σ : Store) : T S (n + 1) n_77 [dTy a, dTy b] σ = some (.ret ⟨false, dTy (tFun a b)⟩, σ) := by
  obtain ⟨c, g1, g2⟩ := T_orc (S := S) hS rfl spT2_of (rfun_pure a b)
  rw [g2, g1 _ _ rfl]
end Go.Fu
namespace Go.Fu
open Go Go.Mx
set_option maxRecDepth 10000
section
variable {C : CallF} {n : Nat} {σ : Store}
end
section
variable {C : CallF} {n : Nat} {σ : Store}
end
end Go.Fu
namespace Go.Fu
open Go Go.Mx
set_option maxRecDepth 10000
def zDa : Da := ⟨[], 0, [], []⟩
def zCn : Cn := ⟨[], 0, []⟩
def conR : Option (Da × Nat) → D
  | none => .tup [dDa zDa, .int .i64 0, .bool false]
  | some p => .tup [dDa p.1, .int .i64 p.2, .bool true]
theorem app_Ds (a b : List Da) (o : Bool) (ho : a ≠ [] → o = true) (hl : a.length + b.length < 1000000000) : appendD k_0 96 ⟨o, dDl a⟩ (b.map dDa) = some ⟨true, dDl (a ++ b)⟩ := by
  rw [dDl, append_more (fun h => ho (by simpa using h)) (fun d hd => by obtain ⟨x, _, rfl⟩ := List.mem_map.1 hd; exact ⟨ok_dDa x, cells_dDa x⟩) (by simp [bound]; omega) (by simp [bound]; omega)]
  rw [dDl, List.map_append]
theorem pre3_D : dDl pre3 = .list k_0 [.agg [.str [45, 62], .int .i64 0, .list k_2 [.str [97], .str [98]], .list k_4 [.agg [.nils], .agg [.nils]], .nils], .agg [.str [73, 110, 116], .int .i64 0, .nils, .nils, .nils], .agg [.str [66, 111, 111, 108], .int .i64 0, .nils, .nils, .list k_8 [.agg [.str [70, 97, 108, 115, 101], .int .i64 0, .nils], .agg [.str [84, 114, 117, 101], .int .i64 0, .nils]]]] := rfl
end Go.Fu
namespace Go.Fu
open Go Go.Mx
set_option maxRecDepth 10000
section
variable {C : CallF} {n : Nat} {σ : Store}
end
def FineL (l : List Da) : Prop := l.length ≤ 1000 ∧ ∀ d ∈ l, FineD d
theorem fine_pre3 : ∀ d ∈ pre3, FineD d := fun d hd => by
  simp only [pre3, List.mem_cons, List.not_mem_nil, or_false] at hd
  rcases hd with rfl | rfl | rfl
  · exact ⟨by simp, by simp, fun c hc => by cases hc⟩
  · exact ⟨by simp, by simp, fun c hc => by cases hc⟩
  · refine ⟨by simp, by simp, fun c hc => ?_⟩
    simp only [List.mem_cons, List.not_mem_nil, or_false] at hc
    rcases hc with rfl | rfl <;> exact ⟨by simp, fun t ht => by cases ht⟩
theorem fine_all3 {l : List Da} (h : FineL l) : (pre3 ++ l).length ≤ 2000 ∧ ∀ d ∈ pre3 ++ l, FineD d := by
  refine ⟨by have := h.1; simp [pre3]; omega, fun d hd => ?_⟩
  rcases List.mem_append.1 hd with hd | hd
  · exact fine_pre3 d hd
  · exact h.2 d hd
end Go.Fu
namespace Go.Fu
open Go Go.Mx
set_option maxRecDepth 10000
def fl {α : Type} : List α → Bool
  | [] => false
  | _ :: _ => true
theorem fl_ne {α : Type} {l : List α} (h : l ≠ []) : fl l = true := by
  cases l with
  | nil => exact absurd rfl h
  | cons x r => rfl
theorem fl_snoc {α : Type} (l : List α) (v : α) : fl (l ++ [v]) = true := by cases l <;> rfl
theorem fieldsD_snoc (d : Da) : ∀ (l : List Cn) (c : Cn) (k : Nat), fieldsD d (l ++ [c]) k = fieldsD d l k ++ [fieldM d (k + l.length) c]
  | [], c, k => rfl
  | x :: r, c, k => by
    simp only [List.cons_append, fieldsD, fieldsD_snoc d r c (k + 1), List.length_cons]
    rw [show k + 1 + r.length = k + (r.length + 1) by omega]
theorem fieldsM_snoc : ∀ (l : List Da) (d : Da), fieldsM (l ++ [d]) = fieldsM l ++ fieldsD d d.cons 0
  | [], d => by simp [fieldsM]
  | x :: r, d => by simp only [List.cons_append, fieldsM, fieldsM_snoc r d, List.append_assoc]
theorem fieldsD_len (d : Da) : ∀ (l : List Cn) (k : Nat), (fieldsD d l k).length = l.length
  | [], _ => rfl
  | c :: r, k => by simp only [fieldsD, List.length_cons, fieldsD_len d r]
theorem fieldsM_len : ∀ (l : List Da), (∀ d ∈ l, d.cons.length ≤ 1000) → (fieldsM l).length ≤ 1000 * l.length
  | [], _ => by simp [fieldsM]
  | d :: r, h => by
    have h1 := h d (by simp)
    have h2 := fieldsM_len r fun x hx => h x (by simp [hx])
    simp only [fieldsM, List.length_append, fieldsD_len, List.length_cons]
    omega
section
variable {C : CallF} {n : Nat} {σ : Store}
end
end Go.Fu
namespace Go.Fu
open Go Go.Mx
set_option maxRecDepth 10000
theorem agS {α : Type} (k : Nat) (v : α) (l : List (Nat × α)) : aget ((k, v) :: l) k = some v := by simp [aget, ifB]
theorem chunks_cells {k : RowK} : ∀ ds : List D, (∀ d ∈ ds, d.cells.length = k.sz ∧ packD k d.cells = d) → chunks k ds.length ((cellsOf ds).map fun c => c.d) = ds
  | [], _ => rfl
  | d :: ds, h => by
    obtain ⟨h1, h2⟩ := h d (by simp)
    have h3 := chunks_cells ds fun x hx => h x (List.mem_cons_of_mem _ hx)
    have e1 : (d.cells.map Cell.of).map (fun c => c.d) = d.cells := by
      rw [List.map_map]
      exact List.map_id'' (fun _ => rfl) _
    simp only [List.length_cons, chunks, cellsOf, List.map_append, e1]
    rw [List.take_left' h1, List.drop_left' h1, h2, h3]
theorem elems_cells {k : RowK} {ds : List D} (h : ∀ d ∈ ds, d.cells.length = k.sz ∧ packD k d.cells = d) : elems k (cellsOf ds) 0 ds.length = ds := by
  simp only [elems, Nat.zero_mul, List.drop_zero]
  exact chunks_cells ds h
theorem freezeL_id {n : Nat} {os : Objs} : ∀ ds : List D, (∀ d ∈ ds, freezeD n d os = some (d, os)) → freezeL (freezeD n) ds os = some (ds, os)
  | [], _ => rfl
  | d :: ds, h => by
    have h1 := h d (by simp)
    have h2 := freezeL_id ds fun x hx => h x (List.mem_cons_of_mem _ hx)
    simp only [freezeL, h1, bindO, caseO_some, h2]
theorem cellsOf_len {z : Nat} : ∀ a : List D, (∀ d ∈ a, d.cells.length = z) → (cellsOf a).length = a.length * z
  | [], _ => by simp [cellsOf]
  | d :: a, h => by
    have h1 := h d (by simp)
    have h2 := cellsOf_len a fun x hx => h x (List.mem_cons_of_mem _ hx)
    simp only [cellsOf, List.length_append, List.length_map, h1, h2, List.length_cons, Nat.succ_mul, Nat.add_comm]
theorem freezeD_arr {n : Nat} {k : RowK} {id off len : Nat} {os : Objs} : freezeD (n + 1) (.arr k id off len) os = bindO (aget os id) fun cs => ifB ((k.ag || k.sz == 1) && decide ((off + len) * k.sz ≤ cs.length)) (bindO (freezeL (freezeD n) (elems k cs off len) (adel1 os id)) fun r => some (.list k r.1, r.2)) none := rfl
theorem freezeD_row {k : RowK} {id n : Nat} {ds : List D} {os os' : Objs} (ho : aget os id = some (cellsOf ds)) (hd : adel1 os id = os') (hk : (k.ag || k.sz == 1) = true) (h : ∀ d ∈ ds, d.cells.length = k.sz ∧ packD k d.cells = d) (hf : ∀ d ∈ ds, freezeD n d os' = some (d, os')) :
    freezeD (n + 1) (.arr k id 0 ds.length) os = some (.list k ds, os') := by
  have hl := cellsOf_len ds fun d hd => (h d hd).1
  have e0 : decide ((0 + ds.length) * k.sz ≤ (cellsOf ds).length) = true := by simp; omega
  simp only [freezeD_arr, ho, bindO, caseO_some, hk, e0, Bool.and_self, ifB, elems_cells h, hd, freezeL_id ds hf]
structure SA (σ : Store) (id : Nat) (l : List Da) (r : Nat) : Prop where
  a : ∃ cs, aget σ.objs id = some (cellsOf (l.map dDa) ++ cs) ∧ cs.length = r
  t : aget σ.tys id = some ⟨k_0.el, k_0.sz⟩
theorem da_len (l : List Da) : (cellsOf (l.map dDa)).length = l.length * 5 := by
  have := cellsOf_len (z := 5) (l.map dDa) fun d hd => by
    obtain ⟨x, _, rfl⟩ := List.mem_map.1 hd
    rfl
  rw [List.length_map] at this
  exact this
theorem da_all (l : List Da) : allSize k_0.sz (l.map dDa) = true := allSize_all fun d hd => by
  obtain ⟨s, _, rfl⟩ := List.mem_map.1 hd
  exact ⟨rfl, rfl⟩
theorem cells_of (l : List Da) : (cellsOf (l.map dDa)).map (fun c => Cell.of c.d) = cellsOf (l.map dDa) := by
  induction l with
  | nil => rfl
  | cons x r ih => rw [List.map_cons, cellsOf, List.map_append, ih]; rfl
theorem cellsOf_app : ∀ (a b : List D), cellsOf (a ++ b) = cellsOf a ++ cellsOf b
  | [], b => rfl
  | x :: r, b => by simp only [List.cons_append, cellsOf, cellsOf_app r b, List.append_assoc]
theorem SA.app {σ : Store} {id r : Nat} {l : List Da} (h : SA σ id l r) (m : List Da) (hl : l.length + m.length < 100000000) : ∃ σ1, appendAD σ k_0 96 (.arr k_0 id 0 l.length) (m.map dDa) = some (.arr k_0 σ.next 0 (l.length + m.length), σ1) ∧ SA σ1 σ.next (l ++ m) 0 := by
  obtain ⟨cs, h1, _⟩ := h.a
  have ek : k_0.same k_0 = true := rfl
  have e0 : decide (l.length * k_0.sz ≤ (cellsOf (l.map dDa) ++ cs).length) = true := by simp [k_145, da_len]
  have e1 : decide ((l.length + m.length) * 96 ≤ bound) = true := decide_eq_true (show (l.length + m.length) * 96 ≤ 1099511627776 by omega)
  have e2 : decide (l.length + m.length ≤ bound) = true := decide_eq_true (show l.length + m.length ≤ 1099511627776 by omega)
  have ht : ((cellsOf (l.map dDa) ++ cs).take (l.length * k_0.sz)).map (fun c => Cell.of c.d) ++ cellsOf (m.map dDa) = cellsOf ((l ++ m).map dDa) := by
    have : (cellsOf (l.map dDa) ++ cs).take (l.length * k_0.sz) = cellsOf (l.map dDa) := by
      rw [show l.length * k_0.sz = (cellsOf (l.map dDa)).length by rw [da_len]; rfl]
      exact List.take_left
    rw [this, cells_of, List.map_append, cellsOf_app]
  refine ⟨newArr { σ with objs := adel1 σ.objs id } k_0 (cellsOf ((l ++ m).map dDa)), ?_, ⟨⟨[], by simp only [newArr, List.append_nil]; exact agS _ _ _, rfl⟩, agS _ _ _⟩⟩
  simp only [appendAD, da_all, ifB_true, h1, h.t, bindO, caseO_some, ek, beq_self_eq_true, List.length_map, e0, e1, e2, Bool.and_self, ht]
def z5D : List D := [.str [], .int .i64 0, .nils, .nils, .nils]
theorem rowOf_len : ∀ n : Nat, (rowOf z5D n).length = n * 5
  | 0 => rfl
  | n + 1 => by simp only [rowOf, z5D, List.map_cons, List.map_nil, List.cons_append, List.nil_append, List.length_cons]; rw [show ([D.str [], D.int .i64 0, .nils, .nils, .nils] : List D) = z5D from rfl, rowOf_len n]; omega
theorem grow_run (S : Specs) (hS : has S n_138 = false) (n k : Nat) (σ : Store) (h0 : 0 < k) (hk : k < 1000000) : T S (n + 1) n_138 [.nils, .int .i64 k] σ = some (.ret ⟨false, .arr k_0 σ.next 0 0⟩, newArr σ k_0 (rowOf z5D k)) := by
  rw [T_fun (af := a_115) hS rfl rfl]
  have g1 : ¬ ((k : Int) < 0) := by omega
  have w1 : IntKind.i64.wrap (0 - 0) = 0 := rfl
  have w2 : IntKind.i64.wrap ((k : Int) - 0) = k := by rw [wrap64 (by omega) (by omega)]; omega
  have b1 : (0 < k) := h0
  have b2 : k * 96 ≤ bound := show k * 96 ≤ 1099511627776 by omega
  have b3 : k ≤ bound := show k ≤ 1099511627776 by omega
  have g2 : ((k : Int) > 0) := by omega
  have hs : sliceD 5 D.nils 0 (some 0) = some .nils := rfl
  have hs2 : sliceD 5 (.arr k_0 σ.next 0 k) 0 (some 0) = some (.arr k_0 σ.next 0 0) := by
    simp only [sliceD_arr, Option.getD_some, k_145]
    simp [ifB]
  simp only [z5D]
  generalize hq : (k : Int) = q at *
  have hq2 : q = .ofNat k := by rw [← hq]; rfl
  simp only [a_115, sA, Nat.reduceAdd, Nat.reduceSub, Nat.reduceMul, Nat.reduceBEq, Nat.reduceLeDiff, Int.reduceBEq, Int.reduceBNe, Int.reduceLE, Int.reduceLT, Int.reduceGE, Int.reduceGT, Int.reduceNeg, kn, g1, w1, w2, g2, zeroI, hs]
  subst hq2
  simp only [sA, Nat.reduceAdd, Nat.reduceSub, Nat.reduceMul, Nat.reduceBEq, Nat.reduceLeDiff, Int.reduceBEq, Int.reduceBNe, Int.reduceLE, Int.reduceLT, Int.reduceGE, Int.reduceGT, Int.reduceNeg, kn, b2, b3, b1, hs2, zeroI]
end Go.Fu
namespace Go.Fu
open Go Go.Mx
set_option maxRecDepth 10000
set_option maxHeartbeats 4000000
def dd (a b : List Da) : D := .list k_15 [dDl a, dDl b]
theorem len_Dl (l : List Da) : lenOf (dDl l) = some l.length := len_map dDa l
theorem listOf_dDl {os : Objs} (l : List Da) : listOf os (dDl l) = some (l.map dDa) := by rw [dDl, listOf_dlist]
theorem frz_dl {n : Nat} {k : RowK} {os : Objs} (l : List D) : freezeD (n + 1) (dlist k l) os = some (dlist k l, os) := by
  cases l <;> rfl
theorem exec_frz {C : CallF} {n : Nat} {ro : Option Nat} {ts : List FTgt} {b : ACode} {e : Env} {σ : Store} : exec C n ro (.frz ts b) e σ = bindO (freezes ts e σ) fun x => exec C n ro b x.1 x.2 := rfl
theorem frz_dDa {n : Nat} (x : Da) (os : Objs) : freezeD (n + 2) (dDa x) os = some (dDa x, os) := by
  have h1 := frz_dl (n := n) (k := k_2) (os := os) (x.vars.map D.str)
  have h2 := frz_dl (n := n) (k := k_4) (os := os) (List.replicate x.vars.length dKi)
  have h3 := frz_dl (n := n) (k := k_8) (os := os) (x.cons.map dCn)
  have e1 : freezeD (n + 1) (.str x.name) os = some (.str x.name, os) := rfl
  have e2 : freezeD (n + 1) (.int .i64 x.pos) os = some (.int .i64 x.pos, os) := rfl
  have e : ∀ ds, freezeD (n + 2) (.agg ds) os = bindO (freezeL (freezeD (n + 1)) ds os) fun r => some (.agg r.1, r.2) := fun _ => rfl
  simp only [dDa, cDa, e, freezeL, dSs, dKl, dCl, h1, h2, h3, e1, e2, bindO, caseO_some]
section
variable {C : CallF} {n : Nat} {σ : Store}
def Ecc0 (a b : List Da) (acc i : Nat) : Env := { slots := [(0, ⟨false, dd a b⟩), (3, ⟨false, .int .i64 acc⟩), (9, ⟨false, dd a b⟩), (10, ⟨false, .int .i64 2⟩), (11, ⟨false, .int .i64 i⟩)], locs := [], boxes := [], defers := [] }
def Ecc1 (a b : List Da) (d : D) (i : Nat) : Env := { slots := [(6, ⟨false, d⟩), (25, ⟨false, dd a b⟩), (26, ⟨false, .int .i64 2⟩), (27, ⟨false, .int .i64 i⟩)], locs := [], boxes := [], defers := [] }
theorem cc0_step (a b x : List Da) (acc i : Nat) (hi : i < 2) (hx : indexD 1 (dd a b) i = some (.eptr (dDl x))) (hl : acc + x.length < 1000000000) : exec C n none a_53 (Ecc0 a b acc i) σ = some (.normal, Ecc0 a b (acc + x.length) (i + 1), σ) := by
  have hlt : ((i : Int) < 2) := by omega
  have w := wrap64_succ (i := i) (by omega)
  have w2 : IntKind.i64.wrap ((acc : Int) + x.length) = ((acc + x.length : Nat) : Int) := by rw [wrap64 (by omega) (by omega)]; omega
  have g : ¬ (((acc + x.length : Nat) : Int) < 0) := by omega
  have h1 := one_dDl x
  have h2 := len_Dl x
  simp only [a_53, Ecc0, sA, Nat.reduceAdd, Nat.reduceSub, Nat.reduceMul, Nat.reduceBEq, Nat.reduceLeDiff, Int.reduceBEq, Int.reduceBNe, Int.reduceLE, Int.reduceLT, Int.reduceGE, Int.reduceGT, Int.reduceNeg, kn, hlt, natI, hx, h1, h2, w, w2, g]
theorem cc0_end (a b : List Da) (acc : Nat) : exec C n none a_53 (Ecc0 a b acc 2) σ = some (.exit 0, { slots := [(0, ⟨false, dd a b⟩), (3, ⟨false, .int .i64 acc⟩), (9, ⟨false, dd a b⟩), (10, ⟨false, .int .i64 2⟩), (11, ⟨false, .int .i64 2⟩), (12, ⟨false, .bool false⟩)], locs := [], boxes := [], defers := [] }, σ) := by
  have hlt : ¬ (((2 : Nat) : Int) < 2) := by omega
  simp only [a_53, Ecc0, sA, Nat.reduceAdd, Nat.reduceSub, Nat.reduceMul, Nat.reduceBEq, Nat.reduceLeDiff, Int.reduceBEq, Int.reduceBNe, Int.reduceLE, Int.reduceLT, Int.reduceGE, Int.reduceGT, Int.reduceNeg, kn, hlt]
  rfl
theorem cc1_step (a b x : List Da) (d d' : D) (σ' : Store) (i : Nat) (hi : i < 2) (hx : indexD 1 (dd a b) i = some (.eptr (dDl x))) (ha : appendAD σ k_0 96 d (x.map dDa) = some (d', σ')) : exec C n none a_54 (Ecc1 a b d i) σ = some (.normal, Ecc1 a b d' (i + 1), σ') := by
  have hlt : ((i : Int) < 2) := by omega
  have w := wrap64_succ (i := i) (by omega)
  have h1 := one_dDl x
  have hli : listOf σ.objs (dDl x) = some (x.map dDa) := listOf_dDl x
  generalize x.map dDa = xs at *
  simp only [a_54, Ecc1, sA, Nat.reduceAdd, Nat.reduceSub, Nat.reduceMul, Nat.reduceBEq, Nat.reduceLeDiff, Int.reduceBEq, Int.reduceBNe, Int.reduceLE, Int.reduceLT, Int.reduceGE, Int.reduceGT, Int.reduceNeg, kn, memE, memOp, hlt, natI, hx, h1, hli, ha, w]
theorem cc1_end (a b : List Da) (d : D) : exec C n none a_54 (Ecc1 a b d 2) σ = some (.exit 2, { slots := [(6, ⟨false, d⟩), (25, ⟨false, dd a b⟩), (26, ⟨false, .int .i64 2⟩), (27, ⟨false, .int .i64 2⟩), (28, ⟨false, .bool false⟩)], locs := [], boxes := [], defers := [] }, σ) := by
  have hlt : ¬ (((2 : Nat) : Int) < 2) := by omega
  simp only [a_54, Ecc1, sA, Nat.reduceAdd, Nat.reduceSub, Nat.reduceMul, Nat.reduceBEq, Nat.reduceLeDiff, Int.reduceBEq, Int.reduceBNe, Int.reduceLE, Int.reduceLT, Int.reduceGE, Int.reduceGT, Int.reduceNeg, kn, hlt]
  rfl
end
theorem call_concat (n0 : Nat) {S : Specs} (hS : has S n_138 = false) (a b : List Da) (h0 : a ≠ []) (hl : a.length + b.length < 1000000) : OkP n_10 [dd a b] ⟨false, dDl (a ++ b)⟩ := by
  have hpos : 0 < a.length := List.length_pos_iff.2 h0
  have x0 : indexD 1 (dd a b) 0 = some (.eptr (dDl a)) := rfl
  have x1 : indexD 1 (dd a b) 1 = some (.eptr (dDl b)) := rfl
  have hlen : lenOf (dd a b) = some 2 := rfl
  have l0 : loopN (exec (T S 1) 3 none a_53) 3 (Ecc0 a b 0 0) σ0 = _ := (loopN_succ (cc0_step a b a 0 0 (by omega) x0 (by omega))).trans ((loopN_succ (cc0_step a b b _ 1 (by omega) x1 (by omega))).trans (loopN_stop (cc0_end a b _)))
  have hg := grow_run S hS 0 (0 + a.length + b.length) σ0 (by omega) (by omega)
  have hn2 : noPtrL [dd a b] = true := by simp [noPtrL, noPtr, dd, noPtr_dDl]
  have z2 : (((2 : Nat) : Int)) = 2 := rfl
  obtain ⟨σ1, e1⟩ : ∃ σ1, σ1 = newArr σ0 k_0 (rowOf z5D (0 + a.length + b.length)) := ⟨_, rfl⟩
  have s0 : SA σ1 0 [] ((0 + a.length + b.length) * 5) := ⟨⟨_, by rw [e1]; exact agS _ _ _, rowOf_len _⟩, by rw [e1]; exact agS _ _ _⟩
  obtain ⟨σ2, g2, s2⟩ := s0.app a (by simp; omega)
  obtain ⟨σ3, g3, s3⟩ := s2.app b (by simp; omega)
  simp only [List.length_nil, Nat.zero_add, List.nil_append] at g2 g3 s3 s2
  rw [← e1] at hg
  have l1 : loopN (exec (T S 1) 3 none a_54) 3 (Ecc1 a b (.arr k_0 0 0 0) 0) σ1 = _ := (loopN_succ (cc1_step a b a _ _ σ2 0 (by omega) x0 g2)).trans ((loopN_succ (cc1_step a b b _ _ σ3 1 (by omega) x1 g3)).trans (loopN_stop (cc1_end a b _)))
  obtain ⟨cs, h3, hc⟩ := s3.a
  have hcs : cs = [] := List.length_eq_zero_iff.1 hc
  subst hcs
  rw [List.append_nil] at h3
  have hfz := freezeD_row (k := k_0) (id := σ2.next) (n := 39) (ds := (a ++ b).map dDa) (os := σ3.objs) (os' := adel1 σ3.objs σ2.next) h3 rfl rfl (fun d hd => by
    obtain ⟨x, _, rfl⟩ := List.mem_map.1 hd
    exact ⟨rfl, rfl⟩) (fun d hd => by
    obtain ⟨x, _, rfl⟩ := List.mem_map.1 hd
    exact frz_dDa x _)
  rw [List.length_map, List.length_append] at hfz
  have hds : dDl (a ++ b) = .list k_0 ((a ++ b).map dDa) := by
    cases a with
    | nil => exact absurd rfl h0
    | cons x r => rfl
  refine pure_fun (af := a_113) (n := 3) (σ' := Store.trunc { σ3 with objs := adel1 σ3.objs σ2.next } 0) (T_sound S 1) rfl rfl hn2 (noPtr_dDl _) ?_
  rw [hds]
  simp only [Nat.zero_add] at l0 hg
  simp only [Ecc0, zeroI] at l0
  simp only [Ecc1, zeroI] at l1
  have hn0 : σ0.next = 0 := rfl
  rw [hn0] at hg
  generalize (a ++ b).map dDa = ab at *
  have hkp : Cell.keeps ⟨false, .arr k_0 σ2.next 0 (a.length + b.length)⟩ = false := rfl
  simp only [a_113, sA, Nat.reduceAdd, Nat.reduceSub, Nat.reduceMul, Nat.reduceBEq, Nat.reduceLeDiff, Int.reduceBEq, Int.reduceBNe, Int.reduceLE, Int.reduceLT, Int.reduceGE, Int.reduceGT, Int.reduceNeg, kn, hlen, z2, l0, zeroI, hg, l1, exec_frz, freezes, freeze1, hfz, hkp]
end Go.Fu
namespace Go.Fu
open Go Go.Mx
set_option maxRecDepth 10000
set_option maxHeartbeats 4000000
theorem star_pure : OkP n_17 [] ⟨false, dKi⟩ := by
  refine pure_fun (af := a_100) (n := 3) (σ' := σ0) (T_sound [] 1) rfl rfl rfl rfl ?_
  simp only [a_100, sA, Nat.reduceAdd, Nat.reduceSub, Nat.reduceMul, Nat.reduceBEq, Nat.reduceLeDiff, Int.reduceBEq, Int.reduceBNe, Int.reduceLE, Int.reduceLT, Int.reduceGE, Int.reduceGT, Int.reduceNeg, kn, onel]
  rfl
def sp_star : List D → Cell → Prop := fun _ c => c = ⟨false, dKi⟩
def SP1 : Specs := [(n_17, sp_star)]
theorem call_star {S : Specs} (hS : aget S n_17 = some sp_star) (n : Nat) (σ : Store) : T S (n + 1) n_17 [] σ = some (.ret ⟨false, dKi⟩, σ) := by
  obtain ⟨c, g1, g2⟩ := T_orc (S := S) hS rfl (s := sp_star) rfl star_pure
  rw [g2, g1]
theorem prelude_pure : OkP n_11 [] ⟨false, dDl pre3⟩ := by
  have h := call_star (S := SP1) rfl 0 σ0
  refine OkP.weak (o := true) rfl ?_
  refine pure_fun (af := a_85) (n := 3) (σ' := σ0) (T_sound SP1 1) rfl rfl rfl (noPtr_dDl pre3) ?_
  rw [dKi] at h
  simp only [a_85, sA, Nat.reduceAdd, Nat.reduceSub, Nat.reduceMul, Nat.reduceBEq, Nat.reduceLeDiff, Int.reduceBEq, Int.reduceBNe, Int.reduceLE, Int.reduceLT, Int.reduceGE, Int.reduceGT, Int.reduceNeg, kn, onel, h, pre3_D]
section
variable {C : CallF} {n : Nat} {σ : Store}
end
end Go.Fu
