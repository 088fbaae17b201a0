/-
  What constructors' types, schemes, fields are: plain functions; of what is made each name stands once.
-/
import Derived.Test.YtmhedpkbfaginaaGreatDoorFlT
set_option maxHeartbeats 4000000
set_option linter.unusedSimpArgs false
set_option linter.unusedVariables false
set_option linter.unusedSectionVars false
set_option linter.defProp false
namespace Go.Fu
open Go Go.Mx
set_option maxRecDepth 10000
def arrowN : Tx := [45, 62]
def tCon (s : Tx) : Ty := .mk 3 0 s []
def tVar (s : Tx) : Ty := .mk 2 0 s []
def tApp (f a : Ty) : Ty := .mk 4 0 [] [f, a]
def tAll (s : Tx) (b : Ty) : Ty := .mk 5 0 s [b]
def tFun (a b : Ty) : Ty := tApp (tApp (tCon arrowN) a) b
def givenM (s : Tx) (l : List Ty) : Ty := l.foldl tApp (tCon s)
def funM (to : Ty) (l : List Ty) : Ty := l.foldr tFun to
def typM (d : Da) (c : Cn) : Ty := funM (givenM d.name (d.vars.map tVar)) c.fs
def pre3 : List Da := [⟨arrowN, 0, [[97], [98]], []⟩, ⟨[73, 110, 116], 0, [], []⟩, ⟨[66, 111, 111, 108], 0, [], [⟨[70, 97, 108, 115, 101], 0, []⟩, ⟨[84, 114, 117, 101], 0, []⟩]⟩]
def conIn (s : Tx) : List Cn → Nat → Option Nat
  | [], _ => none
  | c :: r, k => if c.name = s then some k else conIn s r (k + 1)
def conM (s : Tx) : List Da → Option (Da × Nat)
  | [] => none
  | d :: r => match conIn s d.cons 0 with
    | some k => some (d, k)
    | none => conM s r
def conAt (i : Nat) : List Cn → Nat → List (Tx × Nat × Nat)
  | [], _ => []
  | c :: r, k => (c.name, i, k) :: conAt i r (k + 1)
def conAts : List Da → Nat → List (Tx × Nat × Nat)
  | [], _ => []
  | d :: r, i => conAt i d.cons 0 ++ conAts r (i + 1)
end Go.Fu
namespace Go.Fu
open Go Go.Mx
set_option maxRecDepth 10000
def entM (x : Tx × Nat × Nat) (b : Nat) : D × D × Nat := (.str x.1, .agg [.int .i64 x.2.1, .int .i64 x.2.2], b)
def esOf : List (Tx × Nat × Nat) → Nat → List (D × D × Nat)
  | [], _ => []
  | x :: r, b => entM x b :: esOf r (b + 1)
theorem esOf_snoc : ∀ (l : List (Tx × Nat × Nat)) (x : Tx × Nat × Nat) (b : Nat), esOf (l ++ [x]) b = esOf l b ++ [entM x (b + l.length)]
  | [], x, b => rfl
  | y :: r, x, b => by
    have h : b + 1 + r.length = b + (y :: r).length := by simp only [List.length_cons]; omega
    simp only [List.cons_append, esOf, esOf_snoc r x (b + 1), h]
theorem findM_none (s : Tx) : ∀ (l : List (Tx × Nat × Nat)) (b : Nat), (∀ x ∈ l, x.1 ≠ s) → findM (.str s) (esOf l b) = some none
  | [], _, _ => rfl
  | x :: r, b, h => by
    have h1 : (s == x.1) = false := by simpa using fun e => h x (by simp) e.symm
    simp only [esOf, entM, findM, sameD, h1, bindO, caseO_some, ifB_false, findM_none s r (b + 1) (fun y hy => h y (by simp [hy]))]
    rfl
theorem findM_some (s : Tx) : ∀ (l : List (Tx × Nat × Nat)) (b : Nat) (x : Tx × Nat × Nat), l.find? (fun x => x.1 == s) = some x → ∃ n m, findM (.str s) (esOf l b) = some (some (.agg [.int .i64 x.2.1, .int .i64 x.2.2], n, m))
  | [], _, _, h => by cases h
  | y :: r, b, x, h => by
    rw [List.find?_cons] at h
    cases hy : y.1 == s with
    | true =>
      rw [hy] at h
      cases h
      have h1 : (s == y.1) = true := by rw [eq_of_beq hy]; simp
      refine ⟨b, 0, ?_⟩
      simp only [esOf, entM, findM, sameD, h1, bindO, caseO_some, ifB_true]
    | false =>
      rw [hy] at h
      have h1 : (s == y.1) = false := by
        cases h2 : s == y.1 with
        | false => rfl
        | true => rw [eq_of_beq h2] at hy; simp at hy
      obtain ⟨n, m, hr⟩ := findM_some s r (b + 1) x h
      refine ⟨n, m + 1, ?_⟩
      simp only [esOf, entM, findM, sameD, h1, bindO, caseO_some, ifB_false, hr]
theorem conAt_find (s : Tx) (i : Nat) : ∀ (l : List Cn) (k : Nat), match conIn s l k with
    | none => ∀ x ∈ conAt i l k, x.1 ≠ s
    | some n => (conAt i l k).find? (fun x => x.1 == s) = some (s, i, n)
  | [], _ => by simp [conIn, conAt]
  | c :: r, k => by
    have ih := conAt_find s i r (k + 1)
    simp only [conIn]
    by_cases h : c.name = s
    · rw [if_pos h]
      simp only [conAt, List.find?_cons, h, beq_self_eq_true]
    · rw [if_neg h]
      have h' : (c.name == s) = false := by simpa using h
      cases hc : conIn s r (k + 1) with
      | none =>
        rw [hc] at ih
        intro x hx
        rcases List.mem_cons.1 hx with rfl | hx
        · exact h
        · exact ih x hx
      | some n =>
        rw [hc] at ih
        simp only [conAt, List.find?_cons, h']
        exact ih
theorem conAts_find (s : Tx) : ∀ (l : List Da) (i : Nat), match conM s l with
    | none => ∀ x ∈ conAts l i, x.1 ≠ s
    | some p => ∃ n, l[n]? = some p.1 ∧ (conAts l i).find? (fun x => x.1 == s) = some (s, i + n, p.2)
  | [], _ => by simp [conM, conAts]
  | d :: r, i => by
    have ih := conAts_find s r (i + 1)
    have h1 := conAt_find s i d.cons 0
    simp only [conM]
    cases hc : conIn s d.cons 0 with
    | some k =>
      rw [hc] at h1
      refine ⟨0, rfl, ?_⟩
      simp only [conAts, List.find?_append, h1, Nat.add_zero]
      rfl
    | none =>
      rw [hc] at h1
      have h0 : (conAt i d.cons 0).find? (fun x => x.1 == s) = none := by
        rw [List.find?_eq_none]
        intro x hx e
        exact h1 x hx (eq_of_beq e)
      cases hm : conM s r with
      | none =>
        rw [hm] at ih
        intro x hx
        rcases List.mem_append.1 hx with hx | hx
        · exact h1 x hx
        · exact ih x hx
      | some p =>
        rw [hm] at ih
        obtain ⟨n, e1, e2⟩ := ih
        refine ⟨n + 1, e1, ?_⟩
        simp only [conAts, List.find?_append, h0, Option.none_or, e2]
        congr 3
        omega
/-! ### What is made -/
def nm4 : List Tx := [[76], [80], [81], [84]]
def all3 : List Tx := [[97], [98], [99]]
def nms (i c : Nat) : List Tx := (all3.take c).map fun s => nm4.getD i [] ++ s
structure MadeD (i : Nat) (d : Da) : Prop where
  name : d.name = nm4.getD i []
  vars : d.vars.length ≤ 3
  few : d.cons.length ≤ 3
  cons : d.cons.map Cn.name = nms i d.cons.length
  short : ∀ c ∈ d.cons, c.fs.length ≤ 2
def MadeP (ds : List Da) : Prop := ds.length ≤ 4 ∧ ∀ i d, ds[i]? = some d → MadeD i d
end Go.Fu
namespace Go.Fu
open Go Go.Mx
set_option maxRecDepth 10000
set_option linter.defProp false in
def kn := (And.intro (And.intro (And.intro (And.intro (And.intro k_251 (And.intro k_249 k_250)) (And.intro k_254 (And.intro k_252 k_253))) (And.intro (And.intro k_257 (And.intro k_255 k_256)) (And.intro k_143 (And.intro k_258 k_259)))) (And.intro (And.intro (And.intro k_262 (And.intro k_260 k_261)) (And.intro k_265 (And.intro k_263 k_264))) (And.intro (And.intro k_268 (And.intro k_266 k_267)) (And.intro k_271 (And.intro k_269 k_270))))) (And.intro (And.intro (And.intro (And.intro k_274 (And.intro k_272 k_273)) (And.intro k_277 (And.intro k_275 k_276))) (And.intro (And.intro k_280 (And.intro k_278 k_279)) (And.intro k_283 (And.intro k_281 k_282)))) (And.intro (And.intro (And.intro k_286 (And.intro k_284 k_285)) (And.intro k_289 (And.intro k_287 k_288))) (And.intro (And.intro @nat0 (And.intro @nat1 @nat2)) (And.intro (And.intro @nat3 @nat4) (And.intro @nat5 @idxL))))))
theorem one_dTl (l : List Ty) : (dTl l).one = true := one_dl _ _
theorem one_dSs (l : List Tx) : (dSs l).one = true := one_dl _ _
theorem one_dCl (l : List Cn) : (dCl l).one = true := one_dl _ _
theorem one_dDl (l : List Da) : (dDl l).one = true := one_dl _ _
theorem one_dFl (l : List Fi) : (dFl l).one = true := one_dl _ _
theorem one_dKl (n : Nat) : (dKl n).one = true := one_dl _ _
theorem ok_dTl (l : List Ty) : (dTl l).ok = true := ok_dlist
theorem cells_dTl (l : List Ty) : (dTl l).cells = [dTl l] := cells_dlist
theorem ok_dSs (l : List Tx) : (dSs l).ok = true := ok_dlist
theorem cells_dSs (l : List Tx) : (dSs l).cells = [dSs l] := cells_dlist
theorem ok_dCl (l : List Cn) : (dCl l).ok = true := ok_dlist
theorem cells_dCl (l : List Cn) : (dCl l).cells = [dCl l] := cells_dlist
theorem ok_dDl (l : List Da) : (dDl l).ok = true := ok_dlist
theorem cells_dDl (l : List Da) : (dDl l).cells = [dDl l] := cells_dlist
theorem ok_dFl (l : List Fi) : (dFl l).ok = true := ok_dlist
theorem cells_dFl (l : List Fi) : (dFl l).cells = [dFl l] := cells_dlist
theorem ok_dKl (n : Nat) : (dKl n).ok = true := ok_dlist
theorem cells_dKl (n : Nat) : (dKl n).cells = [dKl n] := cells_dlist
theorem partN (cs : List D) (o : Nat) : Mx.part none cs o = nth cs o := rfl
set_option linter.defProp false in
def onel := And.intro @partN (And.intro (And.intro (And.intro (And.intro @one_dTl @ok_dTl) (And.intro @cells_dTl @one_dSs)) (And.intro (And.intro @ok_dSs @cells_dSs) (And.intro @one_dCl (And.intro @ok_dCl @cells_dCl)))) (And.intro (And.intro (And.intro @one_dDl @ok_dDl) (And.intro @cells_dDl @one_dFl)) (And.intro (And.intro @ok_dFl @cells_dFl) (And.intro @one_dKl (And.intro @ok_dKl @cells_dKl)))))
theorem len_T (l : List Ty) : lenOf (dTl l) = some l.length := len_map _ l
theorem len_S (l : List Tx) : lenOf (dSs l) = some l.length := len_map _ l
theorem len_C (l : List Cn) : lenOf (dCl l) = some l.length := len_map _ l
theorem len_D (l : List Da) : lenOf (dDl l) = some l.length := len_map _ l
theorem idx_T (l : List Ty) (i : Nat) (h : i < l.length) : indexD 4 (dTl l) i = some (.eptr (dTy l[i])) := idx_map rfl _ _ _ h
theorem idx_S (l : List Tx) (i : Nat) (h : i < l.length) : indexD 1 (dSs l) i = some (.eptr (.str l[i])) := idx_map rfl _ _ _ h
theorem idx_C (l : List Cn) (i : Nat) (h : i < l.length) : indexD 3 (dCl l) i = some (.eptr (dCn l[i])) := idx_map rfl _ _ _ h
theorem idx_D (l : List Da) (i : Nat) (h : i < l.length) : indexD 5 (dDl l) i = some (.eptr (dDa l[i])) := idx_map rfl _ _ _ h
theorem app_T (l : List Ty) (v : Ty) (o : Bool) (ho : l ≠ [] → o = true) (hl : l.length < 1000000000) : appendD k_0 56 ⟨o, dTl l⟩ [dTy v] = some ⟨true, dTl (l ++ [v])⟩ := append_map ok_dTy cells_dTy (by omega) l v o ho hl
theorem asL_D (l : List Da) : asList (dDl l) = some (l.map dDa) := by cases l <;> rfl
theorem getD_eq {α : Type} (l : List α) (i : Nat) (d : α) (h : i < l.length) : l.getD i d = l[i] := by simp [List.getD_eq_getElem?_getD, List.getElem?_eq_getElem h]
inductive Fine : Ty → Prop where
  | mk {f n : Int} {s : Tx} {l : List Ty} (h : l.length ≤ 1000) (hl : ∀ a ∈ l, Fine a) : Fine (.mk f n s l)
theorem Fine.few {t : Ty} (h : Fine t) : t.as_.length ≤ 1000 := by cases h; assumption
theorem Fine.sub {t : Ty} (h : Fine t) : ∀ a ∈ t.as_, Fine a := by cases h; assumption
theorem fine_con (s : Tx) : Fine (tCon s) := .mk (by simp) (fun _ h => by cases h)
theorem fine_var (s : Tx) : Fine (tVar s) := .mk (by simp) (fun _ h => by cases h)
theorem fine_app {f a : Ty} (hf : Fine f) (ha : Fine a) : Fine (tApp f a) := .mk (by simp) (fun x h => by
  simp only [List.mem_cons, List.not_mem_nil, or_false] at h
  rcases h with rfl | rfl
  · exact hf
  · exact ha)
end Go.Fu
namespace Go.Fu
open Go Go.Mx
set_option maxRecDepth 10000
def bT (t : Ty) : List Cell := [⟨false, .int .i64 t.f⟩, ⟨false, .int .i64 t.n⟩, ⟨false, .str t.s⟩, ⟨false, dTl t.as_⟩]
theorem cTy_eq (t : Ty) : cTy t = [.int .i64 t.f, .int .i64 t.n, .str t.s, dTl t.as_] := rfl
theorem tys0 : dTl [] = .nils := rfl
def spT1 (g : Ty → Ty) : List D → Cell → Prop := fun ds c => ∀ t, ds = [dTy t] → c = ⟨false, dTy (g t)⟩
def sp_own : List D → Cell → Prop := spT1 fun t => t
theorem spT1_of {g : Ty → Ty} {t : Ty} : spT1 g [dTy t] ⟨false, dTy (g t)⟩ := fun t' e => by
  simp only [List.cons.injEq, and_true] at e
  rw [dTy_inj e]
section
variable {C : CallF} {n : Nat} {σ : Store}
def Eow (t : Ty) (i : Nat) : Env := { slots := [(3, ⟨ow i, dTl (t.as_.take i)⟩), (7, ⟨false, dTl t.as_⟩), (8, ⟨false, .int .i64 t.as_.length⟩), (9, ⟨false, .int .i64 i⟩)], locs := [(1, 1, 0), (2, 2, 0)], boxes := [(1, bT t), (2, [⟨false, .int .i64 0⟩, ⟨false, .int .i64 0⟩, ⟨false, .str []⟩, ⟨false, .nils⟩])], defers := [] }
theorem ow_step (t : Ty) (ht : Fine t) (i : Nat) (h : i < t.as_.length) (hc : C n_7 [dTy t.as_[i]] σ = some (.ret ⟨false, dTy t.as_[i]⟩, σ)) : exec C n none a_80 (Eow t i) σ = some (.normal, Eow t (i + 1), σ) := by
  have hf := ht.few
  have hi : ((i : Int) < (t.as_.length : Int)) := by omega
  have ha := app_T (t.as_.take i) t.as_[i] (ow i) ow_ne (by simp; omega)
  rw [take_snoc _ _ h] at ha
  simp only [dTy_eq, cTy_eq] at hc ha
  simp only [a_80, Eow, bT, sA, Nat.reduceAdd, Nat.reduceSub, Nat.reduceMul, Nat.reduceBEq, Nat.reduceLeDiff, Int.reduceBEq, Int.reduceBNe, Int.reduceLE, Int.reduceLT, Int.reduceGE, Int.reduceGT, Int.reduceNeg, kn, hi, natI, idx_T _ _ h, dTy_eq, cTy_eq, onel, hc, ha, wrap64_succ (i := i) (by omega), ow_succ]
theorem ow_end (t : Ty) : exec C n none a_80 (Eow t t.as_.length) σ = some (.exit 0, { Eow t t.as_.length with slots := [(3, ⟨ow t.as_.length, dTl t.as_⟩), (7, ⟨false, dTl t.as_⟩), (8, ⟨false, .int .i64 t.as_.length⟩), (9, ⟨false, .int .i64 t.as_.length⟩), (10, ⟨false, .bool false⟩)] }, σ) := by
  have hi : ¬ ((t.as_.length : Int) < (t.as_.length : Int)) := by omega
  simp only [a_80, Eow, bT, sA, Nat.reduceAdd, Nat.reduceSub, Nat.reduceMul, Nat.reduceBEq, Nat.reduceLeDiff, Int.reduceBEq, Int.reduceBNe, Int.reduceLE, Int.reduceLT, Int.reduceGE, Int.reduceGT, Int.reduceNeg, kn, hi, List.take_length]
end
theorem own_pure (t : Ty) (ht : Fine t) : OkP n_7 [dTy t] ⟨false, dTy t⟩ := by
  induction ht with
  | @mk f n s l hf hl ih =>
    have ht : Fine (.mk f n s l) := .mk hf hl
    generalize he : Ty.mk f n s l = t at ht
    have hel : l = t.as_ := by rw [← he]; rfl
    subst hel
    refine pure_fun (af := a_129) (n := t.as_.length + 1) (σ' := σ0) (T_sound [(n_7, sp_own)] 1) rfl rfl (by simp [noPtrL, noPtr_dTy]) (noPtr_dTy _) ?_
    have h1 := loopN_run (body := exec (T [(n_7, sp_own)] 1) (t.as_.length + 1) none a_80) (Eow t) (fun _ => σ0) t.as_.length (r := _) (fun _ _ h => by cases h) (fun i hi => ow_step t ht i hi (by
      obtain ⟨c, g1, g2⟩ := T_orc (S := [(n_7, sp_own)]) rfl rfl (s := sp_own) (spT1_of (g := fun t => t)) (ih _ (List.getElem_mem hi))
      rw [g2, g1 _ rfl])) (ow_end t) 0 (t.as_.length + 1) (by omega) (by omega)
    simp only [Eow, bT, zeroI, List.take_zero, tys0, ow_zero] at h1
    simp only [a_129, sA, Nat.reduceAdd, Nat.reduceSub, Nat.reduceMul, Nat.reduceBEq, Nat.reduceLeDiff, Int.reduceBEq, Int.reduceBNe, Int.reduceLE, Int.reduceLT, Int.reduceGE, Int.reduceGT, Int.reduceNeg, kn, dTy_eq, cTy_eq, onel, len_T, h1]
theorem call_own {S : Specs} (hS : aget S n_7 = some sp_own) (t : Ty) (ht : Fine t) (n : Nat) (σ : Store) : T S (n + 1) n_7 [dTy t] σ = some (.ret ⟨false, dTy t⟩, σ) := by
  obtain ⟨c, g1, g2⟩ := T_orc (S := S) hS rfl (spT1_of (g := fun t => t)) (own_pure t ht)
  rw [g2, g1 _ rfl]
def spT2 (g : Ty → Ty → Ty) : List D → Cell → Prop := fun ds c => ∀ a b, ds = [dTy a, dTy b] → c = ⟨false, dTy (g a b)⟩
theorem spT2_of {g : Ty → Ty → Ty} {a b : Ty} : spT2 g [dTy a, dTy b] ⟨false, dTy (g a b)⟩ := fun a' b' e => by
  simp only [List.cons.injEq, and_true] at e
  rw [dTy_inj e.1, dTy_inj e.2]
theorem lst_T (a b : Ty) : (D.list k_0 [D.agg (cTy a), D.agg (cTy b)]) = dTl [a, b] := by rw [← dTy_eq, ← dTy_eq]; rfl
theorem lst1_T (a : Ty) : (D.list k_0 [D.agg (cTy a)]) = dTl [a] := by rw [← dTy_eq]; rfl
theorem apply_pure (a b : Ty) : OkP n_41 [dTy a, dTy b] ⟨false, dTy (tApp a b)⟩ := by
  refine pure_fun (af := a_128) (n := 1) (σ' := σ0) (T_sound [] 0) rfl rfl (by simp [noPtrL, noPtr_dTy]) (noPtr_dTy _) ?_
  have e := lst_T a b
  simp only [cTy_eq] at e
  have e2 : dTy (tApp a b) = .agg [.int .i64 4, .int .i64 0, .str [], dTl [a, b]] := dTy_eq _
  rw [e2]
  simp only [a_128, sA, Nat.reduceAdd, Nat.reduceSub, Nat.reduceMul, Nat.reduceBEq, Nat.reduceLeDiff, Int.reduceBEq, Int.reduceBNe, Int.reduceLE, Int.reduceLT, Int.reduceGE, Int.reduceGT, Int.reduceNeg, kn, dTy_eq, cTy_eq, onel, e]
def sp_apply := spT2 tApp
theorem call_apply {S : Specs} (hS : aget S n_41 = some sp_apply) (a b : Ty) (n : Nat) (σ : Store) : T S (n + 1) n_41 [dTy a, dTy b] σ = some (.ret ⟨false, dTy (tApp a b)⟩, σ) := by
  obtain ⟨c, g1, g2⟩ := T_orc (S := S) hS rfl spT2_of (apply_pure a b)
  rw [g2, g1 _ _ rfl]
def spX (g : Tx → Ty) : List D → Cell → Prop := fun ds c => ∀ s, ds = [.str s] → c = ⟨false, dTy (g s)⟩
theorem spX_of {g : Tx → Ty} {s : Tx} : spX g [.str s] ⟨false, dTy (g s)⟩ := fun s' e => by
  simp only [List.cons.injEq, D.str.injEq, and_true] at e
  rw [e]
theorem con_pure (s : Tx) : OkP n_29 [.str s] ⟨false, dTy (tCon s)⟩ := by
  refine pure_fun (af := a_126) (n := 1) (σ' := σ0) (T_sound [] 0) rfl rfl rfl (noPtr_dTy _) ?_
  have e2 : dTy (tCon s) = .agg [.int .i64 3, .int .i64 0, .str s, .nils] := dTy_eq _
  rw [e2]
  simp only [a_126, sA, Nat.reduceAdd, Nat.reduceSub, Nat.reduceMul, Nat.reduceBEq, Nat.reduceLeDiff, Int.reduceBEq, Int.reduceBNe, Int.reduceLE, Int.reduceLT, Int.reduceGE, Int.reduceGT, Int.reduceNeg, kn]
def sp_Con := spX tCon
theorem call_Con {S : Specs} (hS : aget S n_29 = some sp_Con) (s : Tx) (n : Nat) (σ : Store) : T S (n + 1) n_29 [.str s] σ = some (.ret ⟨false, dTy (tCon s)⟩, σ) := by
  obtain ⟨c, g1, g2⟩ := T_orc (S := S) hS rfl spX_of (con_pure s)
  rw [g2, g1 _ rfl]
end Go.Fu
namespace Go.Fu
open Go Go.Mx
set_option maxRecDepth 10000
def z4 : List Cell := [⟨false, .int .i64 0⟩, ⟨false, .int .i64 0⟩, ⟨false, .str []⟩, ⟨false, .nils⟩]
def spTL (g : Ty → List Ty → Ty) : List D → Cell → Prop := fun ds c => ∀ t l, ds = [dTy t, dTl l] → c = ⟨false, dTy (g t l)⟩
theorem spTL_of {g : Ty → List Ty → Ty} {t : Ty} {l : List Ty} : spTL g [dTy t, dTl l] ⟨false, dTy (g t l)⟩ := fun t' l' e => by
  simp only [List.cons.injEq, and_true] at e
  rw [dTy_inj e.1, dTl_inj e.2]
theorem foldl_take {α β : Type} (f : β → α → β) (l : List α) (x : β) (i : Nat) (h : i < l.length) : (l.take (i + 1)).foldl f x = f ((l.take i).foldl f x) l[i] := by
  rw [← take_snoc l i h, List.foldl_append]
  rfl
section
variable {C : CallF} {n : Nat} {σ : Store}
def Eap (t : Ty) (l : List Ty) (i : Nat) : Env := { slots := [(10, ⟨false, dTl l⟩), (11, ⟨false, .int .i64 l.length⟩), (12, ⟨false, .int .i64 i⟩)], locs := [(4, 4, 0), (5, 5, 0)], boxes := [(4, z4), (5, bT ((l.take i).foldl tApp t))], defers := [] }
theorem ap_step (t : Ty) (l : List Ty) (i : Nat) (h : i < l.length) (hl : l.length ≤ 1000) (h1 : C n_7 [dTy l[i]] σ = some (.ret ⟨false, dTy l[i]⟩, σ))
    (h2 : C n_41 [dTy ((l.take i).foldl tApp t), dTy l[i]] σ = some (.ret ⟨false, dTy ((l.take (i + 1)).foldl tApp t)⟩, σ)) : exec C n none a_79 (Eap t l i) σ = some (.normal, Eap t l (i + 1), σ) := by
  have hi : ((i : Int) < (l.length : Int)) := by omega
  unfold Eap
  generalize (l.take (i + 1)).foldl tApp t = b at h2 ⊢
  generalize (l.take i).foldl tApp t = a at h2 ⊢
  simp only [dTy_eq, cTy_eq] at h1 h2
  simp only [a_79, bT, z4, sA, Nat.reduceAdd, Nat.reduceSub, Nat.reduceMul, Nat.reduceBEq, Nat.reduceLeDiff, Int.reduceBEq, Int.reduceBNe, Int.reduceLE, Int.reduceLT, Int.reduceGE, Int.reduceGT, Int.reduceNeg, kn, hi, natI, idx_T _ _ h, dTy_eq, cTy_eq, onel, h1, h2, wrap64_succ (i := i) (by omega)]
theorem ap_end (t : Ty) (l : List Ty) : exec C n none a_79 (Eap t l l.length) σ = some (.exit 0, { Eap t l l.length with slots := [(10, ⟨false, dTl l⟩), (11, ⟨false, .int .i64 l.length⟩), (12, ⟨false, .int .i64 l.length⟩), (13, ⟨false, .bool false⟩)] }, σ) := by
  have hi : ¬ ((l.length : Int) < (l.length : Int)) := by omega
  simp only [a_79, Eap, sA, Nat.reduceAdd, Nat.reduceSub, Nat.reduceMul, Nat.reduceBEq, Nat.reduceLeDiff, Int.reduceBEq, Int.reduceBNe, Int.reduceLE, Int.reduceLT, Int.reduceGE, Int.reduceGT, Int.reduceNeg, kn, hi]
end
def SAp : Specs := [(n_7, sp_own), (n_41, sp_apply), (n_29, sp_Con)]
theorem app_pure (t : Ty) (l : List Ty) (ht : Fine t) (hf : ∀ a ∈ l, Fine a) (hl : l.length ≤ 1000) : OkP n_40 [dTy t, dTl l] ⟨false, dTy (l.foldl tApp t)⟩ := by
  refine pure_fun (af := a_125) (n := l.length + 1) (σ' := σ0) (T_sound SAp 1) rfl rfl (by simp [noPtrL, noPtr_dTy, noPtr_dTl]) (noPtr_dTy _) ?_
  have h1 := loopN_run (body := exec (T SAp 1) (l.length + 1) none a_79) (Eap t l) (fun _ => σ0) l.length (r := _) (fun _ _ h => by cases h) (fun i hi => ap_step t l i hi hl (call_own rfl _ (hf _ (List.getElem_mem hi)) 0 σ0) (by
    rw [foldl_take tApp l t i hi]
    exact call_apply rfl _ _ 0 σ0)) (ap_end t l) 0 (l.length + 1) (by omega) (by omega)
  have h0 := call_own (S := SAp) rfl t ht 0 σ0
  simp only [Eap, bT, z4, zeroI, List.take_zero, List.foldl_nil, List.take_length] at h1
  generalize l.foldl tApp t = b at h1 ⊢
  simp only [dTy_eq, cTy_eq] at h0
  simp only [a_125, sA, Nat.reduceAdd, Nat.reduceSub, Nat.reduceMul, Nat.reduceBEq, Nat.reduceLeDiff, Int.reduceBEq, Int.reduceBNe, Int.reduceLE, Int.reduceLT, Int.reduceGE, Int.reduceGT, Int.reduceNeg, kn, dTy_eq, cTy_eq, onel, len_T, h0, h1]
def sp_App := spTL fun t l => l.foldl tApp t
theorem call_App {S : Specs} (hS : aget S n_40 = some sp_App) (t : Ty) (l : List Ty) (ht : Fine t) (hf : ∀ a ∈ l, Fine a) (hl : l.length ≤ 1000) (n : Nat) (σ : Store) : T S (n + 1) n_40 [dTy t, dTl l] σ = some (.ret ⟨false, dTy (l.foldl tApp t)⟩, σ) := by
  obtain ⟨c, g1, g2⟩ := T_orc (S := S) hS rfl (spTL_of (g := fun t l => l.foldl tApp t)) (app_pure t l ht hf hl)
  rw [g2, g1 _ _ rfl]
def sp_All : List D → Cell → Prop := fun ds c => ∀ s t, ds = [.str s, dTy t] → c = ⟨false, dTy (tAll s t)⟩
end Go.Fu
namespace Go.Fu
open Go Go.Mx
set_option maxRecDepth 10000
def bD (d : Da) : List Cell := [⟨false, .str d.name⟩, ⟨false, .int .i64 d.pos⟩, ⟨false, dSs d.vars⟩, ⟨false, dKl d.vars.length⟩, ⟨false, dCl d.cons⟩]
theorem dDa_eq (d : Da) : dDa d = .agg [.str d.name, .int .i64 d.pos, dSs d.vars, dKl d.vars.length, dCl d.cons] := rfl
theorem dCn_eq (c : Cn) : dCn c = .agg [.str c.name, .int .i64 c.pos, dTl c.fs] := rfl
structure FineC (c : Cn) : Prop where
  few : c.fs.length ≤ 1000
  fs : ∀ t ∈ c.fs, Fine t
structure FineD (d : Da) : Prop where
  vars : d.vars.length ≤ 1000
  cons : d.cons.length ≤ 1000
  each : ∀ c ∈ d.cons, FineC c
section
variable {C : CallF} {n : Nat} {σ : Store}
end
def SOw : Specs := [(n_29, sp_Con), (n_40, sp_App)]
theorem pown_pure (d : Da) (l : List Ty) (hf : ∀ a ∈ l, Fine a) (hl : l.length ≤ 1000) : OkP n_51 [dDa d, dTl l] ⟨false, dTy (givenM d.name l)⟩ := by
  refine pure_fun (af := a_118) (n := 1) (σ' := σ0) (T_sound SOw 1) rfl rfl (by simp [noPtrL, noPtr_dDa, noPtr_dTl]) (noPtr_dTy _) ?_
  have h0 := call_Con (S := SOw) rfl d.name 0 σ0
  have h1 := call_App (S := SOw) rfl (tCon d.name) l (fine_con _) hf hl 0 σ0
  unfold givenM
  generalize l.foldl tApp (tCon d.name) = b at h1 ⊢
  generalize tCon d.name = z at h0 h1
  simp only [dTy_eq, cTy_eq] at h0 h1
  simp only [a_118, sA, Nat.reduceAdd, Nat.reduceSub, Nat.reduceMul, Nat.reduceBEq, Nat.reduceLeDiff, Int.reduceBEq, Int.reduceBNe, Int.reduceLE, Int.reduceLT, Int.reduceGE, Int.reduceGT, Int.reduceNeg, kn, dDa_eq, dTy_eq, cTy_eq, onel, h0, h1]
def sp_pown : List D → Cell → Prop := fun ds c => ∀ d l, ds = [dDa d, dTl l] → c = ⟨false, dTy (givenM d.name l)⟩
theorem call_pown {S : Specs} (hS : aget S n_51 = some sp_pown) (d : Da) (l : List Ty) (hf : ∀ a ∈ l, Fine a) (hl : l.length ≤ 1000) (n : Nat) (σ : Store) : T S (n + 1) n_51 [dDa d, dTl l] σ = some (.ret ⟨false, dTy (givenM d.name l)⟩, σ) := by
  obtain ⟨c, g1, g2⟩ := T_orc (S := S) hS rfl (c := ⟨false, dTy (givenM d.name l)⟩) (fun d' l' e => by
    simp only [List.cons.injEq, and_true] at e
    rw [dDa_inj e.1, dTl_inj e.2]) (pown_pure d l hf hl)
  rw [g2, g1 _ _ rfl]
def sp_typeOf : List D → Cell → Prop := fun ds c => ∀ d (k : Nat) (h : k < d.cons.length), ds = [dDa d, .int .i64 k] → c = ⟨false, dTy (typM d d.cons[k])⟩
end Go.Fu
namespace Go.Fu
open Go Go.Mx
set_option maxRecDepth 10000
section
variable {C : CallF} {n : Nat} {σ : Store}
end
end Go.Fu
namespace Go.Fu
open Go Go.Mx
set_option maxRecDepth 10000
section
variable {C : CallF} {n : Nat} {σ : Store}
end
section
variable {C : CallF} {n : Nat} {σ : Store}
def Eeq (t : Ty) (i : Nat) : Env := { slots := [(5, ⟨false, .int .i64 i⟩)], locs := [(2, 2, 0), (3, 3, 0)], boxes := [(2, bT t), (3, bT t)], defers := [] }
theorem eq_step (t : Ty) (ht : Fine t) (i : Nat) (h : i < t.as_.length) (h1 : C n_19 [dTy t.as_[i], dTy t.as_[i]] σ = some (.ret ⟨false, .bool true⟩, σ)) : exec C n none a_70 (Eeq t i) σ = some (.normal, Eeq t (i + 1), σ) := by
  have hf := ht.few
  have hi : ((i : Int) < (t.as_.length : Int)) := by omega
  have hx := idx_T _ _ h
  generalize t.as_[i] = x at hx h1
  simp only [dTy_eq, cTy_eq] at hx h1
  simp only [a_70, Eeq, bT, sA, Nat.reduceAdd, Nat.reduceSub, Nat.reduceMul, Nat.reduceBEq, Nat.reduceLeDiff, Int.reduceBEq, Int.reduceBNe, Int.reduceLE, Int.reduceLT, Int.reduceGE, Int.reduceGT, Int.reduceNeg, kn, len_T, hi, natI, hx, onel, h1, wrap64_succ (i := i) (by omega)]
theorem eq_end (t : Ty) : exec C n none a_70 (Eeq t t.as_.length) σ = some (.exit 0, { Eeq t t.as_.length with slots := [(5, ⟨false, .int .i64 t.as_.length⟩), (39, ⟨false, .bool false⟩)] }, σ) := by
  have hi : ¬ ((t.as_.length : Int) < (t.as_.length : Int)) := by omega
  simp only [a_70, Eeq, bT, sA, Nat.reduceAdd, Nat.reduceSub, Nat.reduceMul, Nat.reduceBEq, Nat.reduceLeDiff, Int.reduceBEq, Int.reduceBNe, Int.reduceLE, Int.reduceLT, Int.reduceGE, Int.reduceGT, Int.reduceNeg, kn, len_T, hi]
end
def sp_equal : List D → Cell → Prop := fun ds c => ∀ t, ds = [dTy t, dTy t] → c = ⟨false, .bool true⟩
theorem equal_pure (t : Ty) (ht : Fine t) : OkP n_19 [dTy t, dTy t] ⟨false, .bool true⟩ := by
  induction ht with
  | @mk f n s l hf hl ih =>
    have ht : Fine (.mk f n s l) := .mk hf hl
    generalize he : Ty.mk f n s l = t at ht
    have hel : l = t.as_ := by rw [← he]; rfl
    subst hel
    refine pure_fun (af := a_119) (n := t.as_.length + 1) (σ' := σ0) (T_sound [(n_19, sp_equal)] 1) rfl rfl (by simp [noPtrL, noPtr_dTy]) rfl ?_
    have h1 := loopN_run (body := exec (T [(n_19, sp_equal)] 1) (t.as_.length + 1) none a_70) (Eeq t) (fun _ => σ0) t.as_.length (r := _) (fun _ _ h => by cases h) (fun i hi => eq_step t ht i hi (by
      obtain ⟨c, g1, g2⟩ := T_orc (S := [(n_19, sp_equal)]) rfl rfl (s := sp_equal) (fun _ _ => rfl) (ih _ (List.getElem_mem hi))
      rw [g2, g1 _ rfl])) (eq_end t) 0 (t.as_.length + 1) (by omega) (by omega)
    simp only [Eeq, bT, zeroI] at h1
    simp only [a_119, sA, Nat.reduceAdd, Nat.reduceSub, Nat.reduceMul, Nat.reduceBEq, Nat.reduceLeDiff, Int.reduceBEq, Int.reduceBNe, Int.reduceLE, Int.reduceLT, Int.reduceGE, Int.reduceGT, Int.reduceNeg, kn, dTy_eq, cTy_eq, onel, len_T, h1, bne_self_eq_false, beq_self_eq_true]
theorem call_equal {S : Specs} (hS : aget S n_19 = some sp_equal) (t : Ty) (ht : Fine t) (n : Nat) (σ : Store) : T S (n + 1) n_19 [dTy t, dTy t] σ = some (.ret ⟨false, .bool true⟩, σ) := by
  obtain ⟨c, g1, g2⟩ := T_orc (S := S) hS rfl (s := sp_equal) (fun _ _ => rfl) (equal_pure t ht)
  rw [g2, g1 _ rfl]
end Go.Fu
namespace Go.Fu
open Go Go.Mx
set_option maxRecDepth 10000
def firstN (q : Nat → Bool) : Nat → Nat → Option Nat
  | 0, _ => none
  | m + 1, j => if q j = true then some j else firstN q m (j + 1)
theorem loopN_first {body : Env → Store → XRes} (E : Nat → Env) (σ : Store) (k : Nat) (q : Nat → Bool) (stop : Nat → AExit × Env × Store) {r : AExit × Env × Store} (hr : ∀ e σ, r ≠ (.normal, e, σ)) (hs : ∀ i e σ, stop i ≠ (.normal, e, σ))
    (hstep : ∀ i, i < k → q i = false → body (E i) σ = some (.normal, E (i + 1), σ)) (hstop : ∀ i, i < k → q i = true → body (E i) σ = some (stop i)) (hend : body (E k) σ = some r) : ∀ (m j n : Nat), j + m = k → m < n → loopN body n (E j) σ = some (match firstN q m j with | some i => stop i | none => r)
  | m, j, 0, _, h2 => by omega
  | 0, j, n + 1, h1, _ => by
    have : j = k := by omega
    subst this
    rw [loopN, hend]
    obtain ⟨x, e', σ'⟩ := r
    cases x with
    | normal => exact absurd rfl (hr e' σ')
    | _ => rfl
  | m + 1, j, n + 1, h1, h2 => by
    rw [loopN]
    simp only [firstN]
    cases hq : q j with
    | true =>
      rw [hstop j (by omega) hq, if_pos rfl]
      have := hs j
      have e0 : (match some j with | some i => stop i | none => r) = stop j := rfl
      rw [e0]
      generalize stop j = z at this ⊢
      obtain ⟨x, e', σ'⟩ := z
      cases x with
      | normal => exact absurd rfl (this e' σ')
      | _ => rfl
    | false =>
      rw [hstep j (by omega) hq, if_neg (by simp)]
      exact loopN_first E σ k q stop hr hs hstep hstop hend m (j + 1) n (by omega) (by omega)
def zDa : Da := ⟨[], 0, [], []⟩
def zCn : Cn := ⟨[], 0, []⟩
theorem conIn_first (s : Tx) : ∀ (l pre : List Cn), firstN (fun j => ((pre ++ l).getD j zCn).name == s) l.length pre.length = conIn s l pre.length
  | [], pre => rfl
  | c :: r, pre => by
    have e : ((pre ++ c :: r).getD pre.length zCn) = c := by simp
    have ih := conIn_first s r (pre ++ [c])
    simp only [List.append_assoc, List.cons_append, List.nil_append, List.length_append, List.length_cons, List.length_nil, Nat.zero_add] at ih
    simp only [List.length_cons, firstN, conIn, e, ih]
    by_cases h : c.name = s
    · rw [if_pos h, if_pos (by simpa using h)]
    · rw [if_neg h, if_neg (by simpa using h)]
theorem conM_first (s : Tx) : ∀ (l pre : List Da), match firstN (fun i => (conIn s ((pre ++ l).getD i zDa).cons 0).isSome) l.length pre.length with
    | none => conM s l = none
    | some i => ∃ k, conIn s ((pre ++ l).getD i zDa).cons 0 = some k ∧ conM s l = some ((pre ++ l).getD i zDa, k)
  | [], pre => rfl
  | d :: r, pre => by
    have e : ((pre ++ d :: r).getD pre.length zDa) = d := by simp
    have ih := conM_first s r (pre ++ [d])
    simp only [List.append_assoc, List.cons_append, List.nil_append, List.length_append, List.length_cons, List.length_nil, Nat.zero_add] at ih
    simp only [List.length_cons, firstN, conM, e]
    cases hc : conIn s d.cons 0 with
    | some k =>
      rw [Option.isSome_some, if_pos rfl]
      exact ⟨k, by rw [e, hc], by rw [e]⟩
    | none =>
      rw [Option.isSome_none, if_neg (by simp)]
      exact ih
def conR : Option (Da × Nat) → D
  | none => .tup [dDa zDa, .int .i64 0, .bool false]
  | some p => .tup [dDa p.1, .int .i64 p.2, .bool true]
theorem app_Ds (a b : List Da) (o : Bool) (ho : a ≠ [] → o = true) (hl : a.length + b.length < 1000000000) : appendD k_3 96 ⟨o, dDl a⟩ (b.map dDa) = some ⟨true, dDl (a ++ b)⟩ := by
  rw [dDl, append_more (fun h => ho (by simpa using h)) (fun d hd => by obtain ⟨x, _, rfl⟩ := List.mem_map.1 hd; exact ⟨ok_dDa x, cells_dDa x⟩) (by simp [bound]; omega) (by simp [bound]; omega)]
  rw [dDl, List.map_append]
theorem pre3_D : dDl pre3 = .list k_3 [.agg [.str [45, 62], .int .i64 0, .list k_2 [.str [97], .str [98]], .list k_11 [.agg [.nils], .agg [.nils]], .nils], .agg [.str [73, 110, 116], .int .i64 0, .nils, .nils, .nils], .agg [.str [66, 111, 111, 108], .int .i64 0, .nils, .nils, .list k_22 [.agg [.str [70, 97, 108, 115, 101], .int .i64 0, .nils], .agg [.str [84, 114, 117, 101], .int .i64 0, .nils]]]] := rfl
theorem datas_pure (ds : List Da) (hl : ds.length ≤ 1000) : OkP n_103 [dPr ds] ⟨false, dDl (pre3 ++ ds)⟩ := by
  refine OkP.weak (o := true) rfl (pure_fun (af := a_121) (n := 1) (σ' := σ0) (T_sound [] 1) rfl rfl (by simp [noPtrL, noPtr_dPr]) (noPtr_dDl (pre3 ++ ds)) ?_)
  have ha := app_Ds pre3 ds true (fun _ => rfl) (by simp [pre3]; omega)
  rw [pre3_D] at ha
  simp only [a_121, sA, Nat.reduceAdd, Nat.reduceSub, Nat.reduceMul, Nat.reduceBEq, Nat.reduceLeDiff, Int.reduceBEq, Int.reduceBNe, Int.reduceLE, Int.reduceLT, Int.reduceGE, Int.reduceGT, Int.reduceNeg, kn, dPr, onel, asL_D, ha]
def sp_datas : List D → Cell → Prop := fun ds c => ∀ l, ds = [dPr l] → c = ⟨false, dDl (pre3 ++ l)⟩
theorem dPr_inj {a b : List Da} (h : dPr a = dPr b) : a = b := by
  simp only [dPr, D.agg.injEq, List.cons.injEq, and_true] at h
  exact dDl_inj h
theorem call_datas {S : Specs} (hS : aget S n_103 = some sp_datas) (ds : List Da) (hl : ds.length ≤ 1000) (n : Nat) (σ : Store) : T S (n + 1) n_103 [dPr ds] σ = some (.ret ⟨false, dDl (pre3 ++ ds)⟩, σ) := by
  obtain ⟨c, g1, g2⟩ := T_orc (S := S) hS rfl (c := ⟨false, dDl (pre3 ++ ds)⟩) (fun l' e => by
    simp only [List.cons.injEq, and_true] at e
    rw [dPr_inj e]) (datas_pure ds hl)
  rw [g2, g1 _ rfl]
end Go.Fu
