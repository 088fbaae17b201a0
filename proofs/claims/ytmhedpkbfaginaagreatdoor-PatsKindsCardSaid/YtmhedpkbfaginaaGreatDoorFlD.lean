/-
  What constructors' types, schemes, fields are: plain functions; of what is made each name stands once.
-/
import Derived.Test.YtmhedpkbfaginaaGreatDoorFlT
set_option maxHeartbeats 4000000
set_option linter.unusedSimpArgs false
set_option linter.unusedVariables false
set_option linter.unusedSectionVars false
set_option linter.defProp false
namespace Go.Fu
open Go Go.Mx
set_option maxRecDepth 10000
def arrowN : Tx := [45, 62]
def tCon (s : Tx) : Ty := .mk 3 0 s []
def tVar (s : Tx) : Ty := .mk 2 0 s []
def tApp (f a : Ty) : Ty := .mk 4 0 [] [f, a]
def tAll (s : Tx) (b : Ty) : Ty := .mk 5 0 s [b]
def tFun (a b : Ty) : Ty := tApp (tApp (tCon arrowN) a) b
def givenM (s : Tx) (l : List Ty) : Ty := l.foldl tApp (tCon s)
def funM (to : Ty) (l : List Ty) : Ty := l.foldr tFun to
def typM (d : Da) (c : Cn) : Ty := funM (givenM d.name (d.vars.map tVar)) c.fs
def allM (vs : List Tx) (t : Ty) : Ty := vs.foldr tAll t
def fieldM (d : Da) (k : Nat) (c : Cn) : Fi := ⟨c.name, k, d.cons.length, c.fs.length, allM d.vars (typM d c)⟩
def fieldsD (d : Da) : List Cn → Nat → List Fi
  | [], _ => []
  | c :: r, k => fieldM d k c :: fieldsD d r (k + 1)
def fieldsM : List Da → List Fi
  | [] => []
  | d :: r => fieldsD d d.cons 0 ++ fieldsM r
def pre3 : List Da := [⟨arrowN, 0, [[97], [98]], []⟩, ⟨[73, 110, 116], 0, [], []⟩, ⟨[66, 111, 111, 108], 0, [], [⟨[70, 97, 108, 115, 101], 0, []⟩, ⟨[84, 114, 117, 101], 0, []⟩]⟩]
def conIn (s : Tx) : List Cn → Nat → Option Nat
  | [], _ => none
  | c :: r, k => if c.name = s then some k else conIn s r (k + 1)
def conM (s : Tx) : List Da → Option (Da × Nat)
  | [] => none
  | d :: r => match conIn s d.cons 0 with
    | some k => some (d, k)
    | none => conM s r
def conAt (i : Nat) : List Cn → Nat → List (Tx × Nat × Nat)
  | [], _ => []
  | c :: r, k => (c.name, i, k) :: conAt i r (k + 1)
def conAts : List Da → Nat → List (Tx × Nat × Nat)
  | [], _ => []
  | d :: r, i => conAt i d.cons 0 ++ conAts r (i + 1)
def namesOf (l : List Da) : List Tx := l.flatMap fun d => d.cons.map Cn.name
end Go.Fu
namespace Go.Fu
open Go Go.Mx
set_option maxRecDepth 10000
def entM (x : Tx × Nat × Nat) (b : Nat) : D × D × Nat := (.str x.1, .agg [.int .i64 x.2.1, .int .i64 x.2.2], b)
def esOf : List (Tx × Nat × Nat) → Nat → List (D × D × Nat)
  | [], _ => []
  | x :: r, b => entM x b :: esOf r (b + 1)
theorem esOf_snoc : ∀ (l : List (Tx × Nat × Nat)) (x : Tx × Nat × Nat) (b : Nat), esOf (l ++ [x]) b = esOf l b ++ [entM x (b + l.length)]
  | [], x, b => rfl
  | y :: r, x, b => by
    have h : b + 1 + r.length = b + (y :: r).length := by simp only [List.length_cons]; omega
    simp only [List.cons_append, esOf, esOf_snoc r x (b + 1), h]
theorem findM_none (s : Tx) : ∀ (l : List (Tx × Nat × Nat)) (b : Nat), (∀ x ∈ l, x.1 ≠ s) → findM (.str s) (esOf l b) = some none
  | [], _, _ => rfl
  | x :: r, b, h => by
    have h1 : (s == x.1) = false := by simpa using fun e => h x (by simp) e.symm
    simp only [esOf, entM, findM, sameD, h1, bindO, caseO_some, ifB_false, findM_none s r (b + 1) (fun y hy => h y (by simp [hy]))]
    rfl
theorem findM_some (s : Tx) : ∀ (l : List (Tx × Nat × Nat)) (b : Nat) (x : Tx × Nat × Nat), l.find? (fun x => x.1 == s) = some x → ∃ n m, findM (.str s) (esOf l b) = some (some (.agg [.int .i64 x.2.1, .int .i64 x.2.2], n, m))
  | [], _, _, h => by cases h
  | y :: r, b, x, h => by
    rw [List.find?_cons] at h
    cases hy : y.1 == s with
    | true =>
      rw [hy] at h
      cases h
      have h1 : (s == y.1) = true := by rw [eq_of_beq hy]; simp
      refine ⟨b, 0, ?_⟩
      simp only [esOf, entM, findM, sameD, h1, bindO, caseO_some, ifB_true]
    | false =>
      rw [hy] at h
      have h1 : (s == y.1) = false := by
        cases h2 : s == y.1 with
        | false => rfl
        | true => rw [eq_of_beq h2] at hy; simp at hy
      obtain ⟨n, m, hr⟩ := findM_some s r (b + 1) x h
      refine ⟨n, m + 1, ?_⟩
      simp only [esOf, entM, findM, sameD, h1, bindO, caseO_some, ifB_false, hr]
theorem conAt_find (s : Tx) (i : Nat) : ∀ (l : List Cn) (k : Nat), match conIn s l k with
    | none => ∀ x ∈ conAt i l k, x.1 ≠ s
    | some n => (conAt i l k).find? (fun x => x.1 == s) = some (s, i, n)
  | [], _ => by simp [conIn, conAt]
  | c :: r, k => by
    have ih := conAt_find s i r (k + 1)
    simp only [conIn]
    by_cases h : c.name = s
    · rw [if_pos h]
      simp only [conAt, List.find?_cons, h, beq_self_eq_true]
    · rw [if_neg h]
      have h' : (c.name == s) = false := by simpa using h
      cases hc : conIn s r (k + 1) with
      | none =>
        rw [hc] at ih
        intro x hx
        rcases List.mem_cons.1 hx with rfl | hx
        · exact h
        · exact ih x hx
      | some n =>
        rw [hc] at ih
        simp only [conAt, List.find?_cons, h']
        exact ih
theorem conAts_find (s : Tx) : ∀ (l : List Da) (i : Nat), match conM s l with
    | none => ∀ x ∈ conAts l i, x.1 ≠ s
    | some p => ∃ n, l[n]? = some p.1 ∧ (conAts l i).find? (fun x => x.1 == s) = some (s, i + n, p.2)
  | [], _ => by simp [conM, conAts]
  | d :: r, i => by
    have ih := conAts_find s r (i + 1)
    have h1 := conAt_find s i d.cons 0
    simp only [conM]
    cases hc : conIn s d.cons 0 with
    | some k =>
      rw [hc] at h1
      refine ⟨0, rfl, ?_⟩
      simp only [conAts, List.find?_append, h1, Nat.add_zero]
      rfl
    | none =>
      rw [hc] at h1
      have h0 : (conAt i d.cons 0).find? (fun x => x.1 == s) = none := by
        rw [List.find?_eq_none]
        intro x hx e
        exact h1 x hx (eq_of_beq e)
      cases hm : conM s r with
      | none =>
        rw [hm] at ih
        intro x hx
        rcases List.mem_append.1 hx with hx | hx
        · exact h1 x hx
        · exact ih x hx
      | some p =>
        rw [hm] at ih
        obtain ⟨n, e1, e2⟩ := ih
        refine ⟨n + 1, e1, ?_⟩
        simp only [conAts, List.find?_append, h0, Option.none_or, e2]
        congr 3
        omega
theorem conIn_lt {s : Tx} : ∀ {l : List Cn} {k n : Nat}, conIn s l k = some n → ∃ m c, n = k + m ∧ l[m]? = some c
  | [], _, _, h => by simp [conIn] at h
  | c :: r, k, n, h => by
    simp only [conIn] at h
    by_cases hc : c.name = s
    · rw [if_pos hc] at h
      cases h
      exact ⟨0, c, rfl, rfl⟩
    · rw [if_neg hc] at h
      obtain ⟨m, c', h1, h2⟩ := conIn_lt h
      exact ⟨m + 1, c', by omega, h2⟩
theorem conM_at {s : Tx} : ∀ {l : List Da} {p : Da × Nat}, conM s l = some p → ∃ c, p.1.cons[p.2]? = some c
  | [], _, h => by simp [conM] at h
  | d :: r, p, h => by
    simp only [conM] at h
    cases hc : conIn s d.cons 0 with
    | some k =>
      rw [hc] at h
      cases h
      obtain ⟨m, c, rfl, h2⟩ := conIn_lt hc
      exact ⟨c, by simpa using h2⟩
    | none =>
      rw [hc] at h
      exact conM_at h
theorem conAts_names : ∀ (l : List Da) (i : Nat), (conAts l i).map (fun x => x.1) = namesOf l := by
  have h1 : ∀ (i : Nat) (l : List Cn) (k : Nat), (conAt i l k).map (fun x => x.1) = l.map Cn.name := by
    intro i l
    induction l with
    | nil => intro k; rfl
    | cons c r ih => intro k; simp only [conAt, List.map_cons, ih]
  intro l
  induction l with
  | nil => intro i; rfl
  | cons d r ih => intro i; simp only [conAts, List.map_append, h1, ih, namesOf, List.flatMap_cons]
/-! ### What is made -/
def nm4 : List Tx := [[76], [80], [81], [84]]
def all3 : List Tx := [[97], [98], [99]]
def nms (i c : Nat) : List Tx := (all3.take c).map fun s => nm4.getD i [] ++ s
structure MadeD (i : Nat) (d : Da) : Prop where
  name : d.name = nm4.getD i []
  vars : d.vars.length ≤ 3
  few : d.cons.length ≤ 3
  cons : d.cons.map Cn.name = nms i d.cons.length
  short : ∀ c ∈ d.cons, c.fs.length ≤ 2
def MadeP (ds : List Da) : Prop := ds.length ≤ 4 ∧ ∀ i d, ds[i]? = some d → MadeD i d
theorem nms_once : ∀ c0 < 4, ∀ c1 < 4, ∀ c2 < 4, ∀ c3 < 4, (namesOf pre3 ++ (nms 0 c0 ++ (nms 1 c1 ++ (nms 2 c2 ++ nms 3 c3)))).Nodup := by decide +kernel
theorem made_names {ds : List Da} (h : MadeP ds) : ∃ c0 < 4, ∃ c1 < 4, ∃ c2 < 4, ∃ c3 < 4, namesOf ds = nms 0 c0 ++ (nms 1 c1 ++ (nms 2 c2 ++ nms 3 c3)) := by
  have hz : ∀ i, nms i 0 = [] := fun i => rfl
  have one : ∀ i d, ds[i]? = some d → d.cons.length < 4 ∧ d.cons.map Cn.name = nms i d.cons.length := fun i d hi => ⟨by have := (h.2 i d hi).few; omega, (h.2 i d hi).cons⟩
  match ds, h, one with
  | [], _, _ => exact ⟨0, by omega, 0, by omega, 0, by omega, 0, by omega, rfl⟩
  | [a], _, one => exact ⟨_, (one 0 a rfl).1, 0, by omega, 0, by omega, 0, by omega, by simp [namesOf, hz, (one 0 a rfl).2]⟩
  | [a, b], _, one => exact ⟨_, (one 0 a rfl).1, _, (one 1 b rfl).1, 0, by omega, 0, by omega, by simp [namesOf, hz, (one 0 a rfl).2, (one 1 b rfl).2]⟩
  | [a, b, c], _, one => exact ⟨_, (one 0 a rfl).1, _, (one 1 b rfl).1, _, (one 2 c rfl).1, 0, by omega, by simp [namesOf, hz, (one 0 a rfl).2, (one 1 b rfl).2, (one 2 c rfl).2]⟩
  | [a, b, c, d], _, one => exact ⟨_, (one 0 a rfl).1, _, (one 1 b rfl).1, _, (one 2 c rfl).1, _, (one 3 d rfl).1, by simp [namesOf, (one 0 a rfl).2, (one 1 b rfl).2, (one 2 c rfl).2, (one 3 d rfl).2]⟩
  | _ :: _ :: _ :: _ :: _ :: _, h, _ => exact absurd h.1 (by simp)
theorem made_once {ds : List Da} (h : MadeP ds) : ((conAts (pre3 ++ ds) 0).map fun x => x.1).Nodup := by
  rw [conAts_names]
  obtain ⟨c0, h0, c1, h1, c2, h2, c3, h3, e⟩ := made_names h
  have : namesOf (pre3 ++ ds) = namesOf pre3 ++ namesOf ds := by simp only [namesOf, List.flatMap_append]
  rw [this, e]
  exact nms_once c0 h0 c1 h1 c2 h2 c3 h3
end Go.Fu
namespace Go.Fu
open Go Go.Mx
set_option maxRecDepth 10000
set_option linter.defProp false in
def kn := (And.intro (And.intro (And.intro (And.intro (And.intro k_270 (And.intro k_268 k_269)) (And.intro k_273 (And.intro k_271 k_272))) (And.intro (And.intro k_276 (And.intro k_274 k_275)) (And.intro k_145 (And.intro k_277 k_278)))) (And.intro (And.intro (And.intro k_281 (And.intro k_279 k_280)) (And.intro k_284 (And.intro k_282 k_283))) (And.intro (And.intro k_287 (And.intro k_285 k_286)) (And.intro k_290 (And.intro k_288 k_289))))) (And.intro (And.intro (And.intro (And.intro k_293 (And.intro k_291 k_292)) (And.intro k_296 (And.intro k_294 k_295))) (And.intro (And.intro k_299 (And.intro k_297 k_298)) (And.intro k_302 (And.intro k_300 k_301)))) (And.intro (And.intro (And.intro k_305 (And.intro k_303 k_304)) (And.intro k_308 (And.intro k_306 k_307))) (And.intro (And.intro @nat0 (And.intro @nat1 @nat2)) (And.intro (And.intro @nat3 @nat4) (And.intro @nat5 @idxL))))))
theorem one_dTl (l : List Ty) : (dTl l).one = true := one_dl _ _
theorem one_dSs (l : List Tx) : (dSs l).one = true := one_dl _ _
theorem one_dCl (l : List Cn) : (dCl l).one = true := one_dl _ _
theorem one_dDl (l : List Da) : (dDl l).one = true := one_dl _ _
theorem one_dFl (l : List Fi) : (dFl l).one = true := one_dl _ _
theorem one_dKl (n : Nat) : (dKl n).one = true := one_dl _ _
theorem ok_dTl (l : List Ty) : (dTl l).ok = true := ok_dlist
theorem cells_dTl (l : List Ty) : (dTl l).cells = [dTl l] := cells_dlist
theorem ok_dSs (l : List Tx) : (dSs l).ok = true := ok_dlist
theorem cells_dSs (l : List Tx) : (dSs l).cells = [dSs l] := cells_dlist
theorem ok_dCl (l : List Cn) : (dCl l).ok = true := ok_dlist
theorem cells_dCl (l : List Cn) : (dCl l).cells = [dCl l] := cells_dlist
theorem ok_dDl (l : List Da) : (dDl l).ok = true := ok_dlist
theorem cells_dDl (l : List Da) : (dDl l).cells = [dDl l] := cells_dlist
theorem ok_dFl (l : List Fi) : (dFl l).ok = true := ok_dlist
theorem cells_dFl (l : List Fi) : (dFl l).cells = [dFl l] := cells_dlist
theorem ok_dKl (n : Nat) : (dKl n).ok = true := ok_dlist
theorem cells_dKl (n : Nat) : (dKl n).cells = [dKl n] := cells_dlist
theorem partN (cs : List D) (o : Nat) : Mx.part none cs o = nth cs o := rfl
set_option linter.defProp false in
def onel := And.intro @partN (And.intro (And.intro (And.intro (And.intro @one_dTl @ok_dTl) (And.intro @cells_dTl @one_dSs)) (And.intro (And.intro @ok_dSs @cells_dSs) (And.intro @one_dCl (And.intro @ok_dCl @cells_dCl)))) (And.intro (And.intro (And.intro @one_dDl @ok_dDl) (And.intro @cells_dDl @one_dFl)) (And.intro (And.intro @ok_dFl @cells_dFl) (And.intro @one_dKl (And.intro @ok_dKl @cells_dKl)))))
theorem len_T (l : List Ty) : lenOf (dTl l) = some l.length := len_map _ l
theorem len_S (l : List Tx) : lenOf (dSs l) = some l.length := len_map _ l
theorem len_C (l : List Cn) : lenOf (dCl l) = some l.length := len_map _ l
theorem len_D (l : List Da) : lenOf (dDl l) = some l.length := len_map _ l
theorem len_F (l : List Fi) : lenOf (dFl l) = some l.length := len_map _ l
theorem len_K (n : Nat) : lenOf (dKl n) = some n := by
  cases n with
  | zero => rfl
  | succ n => simp [dKl, List.replicate_succ, dlist, lenOf]
theorem idx_T (l : List Ty) (i : Nat) (h : i < l.length) : indexD 4 (dTl l) i = some (.eptr (dTy l[i])) := idx_map rfl _ _ _ h
theorem idx_S (l : List Tx) (i : Nat) (h : i < l.length) : indexD 1 (dSs l) i = some (.eptr (.str l[i])) := idx_map rfl _ _ _ h
theorem idx_C (l : List Cn) (i : Nat) (h : i < l.length) : indexD 3 (dCl l) i = some (.eptr (dCn l[i])) := idx_map rfl _ _ _ h
theorem idx_D (l : List Da) (i : Nat) (h : i < l.length) : indexD 5 (dDl l) i = some (.eptr (dDa l[i])) := idx_map rfl _ _ _ h
theorem idx_F (l : List Fi) (i : Nat) (h : i < l.length) : indexD 8 (dFl l) i = some (.eptr (dFi l[i])) := idx_map rfl _ _ _ h
theorem app_T (l : List Ty) (v : Ty) (o : Bool) (ho : l ≠ [] → o = true) (hl : l.length < 1000000000) : appendD k_1 56 ⟨o, dTl l⟩ [dTy v] = some ⟨true, dTl (l ++ [v])⟩ := append_map ok_dTy cells_dTy (by omega) l v o ho hl
theorem app_F (l : List Fi) (v : Fi) (o : Bool) (ho : l ≠ [] → o = true) (hl : l.length < 1000000000) : appendD k_21 96 ⟨o, dFl l⟩ [dFi v] = some ⟨true, dFl (l ++ [v])⟩ := append_map ok_dFi cells_dFi (by omega) l v o ho hl
theorem app_C (l : List Cn) (v : Cn) (o : Bool) (ho : l ≠ [] → o = true) (hl : l.length < 1000000000) : appendD k_8 48 ⟨o, dCl l⟩ [dCn v] = some ⟨true, dCl (l ++ [v])⟩ := append_map ok_dCn cells_dCn (by omega) l v o ho hl
theorem app_D (l : List Da) (v : Da) (o : Bool) (ho : l ≠ [] → o = true) (hl : l.length < 1000000000) : appendD k_0 96 ⟨o, dDl l⟩ [dDa v] = some ⟨true, dDl (l ++ [v])⟩ := append_map ok_dDa cells_dDa (by omega) l v o ho hl
theorem asL_D (l : List Da) : asList (dDl l) = some (l.map dDa) := by cases l <;> rfl
theorem getD_eq {α : Type} (l : List α) (i : Nat) (d : α) (h : i < l.length) : l.getD i d = l[i] := by simp [List.getD_eq_getElem?_getD, List.getElem?_eq_getElem h]
inductive Fine : Ty → Prop where
  | mk {f n : Int} {s : Tx} {l : List Ty} (h : l.length ≤ 1000) (hl : ∀ a ∈ l, Fine a) : Fine (.mk f n s l)
theorem Fine.few {t : Ty} (h : Fine t) : t.as_.length ≤ 1000 := by cases h; assumption
theorem Fine.sub {t : Ty} (h : Fine t) : ∀ a ∈ t.as_, Fine a := by cases h; assumption
theorem fine_con (s : Tx) : Fine (tCon s) := .mk (by simp) (fun _ h => by cases h)
theorem fine_var (s : Tx) : Fine (tVar s) := .mk (by simp) (fun _ h => by cases h)
theorem fine_app {f a : Ty} (hf : Fine f) (ha : Fine a) : Fine (tApp f a) := .mk (by simp) (fun x h => by
  simp only [List.mem_cons, List.not_mem_nil, or_false] at h
  rcases h with rfl | rfl
  · exact hf
  · exact ha)
theorem fine_all {s : Tx} {b : Ty} (h : Fine b) : Fine (tAll s b) := .mk (by simp) (fun x hx => by
  rw [List.mem_singleton.1 hx]
  exact h)
theorem fine_fun {a b : Ty} (ha : Fine a) (hb : Fine b) : Fine (tFun a b) := fine_app (fine_app (fine_con _) ha) hb
theorem fine_given : ∀ (l : List Ty) (t : Ty), Fine t → (∀ a ∈ l, Fine a) → Fine (l.foldl tApp t)
  | [], _, h, _ => h
  | a :: r, t, h, hl => fine_given r _ (fine_app h (hl a (by simp))) fun x hx => hl x (by simp [hx])
theorem fine_funM (t : Ty) (ht : Fine t) : ∀ (l : List Ty), (∀ a ∈ l, Fine a) → Fine (funM t l)
  | [], _ => ht
  | a :: r, hl => fine_fun (hl a (by simp)) (fine_funM t ht r fun x hx => hl x (by simp [hx]))
theorem fine_allM (t : Ty) (ht : Fine t) : ∀ (l : List Tx), Fine (allM l t)
  | [] => ht
  | _ :: r => fine_all (fine_allM t ht r)
end Go.Fu
namespace Go.Fu
open Go Go.Mx
set_option maxRecDepth 10000
def bT (t : Ty) : List Cell := [⟨false, .int .i64 t.f⟩, ⟨false, .int .i64 t.n⟩, ⟨false, .str t.s⟩, ⟨false, dTl t.as_⟩]
theorem cTy_eq (t : Ty) : cTy t = [.int .i64 t.f, .int .i64 t.n, .str t.s, dTl t.as_] := rfl
theorem tys0 : dTl [] = .nils := rfl
def spT1 (g : Ty → Ty) : List D → Cell → Prop := fun ds c => ∀ t, ds = [dTy t] → c = ⟨false, dTy (g t)⟩
def sp_own : List D → Cell → Prop := spT1 fun t => t
theorem spT1_of {g : Ty → Ty} {t : Ty} : spT1 g [dTy t] ⟨false, dTy (g t)⟩ := fun t' e => by
  simp only [List.cons.injEq, and_true] at e
  rw [dTy_inj e]
section
variable {C : CallF} {n : Nat} {σ : Store}
def Eow (t : Ty) (i : Nat) : Env := { slots := [(3, ⟨ow i, dTl (t.as_.take i)⟩), (7, ⟨false, dTl t.as_⟩), (8, ⟨false, .int .i64 t.as_.length⟩), (9, ⟨false, .int .i64 i⟩)], locs := [(1, 1, 0), (2, 2, 0)], boxes := [(1, bT t), (2, [⟨false, .int .i64 0⟩, ⟨false, .int .i64 0⟩, ⟨false, .str []⟩, ⟨false, .nils⟩])], defers := [] }
theorem ow_step (t : Ty) (ht : Fine t) (i : Nat) (h : i < t.as_.length) (hc : C n_5 [dTy t.as_[i]] σ = some (.ret ⟨false, dTy t.as_[i]⟩, σ)) : exec C n none a_58 (Eow t i) σ = some (.normal, Eow t (i + 1), σ) := by
  have hf := ht.few
  have hi : ((i : Int) < (t.as_.length : Int)) := by omega
  have ha := app_T (t.as_.take i) t.as_[i] (ow i) ow_ne (by simp; omega)
  rw [take_snoc _ _ h] at ha
  simp only [dTy_eq, cTy_eq] at hc ha
  simp only [a_58, Eow, bT, sA, Nat.reduceAdd, Nat.reduceSub, Nat.reduceMul, Nat.reduceBEq, Nat.reduceLeDiff, Int.reduceBEq, Int.reduceBNe, Int.reduceLE, Int.reduceLT, Int.reduceGE, Int.reduceGT, Int.reduceNeg, kn, hi, natI, idx_T _ _ h, dTy_eq, cTy_eq, onel, hc, ha, wrap64_succ (i := i) (by omega), ow_succ]
theorem ow_end (t : Ty) : exec C n none a_58 (Eow t t.as_.length) σ = some (.exit 0, { Eow t t.as_.length with slots := [(3, ⟨ow t.as_.length, dTl t.as_⟩), (7, ⟨false, dTl t.as_⟩), (8, ⟨false, .int .i64 t.as_.length⟩), (9, ⟨false, .int .i64 t.as_.length⟩), (10, ⟨false, .bool false⟩)] }, σ) := by
  have hi : ¬ ((t.as_.length : Int) < (t.as_.length : Int)) := by omega
  simp only [a_58, Eow, bT, sA, Nat.reduceAdd, Nat.reduceSub, Nat.reduceMul, Nat.reduceBEq, Nat.reduceLeDiff, Int.reduceBEq, Int.reduceBNe, Int.reduceLE, Int.reduceLT, Int.reduceGE, Int.reduceGT, Int.reduceNeg, kn, hi, List.take_length]
end
theorem own_pure (t : Ty) (ht : Fine t) : OkP n_5 [dTy t] ⟨false, dTy t⟩ := by
  induction ht with
  | @mk f n s l hf hl ih =>
    have ht : Fine (.mk f n s l) := .mk hf hl
    generalize he : Ty.mk f n s l = t at ht
    have hel : l = t.as_ := by rw [← he]; rfl
    subst hel
    refine pure_fun (af := a_123) (n := t.as_.length + 1) (σ' := σ0) (T_sound [(n_5, sp_own)] 1) rfl rfl (by simp [noPtrL, noPtr_dTy]) (noPtr_dTy _) ?_
    have h1 := loopN_run (body := exec (T [(n_5, sp_own)] 1) (t.as_.length + 1) none a_58) (Eow t) (fun _ => σ0) t.as_.length (r := _) (fun _ _ h => by cases h) (fun i hi => ow_step t ht i hi (by
      obtain ⟨c, g1, g2⟩ := T_orc (S := [(n_5, sp_own)]) rfl rfl (s := sp_own) (spT1_of (g := fun t => t)) (ih _ (List.getElem_mem hi))
      rw [g2, g1 _ rfl])) (ow_end t) 0 (t.as_.length + 1) (by omega) (by omega)
    simp only [Eow, bT, zeroI, List.take_zero, tys0, ow_zero] at h1
    simp only [a_123, sA, Nat.reduceAdd, Nat.reduceSub, Nat.reduceMul, Nat.reduceBEq, Nat.reduceLeDiff, Int.reduceBEq, Int.reduceBNe, Int.reduceLE, Int.reduceLT, Int.reduceGE, Int.reduceGT, Int.reduceNeg, kn, dTy_eq, cTy_eq, onel, len_T, h1]
theorem call_own {S : Specs} (hS : aget S n_5 = some sp_own) (t : Ty) (ht : Fine t) (n : Nat) (σ : Store) : T S (n + 1) n_5 [dTy t] σ = some (.ret ⟨false, dTy t⟩, σ) := by
  obtain ⟨c, g1, g2⟩ := T_orc (S := S) hS rfl (spT1_of (g := fun t => t)) (own_pure t ht)
  rw [g2, g1 _ rfl]
def spT2 (g : Ty → Ty → Ty) : List D → Cell → Prop := fun ds c => ∀ a b, ds = [dTy a, dTy b] → c = ⟨false, dTy (g a b)⟩
theorem spT2_of {g : Ty → Ty → Ty} {a b : Ty} : spT2 g [dTy a, dTy b] ⟨false, dTy (g a b)⟩ := fun a' b' e => by
  simp only [List.cons.injEq, and_true] at e
  rw [dTy_inj e.1, dTy_inj e.2]
theorem lst_T (a b : Ty) : (D.list k_1 [D.agg (cTy a), D.agg (cTy b)]) = dTl [a, b] := by rw [← dTy_eq, ← dTy_eq]; rfl
theorem lst1_T (a : Ty) : (D.list k_1 [D.agg (cTy a)]) = dTl [a] := by rw [← dTy_eq]; rfl
theorem apply_pure (a b : Ty) : OkP n_12 [dTy a, dTy b] ⟨false, dTy (tApp a b)⟩ := by
  refine pure_fun (af := a_122) (n := 1) (σ' := σ0) (T_sound [] 0) rfl rfl (by simp [noPtrL, noPtr_dTy]) (noPtr_dTy _) ?_
  have e := lst_T a b
  simp only [cTy_eq] at e
  have e2 : dTy (tApp a b) = .agg [.int .i64 4, .int .i64 0, .str [], dTl [a, b]] := dTy_eq _
  rw [e2]
  simp only [a_122, sA, Nat.reduceAdd, Nat.reduceSub, Nat.reduceMul, Nat.reduceBEq, Nat.reduceLeDiff, Int.reduceBEq, Int.reduceBNe, Int.reduceLE, Int.reduceLT, Int.reduceGE, Int.reduceGT, Int.reduceNeg, kn, dTy_eq, cTy_eq, onel, e]
def sp_apply := spT2 tApp
theorem call_apply {S : Specs} (hS : aget S n_12 = some sp_apply) (a b : Ty) (n : Nat) (σ : Store) : T S (n + 1) n_12 [dTy a, dTy b] σ = some (.ret ⟨false, dTy (tApp a b)⟩, σ) := by
  obtain ⟨c, g1, g2⟩ := T_orc (S := S) hS rfl spT2_of (apply_pure a b)
  rw [g2, g1 _ _ rfl]
def spX (g : Tx → Ty) : List D → Cell → Prop := fun ds c => ∀ s, ds = [.str s] → c = ⟨false, dTy (g s)⟩
theorem spX_of {g : Tx → Ty} {s : Tx} : spX g [.str s] ⟨false, dTy (g s)⟩ := fun s' e => by
  simp only [List.cons.injEq, D.str.injEq, and_true] at e
  rw [e]
theorem con_pure (s : Tx) : OkP n_26 [.str s] ⟨false, dTy (tCon s)⟩ := by
  refine pure_fun (af := a_119) (n := 1) (σ' := σ0) (T_sound [] 0) rfl rfl rfl (noPtr_dTy _) ?_
  have e2 : dTy (tCon s) = .agg [.int .i64 3, .int .i64 0, .str s, .nils] := dTy_eq _
  rw [e2]
  simp only [a_119, sA, Nat.reduceAdd, Nat.reduceSub, Nat.reduceMul, Nat.reduceBEq, Nat.reduceLeDiff, Int.reduceBEq, Int.reduceBNe, Int.reduceLE, Int.reduceLT, Int.reduceGE, Int.reduceGT, Int.reduceNeg, kn]
def sp_Con := spX tCon
theorem call_Con {S : Specs} (hS : aget S n_26 = some sp_Con) (s : Tx) (n : Nat) (σ : Store) : T S (n + 1) n_26 [.str s] σ = some (.ret ⟨false, dTy (tCon s)⟩, σ) := by
  obtain ⟨c, g1, g2⟩ := T_orc (S := S) hS rfl spX_of (con_pure s)
  rw [g2, g1 _ rfl]
theorem var_pure (s : Tx) : OkP n_34 [.str s] ⟨false, dTy (tVar s)⟩ := by
  refine pure_fun (af := a_121) (n := 1) (σ' := σ0) (T_sound [] 0) rfl rfl rfl (noPtr_dTy _) ?_
  have e2 : dTy (tVar s) = .agg [.int .i64 2, .int .i64 0, .str s, .nils] := dTy_eq _
  rw [e2]
  simp only [a_121, sA, Nat.reduceAdd, Nat.reduceSub, Nat.reduceMul, Nat.reduceBEq, Nat.reduceLeDiff, Int.reduceBEq, Int.reduceBNe, Int.reduceLE, Int.reduceLT, Int.reduceGE, Int.reduceGT, Int.reduceNeg, kn]
def sp_Var := spX tVar
theorem call_Var {S : Specs} (hS : aget S n_34 = some sp_Var) (s : Tx) (n : Nat) (σ : Store) : T S (n + 1) n_34 [.str s] σ = some (.ret ⟨false, dTy (tVar s)⟩, σ) := by
  obtain ⟨c, g1, g2⟩ := T_orc (S := S) hS rfl spX_of (var_pure s)
  rw [g2, g1 _ rfl]
end Go.Fu
namespace Go.Fu
open Go Go.Mx
set_option maxRecDepth 10000
def z4 : List Cell := [⟨false, .int .i64 0⟩, ⟨false, .int .i64 0⟩, ⟨false, .str []⟩, ⟨false, .nils⟩]
def spTL (g : Ty → List Ty → Ty) : List D → Cell → Prop := fun ds c => ∀ t l, ds = [dTy t, dTl l] → c = ⟨false, dTy (g t l)⟩
theorem spTL_of {g : Ty → List Ty → Ty} {t : Ty} {l : List Ty} : spTL g [dTy t, dTl l] ⟨false, dTy (g t l)⟩ := fun t' l' e => by
  simp only [List.cons.injEq, and_true] at e
  rw [dTy_inj e.1, dTl_inj e.2]
theorem foldl_take {α β : Type} (f : β → α → β) (l : List α) (x : β) (i : Nat) (h : i < l.length) : (l.take (i + 1)).foldl f x = f ((l.take i).foldl f x) l[i] := by
  rw [← take_snoc l i h, List.foldl_append]
  rfl
section
variable {C : CallF} {n : Nat} {σ : Store}
def Eap (t : Ty) (l : List Ty) (i : Nat) : Env := { slots := [(10, ⟨false, dTl l⟩), (11, ⟨false, .int .i64 l.length⟩), (12, ⟨false, .int .i64 i⟩)], locs := [(4, 4, 0), (5, 5, 0)], boxes := [(4, z4), (5, bT ((l.take i).foldl tApp t))], defers := [] }
theorem ap_step (t : Ty) (l : List Ty) (i : Nat) (h : i < l.length) (hl : l.length ≤ 1000) (h1 : C n_5 [dTy l[i]] σ = some (.ret ⟨false, dTy l[i]⟩, σ))
    (h2 : C n_12 [dTy ((l.take i).foldl tApp t), dTy l[i]] σ = some (.ret ⟨false, dTy ((l.take (i + 1)).foldl tApp t)⟩, σ)) : exec C n none a_56 (Eap t l i) σ = some (.normal, Eap t l (i + 1), σ) := by
  have hi : ((i : Int) < (l.length : Int)) := by omega
  unfold Eap
  generalize (l.take (i + 1)).foldl tApp t = b at h2 ⊢
  generalize (l.take i).foldl tApp t = a at h2 ⊢
  simp only [dTy_eq, cTy_eq] at h1 h2
  simp only [a_56, bT, z4, sA, Nat.reduceAdd, Nat.reduceSub, Nat.reduceMul, Nat.reduceBEq, Nat.reduceLeDiff, Int.reduceBEq, Int.reduceBNe, Int.reduceLE, Int.reduceLT, Int.reduceGE, Int.reduceGT, Int.reduceNeg, kn, hi, natI, idx_T _ _ h, dTy_eq, cTy_eq, onel, h1, h2, wrap64_succ (i := i) (by omega)]
theorem ap_end (t : Ty) (l : List Ty) : exec C n none a_56 (Eap t l l.length) σ = some (.exit 0, { Eap t l l.length with slots := [(10, ⟨false, dTl l⟩), (11, ⟨false, .int .i64 l.length⟩), (12, ⟨false, .int .i64 l.length⟩), (13, ⟨false, .bool false⟩)] }, σ) := by
  have hi : ¬ ((l.length : Int) < (l.length : Int)) := by omega
  simp only [a_56, Eap, sA, Nat.reduceAdd, Nat.reduceSub, Nat.reduceMul, Nat.reduceBEq, Nat.reduceLeDiff, Int.reduceBEq, Int.reduceBNe, Int.reduceLE, Int.reduceLT, Int.reduceGE, Int.reduceGT, Int.reduceNeg, kn, hi]
def Efn (t : Ty) (l : List Ty) (i : Nat) : Env := { slots := [(1, ⟨false, dTl l⟩), (10, ⟨false, .int .i64 l.length⟩), (11, ⟨false, .int .i64 i⟩)], locs := [(4, 4, 0), (5, 5, 0)], boxes := [(4, z4), (5, bT (funM t (l.drop (l.length - i))))], defers := [] }
theorem fn_step (t : Ty) (l : List Ty) (i : Nat) (h : i < l.length) (hl : l.length ≤ 1000) (h0 : C n_26 [.str arrowN] σ = some (.ret ⟨false, dTy (tCon arrowN)⟩, σ)) (h1 : C n_5 [dTy l[l.length - 1 - i]] σ = some (.ret ⟨false, dTy l[l.length - 1 - i]⟩, σ))
    (h2 : C n_12 [dTy (tCon arrowN), dTy l[l.length - 1 - i]] σ = some (.ret ⟨false, dTy (tApp (tCon arrowN) l[l.length - 1 - i])⟩, σ))
    (h3 : C n_12 [dTy (tApp (tCon arrowN) l[l.length - 1 - i]), dTy (funM t (l.drop (l.length - i)))] σ = some (.ret ⟨false, dTy (funM t (l.drop (l.length - (i + 1))))⟩, σ)) : exec C n none a_57 (Efn t l i) σ = some (.normal, Efn t l (i + 1), σ) := by
  have hi : ((i : Int) < (l.length : Int)) := by omega
  have w1 : IntKind.i64.wrap ((l.length : Int) - 1) = (l.length : Int) - 1 := wrap64 (by omega) (by omega)
  have w2 : IntKind.i64.wrap ((l.length : Int) - 1 - (i : Int)) = ((l.length - 1 - i : Nat) : Int) := by rw [wrap64 (by omega) (by omega)]; omega
  have hx := idx_T l (l.length - 1 - i) (by omega)
  unfold Efn
  generalize l[l.length - 1 - i]'(by omega) = x at h1 h2 h3 hx
  generalize tApp (tCon arrowN) x = y at h2 h3
  generalize tCon arrowN = z at h0 h2
  generalize funM t (l.drop (l.length - (i + 1))) = b at h3 ⊢
  generalize funM t (l.drop (l.length - i)) = a at h3 ⊢
  simp only [arrowN] at h0
  simp only [dTy_eq, cTy_eq] at h0 h1 h2 h3 hx
  simp only [a_57, bT, z4, sA, Nat.reduceAdd, Nat.reduceSub, Nat.reduceMul, Nat.reduceBEq, Nat.reduceLeDiff, Int.reduceBEq, Int.reduceBNe, Int.reduceLE, Int.reduceLT, Int.reduceGE, Int.reduceGT, Int.reduceNeg, kn, hi, w1, w2, natI, hx, dTy_eq, cTy_eq, onel, len_T, h0, h1, h2, h3, wrap64_succ (i := i) (by omega)]
theorem fn_end (t : Ty) (l : List Ty) : exec C n none a_57 (Efn t l l.length) σ = some (.exit 0, { Efn t l l.length with slots := [(1, ⟨false, dTl l⟩), (10, ⟨false, .int .i64 l.length⟩), (11, ⟨false, .int .i64 l.length⟩), (12, ⟨false, .bool false⟩)] }, σ) := by
  have hi : ¬ ((l.length : Int) < (l.length : Int)) := by omega
  simp only [a_57, Efn, sA, Nat.reduceAdd, Nat.reduceSub, Nat.reduceMul, Nat.reduceBEq, Nat.reduceLeDiff, Int.reduceBEq, Int.reduceBNe, Int.reduceLE, Int.reduceLT, Int.reduceGE, Int.reduceGT, Int.reduceNeg, kn, hi]
end
def SAp : Specs := [(n_5, sp_own), (n_12, sp_apply), (n_26, sp_Con)]
theorem app_pure (t : Ty) (l : List Ty) (ht : Fine t) (hf : ∀ a ∈ l, Fine a) (hl : l.length ≤ 1000) : OkP n_66 [dTy t, dTl l] ⟨false, dTy (l.foldl tApp t)⟩ := by
  refine pure_fun (af := a_118) (n := l.length + 1) (σ' := σ0) (T_sound SAp 1) rfl rfl (by simp [noPtrL, noPtr_dTy, noPtr_dTl]) (noPtr_dTy _) ?_
  have h1 := loopN_run (body := exec (T SAp 1) (l.length + 1) none a_56) (Eap t l) (fun _ => σ0) l.length (r := _) (fun _ _ h => by cases h) (fun i hi => ap_step t l i hi hl (call_own rfl _ (hf _ (List.getElem_mem hi)) 0 σ0) (by
    rw [foldl_take tApp l t i hi]
    exact call_apply rfl _ _ 0 σ0)) (ap_end t l) 0 (l.length + 1) (by omega) (by omega)
  have h0 := call_own (S := SAp) rfl t ht 0 σ0
  simp only [Eap, bT, z4, zeroI, List.take_zero, List.foldl_nil, List.take_length] at h1
  generalize l.foldl tApp t = b at h1 ⊢
  simp only [dTy_eq, cTy_eq] at h0
  simp only [a_118, sA, Nat.reduceAdd, Nat.reduceSub, Nat.reduceMul, Nat.reduceBEq, Nat.reduceLeDiff, Int.reduceBEq, Int.reduceBNe, Int.reduceLE, Int.reduceLT, Int.reduceGE, Int.reduceGT, Int.reduceNeg, kn, dTy_eq, cTy_eq, onel, len_T, h0, h1]
def sp_App := spTL fun t l => l.foldl tApp t
theorem call_App {S : Specs} (hS : aget S n_66 = some sp_App) (t : Ty) (l : List Ty) (ht : Fine t) (hf : ∀ a ∈ l, Fine a) (hl : l.length ≤ 1000) (n : Nat) (σ : Store) : T S (n + 1) n_66 [dTy t, dTl l] σ = some (.ret ⟨false, dTy (l.foldl tApp t)⟩, σ) := by
  obtain ⟨c, g1, g2⟩ := T_orc (S := S) hS rfl (spTL_of (g := fun t l => l.foldl tApp t)) (app_pure t l ht hf hl)
  rw [g2, g1 _ _ rfl]
theorem fun_pure (t : Ty) (l : List Ty) (ht : Fine t) (hf : ∀ a ∈ l, Fine a) (hl : l.length ≤ 1000) : OkP n_79 [dTy t, dTl l] ⟨false, dTy (funM t l)⟩ := by
  refine pure_fun (af := a_120) (n := l.length + 1) (σ' := σ0) (T_sound SAp 1) rfl rfl (by simp [noPtrL, noPtr_dTy, noPtr_dTl]) (noPtr_dTy _) ?_
  have h1 := loopN_run (body := exec (T SAp 1) (l.length + 1) none a_57) (Efn t l) (fun _ => σ0) l.length (r := _) (fun _ _ h => by cases h) (fun i hi => fn_step t l i hi hl (call_Con rfl _ 0 σ0) (call_own rfl _ (hf _ (List.getElem_mem _)) 0 σ0) (call_apply rfl _ _ 0 σ0) (by
    have e : l.drop (l.length - (i + 1)) = l[l.length - 1 - i] :: l.drop (l.length - i) := by
      rw [show l.length - (i + 1) = l.length - 1 - i by omega, List.drop_eq_getElem_cons (by omega), show l.length - 1 - i + 1 = l.length - i by omega]
    rw [e]
    exact call_apply rfl _ _ 0 σ0)) (fn_end t l) 0 (l.length + 1) (by omega) (by omega)
  have h0 := call_own (S := SAp) rfl t ht 0 σ0
  have d0 : l.drop (l.length - 0) = [] := by simp
  have d1 : l.drop (l.length - l.length) = l := by simp
  have d2 : funM t [] = t := rfl
  simp only [Efn, bT, z4, zeroI, d0, d1, d2] at h1
  generalize funM t l = b at h1 ⊢
  simp only [dTy_eq, cTy_eq] at h0
  simp only [a_120, sA, Nat.reduceAdd, Nat.reduceSub, Nat.reduceMul, Nat.reduceBEq, Nat.reduceLeDiff, Int.reduceBEq, Int.reduceBNe, Int.reduceLE, Int.reduceLT, Int.reduceGE, Int.reduceGT, Int.reduceNeg, kn, dTy_eq, cTy_eq, onel, len_T, h0, h1]
def sp_Fun := spTL funM
theorem call_Fun {S : Specs} (hS : aget S n_79 = some sp_Fun) (t : Ty) (l : List Ty) (ht : Fine t) (hf : ∀ a ∈ l, Fine a) (hl : l.length ≤ 1000) (n : Nat) (σ : Store) : T S (n + 1) n_79 [dTy t, dTl l] σ = some (.ret ⟨false, dTy (funM t l)⟩, σ) := by
  obtain ⟨c, g1, g2⟩ := T_orc (S := S) hS rfl (spTL_of (g := funM)) (fun_pure t l ht hf hl)
  rw [g2, g1 _ _ rfl]
theorem all_pure (s : Tx) (t : Ty) (ht : Fine t) : OkP n_25 [.str s, dTy t] ⟨false, dTy (tAll s t)⟩ := by
  refine pure_fun (af := a_117) (n := 1) (σ' := σ0) (T_sound SAp 1) rfl rfl (by simp [noPtrL, noPtr_dTy, noPtr]) (noPtr_dTy _) ?_
  have h0 := call_own (S := SAp) rfl t ht 0 σ0
  have e := lst1_T t
  have e2 : dTy (tAll s t) = .agg [.int .i64 5, .int .i64 0, .str s, dTl [t]] := dTy_eq _
  rw [e2]
  simp only [cTy_eq] at e
  simp only [dTy_eq, cTy_eq] at h0
  simp only [a_117, sA, Nat.reduceAdd, Nat.reduceSub, Nat.reduceMul, Nat.reduceBEq, Nat.reduceLeDiff, Int.reduceBEq, Int.reduceBNe, Int.reduceLE, Int.reduceLT, Int.reduceGE, Int.reduceGT, Int.reduceNeg, kn, dTy_eq, cTy_eq, onel, h0, e]
def sp_All : List D → Cell → Prop := fun ds c => ∀ s t, ds = [.str s, dTy t] → c = ⟨false, dTy (tAll s t)⟩
theorem call_All {S : Specs} (hS : aget S n_25 = some sp_All) (s : Tx) (t : Ty) (ht : Fine t) (n : Nat) (σ : Store) : T S (n + 1) n_25 [.str s, dTy t] σ = some (.ret ⟨false, dTy (tAll s t)⟩, σ) := by
  obtain ⟨c, g1, g2⟩ := T_orc (S := S) hS rfl (c := ⟨false, dTy (tAll s t)⟩) (fun s' t' e => by
    simp only [List.cons.injEq, D.str.injEq, and_true] at e
    rw [e.1, dTy_inj e.2]) (all_pure s t ht)
  rw [g2, g1 _ _ rfl]
end Go.Fu
