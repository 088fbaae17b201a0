/-
  The law answers true.
-/
import Derived.Test.YtmhedpkbfaginaaGreatDoorFlX
import Derived.Test.YtmhedpkbfaginaaGreatDoorFlU3
import Derived.Test.YtmhedpkbfaginaaGreatDoorFlL
import Derived.Test.YtmhedpkbfaginaaGreatDoorFlIds
set_option maxHeartbeats 4000000
set_option linter.unusedSimpArgs false
set_option linter.unusedVariables false
set_option linter.unusedSectionVars false
namespace Go.Fu
open Go Go.Mx
set_option maxRecDepth 10000
set_option maxHeartbeats 4000000
def spK (d : D) : List D → Cell → Prop := fun _ c => c = ⟨false, d⟩
theorem callK {S : Specs} {f : FuncId} {d : D} {args : List D} (hS : aget S f = some (spK d)) (hY : isY f = false) (h : OkP f args ⟨false, d⟩) (n : Nat) (σ : Store) : T S (n + 1) f args σ = some (.ret ⟨false, d⟩, σ) := by
  obtain ⟨c, g1, g2⟩ := T_orc (S := S) hS hY (s := spK d) rfl h
  rw [g2, g1]
theorem IR.of {d : D} {xs : List Int} (hR : IntRow k_int d xs) (hs : ∀ x ∈ xs, Small x) : IR d xs := by
  have key : ∀ ys : List Int, (∀ x ∈ ys, Small x) → IR (.list k_int (ys.map fun x => .int .i64 x)) ys := by
    intro ys hs
    refine ⟨by simp [lenOf], fun i h => ?_, by rw [noPtr]; exact noPtrL_map (fun _ => rfl) ys, hs⟩
    have hn : nth (ys.map fun x => D.int .i64 x) i = some (.int .i64 ys[i]) := by rw [nth_map, nth_get _ _ h]; rfl
    have hk : (k_int.sz == 1) = true := rfl
    rw [idxL, hk, hn]
    rfl
  rcases hR with rfl | ⟨rfl, rfl⟩
  · exact key xs hs
  · exact ⟨rfl, fun i h => by simp at h, rfl, hs⟩
end Go.Fu
namespace Go.Fu
open Go Go.Mx
set_option maxRecDepth 10000
inductive Pt where
  | mk (form pos n : Int) (name : Tx) (kids : List Pt) (ty : Ty) (types : List Ty)
namespace Pt
def form : Pt → Int
  | .mk f _ _ _ _ _ _ => f
def pos : Pt → Int
  | .mk _ p _ _ _ _ _ => p
def n : Pt → Int
  | .mk _ _ n _ _ _ _ => n
def name : Pt → Tx
  | .mk _ _ _ s _ _ _ => s
def kids : Pt → List Pt
  | .mk _ _ _ _ l _ _ => l
def ty : Pt → Ty
  | .mk _ _ _ _ _ t _ => t
def types : Pt → List Ty
  | .mk _ _ _ _ _ _ l => l
end Pt
mutual
def dPt : Pt → D
  | .mk f p n s l t ts => .agg [.int .i64 f, .int .i64 p, .int .i64 n, .str s, dlist k_22 (dPts l), .int .i64 t.f, .int .i64 t.n, .str t.s, dTl t.as_, dTl ts]
def dPts : List Pt → List D
  | [] => []
  | x :: r => dPt x :: dPts r
end
mutual
def Pt.size : Pt → Nat
  | .mk _ _ _ _ l _ _ => 1 + Pt.sizes l
def Pt.sizes : List Pt → Nat
  | [] => 0
  | x :: r => x.size + Pt.sizes r
end
def wt : Nat → Ty
  | 0 => tCon [73, 110, 116]
  | 1 => tCon [66, 111, 111, 108]
  | 2 => tApp (tCon [76]) (tCon [73, 110, 116])
  | 3 => tCon [84]
  | _ => tApp (tCon [76]) (tCon [66, 111, 111, 108])
def wcons : Nat → List (Tx × List Nat)
  | 1 => [([70, 97, 108, 115, 101], []), ([84, 114, 117, 101], [])]
  | 2 => [([78], []), ([67], [0, 2])]
  | 3 => [([65], []), ([66], [0, 1]), ([68], [3])]
  | 4 => [([78], []), ([67], [1, 4])]
  | _ => []
def worldM : List Da := [⟨[76], 1, [[97]], [⟨[78], 0, []⟩, ⟨[67], 0, [tVar [97], tApp (tCon [76]) (tVar [97])]⟩]⟩, ⟨[84], 2, [], [⟨[65], 0, []⟩, ⟨[66], 0, [wt 0, wt 1]⟩, ⟨[68], 0, [wt 3]⟩]⟩]
mutual
inductive W : Nat → Pt → Prop
  | wild {t : Nat} {p n : Int} {s : Tx} {ty : Ty} {ts : List Ty} : W t (.mk 1 p n s [] ty ts)
  | name {t : Nat} {p n : Int} {s : Tx} {ty : Ty} {ts : List Ty} : W t (.mk 2 p n s [] ty ts)
  | num {p n : Int} {s : Tx} {ty : Ty} {ts : List Ty} : W 0 (.mk 3 p n s [] ty ts)
  | con {t : Nat} {p n : Int} {s : Tx} {ks : List Nat} {l : List Pt} {ty : Ty} {ts : List Ty} (hm : (s, ks) ∈ wcons t) (h : WL ks l) : W t (.mk 4 p n s l ty ts)
inductive WL : List Nat → List Pt → Prop
  | nil : WL [] []
  | cons {t : Nat} {x : Pt} {ts : List Nat} {l : List Pt} (h : W t x) (hl : WL ts l) : WL (t :: ts) (x :: l)
end
def W' (dp t : Nat) (x : Pt) : Prop := W t x ∧ x.size + 1 ≤ 2 ^ (dp + 1)
theorem WL.snoc : ∀ {ts : List Nat} {l : List Pt} {t : Nat} {x : Pt}, WL ts l → W t x → WL (ts ++ [t]) (l ++ [x])
  | [], _, _, _, .nil, h => .cons h .nil
  | _ :: _, _, _, _, .cons h1 h2, h => .cons h1 (h2.snoc h)
theorem WL.len : ∀ {ts : List Nat} {l : List Pt}, WL ts l → l.length = ts.length
  | [], _, .nil => rfl
  | _ :: _, _, .cons _ h => by simp only [List.length_cons, h.len]
end Go.Fu
namespace Go.Fu
open Go Go.Mx
set_option maxRecDepth 100000
set_option maxHeartbeats 4000000
theorem closed {f : FuncId} {ds : List D} {c : Cell} {σ' : Store} (n : Nat) (hY : isY f = false) (h1 : noPtrL ds = true) (h2 : noPtr c.d = true) (h : run Γa Ra Xa n f ds σ0 = some (.ret c, σ')) : OkP f ds c := by
  intro σ
  exact frame_rule hY ((run_sound Γa_holds Ra_sound Xa_sound n).1 _ ds σ0 _ _ h) h1 h2 σ
end Go.Fu
namespace Go.Fu
open Go Go.Mx
set_option maxRecDepth 100000
set_option maxHeartbeats 4000000
section
variable {C : CallF} {n : Nat} {σ : Store}
end
end Go.Fu
namespace Go.Fu
open Go Go.Mx
set_option maxRecDepth 100000
set_option maxHeartbeats 4000000
section
variable {d0 : D} {xs : List Int} {a t dp : Nat} {v : Nat}
end
end Go.Fu
namespace Go.Fu
open Go Go.Mx
set_option maxRecDepth 100000
set_option maxHeartbeats 4000000
end Go.Fu
namespace Go.Fu
open Go Go.Mx
set_option maxRecDepth 100000
set_option maxHeartbeats 4000000
def zTy : Ty := .mk 0 0 [] []
mutual
def bareM : Pt → Nat → Pt × Nat
  | .mk f _ n s l _ _, a => (.mk f a n s (baresM l (a + 1)).1 zTy [], (baresM l (a + 1)).2)
def baresM : List Pt → Nat → List Pt × Nat
  | [], a => ([], a)
  | x :: r, a => ((bareM x a).1 :: (baresM r (bareM x a).2).1, (baresM r (bareM x a).2).2)
end
section
variable {C : CallF} {n : Nat} {σ : Store}
end
mutual
theorem W.bare : ∀ {x : Pt} {t : Nat}, W t x → ∀ a, W t (bareM x a).1
  | .mk f p n s l ty ts, t, h, a => by
    cases h with
    | wild => exact .wild
    | name => exact .name
    | num => exact .num
    | con hm h => exact .con hm (WL.bare h (a + 1))
theorem WL.bare : ∀ {l : List Pt} {ts : List Nat}, WL ts l → ∀ a, WL ts (baresM l a).1
  | [], _, .nil, a => .nil
  | x :: r, _, .cons h hl, a => .cons (W.bare h a) (WL.bare hl _)
end
end Go.Fu
namespace Go.Fu
open Go Go.Mx
set_option maxRecDepth 100000
set_option maxHeartbeats 4000000
end Go.Fu
namespace Go.Fu
open Go Go.Mx
set_option maxRecDepth 100000
set_option maxHeartbeats 4000000
def wname : Nat → Tx
  | 0 => [73, 110, 116]
  | 1 => [66, 111, 111, 108]
  | 3 => [84]
  | _ => [76]
end Go.Fu
namespace Go.Fu
open Go Go.Mx
set_option maxRecDepth 100000
set_option maxHeartbeats 4000000
def wd : Nat → Da
  | 1 => ⟨[66, 111, 111, 108], 0, [], [⟨[70, 97, 108, 115, 101], 0, []⟩, ⟨[84, 114, 117, 101], 0, []⟩]⟩
  | 3 => ⟨[84], 2, [], [⟨[65], 0, []⟩, ⟨[66], 0, [wt 0, wt 1]⟩, ⟨[68], 0, [wt 3]⟩]⟩
  | _ => ⟨[76], 1, [[97]], [⟨[78], 0, []⟩, ⟨[67], 0, [tVar [97], tApp (tCon [76]) (tVar [97])]⟩]⟩
end Go.Fu
namespace Go.Fu
open Go Go.Mx
set_option maxRecDepth 100000
set_option maxHeartbeats 4000000
section
variable {C : CallF} {n : Nat} {σ : Store}
end
/-! ### The kids in order -/
end Go.Fu
namespace Go.Fu
open Go Go.Mx
set_option maxRecDepth 100000
set_option maxHeartbeats 4000000
end Go.Fu
namespace Go.Fu
open Go Go.Mx
set_option maxRecDepth 100000
set_option maxHeartbeats 4000000
def agree (own t : Nat) : Bool := (wd own).name == wname t
end Go.Fu
namespace Go.Fu
open Go Go.Mx
set_option maxRecDepth 100000
set_option maxHeartbeats 4000000
end Go.Fu
namespace Go.Fu
open Go Go.Mx
set_option maxRecDepth 100000
set_option maxHeartbeats 4000000
def tMeta (n : Int) : Ty := .mk 1 n [] []
structure SB (σ : Store) (p m : Nat) (n : Nat) (es : List (D × D × Nat)) (c : Nat) : Prop where
  obj : aget σ.objs p = some [⟨false, .int .i64 n⟩, ⟨false, .map m⟩]
  map : aget σ.oth m = some (.map es c)
  lt : p < σ.next
  ltm : m < σ.next
end Go.Fu
namespace Go.Fu
open Go Go.Mx
set_option maxRecDepth 100000
set_option maxHeartbeats 4000000
inductive Lk (es : List (D × D × Nat)) : Nat → Ty → Ty → Prop
  | done {t : Ty} (h : t.f ≠ 1) : Lk es 0 t t
  | free {t : Ty} (h : t.f = 1) (hn : findM (.int .i64 t.n) es = some none) : Lk es 0 t t
  | step {k : Nat} {t u v : Ty} {b j : Nat} (h : t.f = 1) (hs : findM (.int .i64 t.n) es = some (some (dTy u, b, j))) (hr : Lk es k u v) : Lk es (k + 1) t v
section
variable {C : CallF} {n : Nat} {σ : Store}
end
end Go.Fu
namespace Go.Fu
open Go Go.Mx
set_option maxRecDepth 10000
abbrev Kn := List (Int × Ty)
def entK (x : Int × Ty) (b : Nat) : D × D × Nat := (.int .i64 x.1, dTy x.2, b)
def esK : Kn → Nat → List (D × D × Nat)
  | [], _ => []
  | x :: r, b => entK x b :: esK r (b + 1)
def kno (k : Int) : Kn → Option Ty
  | [] => none
  | x :: r => if x.1 = k then some x.2 else kno k r
theorem kno_snoc (k : Int) (y : Int × Ty) : ∀ l : Kn, kno k (l ++ [y]) = match kno k l with
    | some t => some t
    | none => if y.1 = k then some y.2 else none
  | [] => rfl
  | x :: r => by
    simp only [List.cons_append, kno, kno_snoc k y r]
    by_cases h : x.1 = k
    · simp only [if_pos h]
    · simp only [if_neg h]
theorem kno_mem {k : Int} {t : Ty} : ∀ {l : Kn}, kno k l = some t → (k, t) ∈ l
  | x :: r, h => by
    simp only [kno] at h
    by_cases hx : x.1 = k
    · rw [if_pos hx] at h
      cases h
      subst hx
      exact List.mem_cons_self
    · rw [if_neg hx] at h
      exact List.mem_cons_of_mem _ (kno_mem h)
def lookF : Nat → Kn → Ty → Option Ty
  | 0, _, _ => none
  | d + 1, K, t => if t.f = 1 then (match kno t.n K with
    | none => some t
    | some u => lookF d K u) else some t
def anyF (q : Ty → Option Bool) : List Ty → Option Bool
  | [] => some false
  | x :: r => (q x).bind fun b => if b then some true else anyF q r
def withinF : Nat → Kn → Int → Ty → Option Bool
  | 0, _, _, _ => none
  | d + 1, K, n, t => (lookF (d + 1) K t).bind fun u => if u.f = 1 ∧ u.n = n then some true else anyF (withinF d K n) u.as_
def sumF (q : Ty → Option Nat) : Nat → List Ty → Option Nat
  | n, [] => some n
  | n, x :: r => (q x).bind fun v => sumF q (min (n + v) 501) r
def sizeF : Nat → Kn → Ty → Option Nat
  | 0, _, _ => none
  | d + 1, K, t => match (if t.f = 1 then kno t.n K else none) with
    | some x => sizeF d K x
    | none => sumF (sizeF d K) (if t.f = 4 then 0 else 1) t.as_
def FitK (d : Nat) (K : Kn) : Prop := ∀ x ∈ K, ∃ v, sizeF d K (tMeta x.1) = some v ∧ v ≤ 500
inductive BindK (d : Nat) (K : Kn) : Int → Ty → Kn → Prop
  | own {n : Int} {t : Ty} (h1 : t.f = 1) (h2 : t.n = n) : BindK d K n t K
  | less {n : Int} {t : Ty} (h1 : t.f = 1) (h2 : t.n > n) (hw : withinF d K t.n (tMeta n) = some false) (hk : kno t.n K = none) (hs : FitK d (K ++ [(t.n, tMeta n)])) : BindK d K n t (K ++ [(t.n, tMeta n)])
  | put {n : Int} {t : Ty} (h1 : ¬ (t.f = 1 ∧ t.n = n)) (h2 : ¬ (t.f = 1 ∧ t.n > n)) (hw : withinF d K n t = some false) (hk : kno n K = none) (hs : FitK d (K ++ [(n, t)])) : BindK d K n t (K ++ [(n, t)])
mutual
inductive OneK (d : Nat) : Nat → Kn → Ty → Ty → Int → Kn → Prop
  | left {h : Nat} {K K' : Kn} {a b u v : Ty} (ha : lookF d K a = some u) (hb : lookF d K b = some v) (h1 : u.f = 1) (hB : BindK d K u.n v K') : OneK d (h + 1) K a b 0 K'
  | right {h : Nat} {K K' : Kn} {a b u v : Ty} (ha : lookF d K a = some u) (hb : lookF d K b = some v) (h1 : u.f ≠ 1) (h2 : v.f = 1) (hB : BindK d K v.n u K') : OneK d (h + 1) K a b 0 K'
  | form {h : Nat} {K : Kn} {a b u v : Ty} (ha : lookF d K a = some u) (hb : lookF d K b = some v) (h1 : u.f ≠ 1) (h2 : v.f ≠ 1) (h3 : u.f ≠ v.f) : OneK d (h + 1) K a b 31 K
  | name {h : Nat} {K : Kn} {a b u v : Ty} (ha : lookF d K a = some u) (hb : lookF d K b = some v) (h1 : u.f ≠ 1) (h2 : v.f ≠ 1) (h3 : u.f = v.f) (h4 : u.f ≠ 5) (h5 : u.s ≠ v.s) : OneK d (h + 1) K a b 31 K
  | args {h : Nat} {K K' : Kn} {e : Int} {a b u v : Ty} (ha : lookF d K a = some u) (hb : lookF d K b = some v) (h1 : u.f ≠ 1) (h2 : v.f ≠ 1) (h3 : u.f = v.f) (h4 : u.f ≠ 5) (h5 : u.s = v.s) (hl : u.as_.length = v.as_.length) (hL : OneL d h K u.as_ v.as_ e K') : OneK d (h + 1) K a b e K'
inductive OneL (d : Nat) : Nat → Kn → List Ty → List Ty → Int → Kn → Prop
  | nil {h : Nat} {K : Kn} : OneL d h K [] [] 0 K
  | ok {h : Nat} {K K1 K2 : Kn} {e : Int} {a b : Ty} {l r : List Ty} (h1 : OneK d h K a b 0 K1) (h2 : OneL d h K1 l r e K2) : OneL d h K (a :: l) (b :: r) e K2
  | no {h : Nat} {K K1 : Kn} {e : Int} {a b : Ty} {l r : List Ty} (h1 : OneK d h K a b e K1) (he : e ≠ 0) : OneL d h K (a :: l) (b :: r) e K1
end
end Go.Fu
namespace Go.Fu
open Go Go.Mx
set_option maxRecDepth 100000
set_option maxHeartbeats 1000000
def tL (t : Ty) : Ty := tApp (tCon [76]) t
end Go.Fu
namespace Go.Fu
open Go Go.Mx
set_option maxRecDepth 100000
set_option maxHeartbeats 4000000
structure Fr (σ σ' : Store) : Prop where
  le : σ.next ≤ σ'.next
  objs : ∀ j, j < σ.next → aget σ'.objs j = aget σ.objs j
  oth : ∀ j, j < σ.next → aget σ'.oth j = aget σ.oth j
  tys : ∀ j, j < σ.next → aget σ'.tys j = aget σ.tys j
theorem Fr.refl (σ : Store) : Fr σ σ := ⟨Nat.le_refl _, fun _ _ => rfl, fun _ _ => rfl, fun _ _ => rfl⟩
theorem Fr.trans {a b c : Store} (h : Fr a b) (k : Fr b c) : Fr a c :=
  ⟨Nat.le_trans h.le k.le, fun j hj => (k.objs j (Nat.lt_of_lt_of_le hj h.le)).trans (h.objs j hj), fun j hj => (k.oth j (Nat.lt_of_lt_of_le hj h.le)).trans (h.oth j hj), fun j hj => (k.tys j (Nat.lt_of_lt_of_le hj h.le)).trans (h.tys j hj)⟩
theorem SB.fr {σ σ' : Store} {p m n c : Nat} {es : List (D × D × Nat)} (h : SB σ p m n es c) (hf : Fr σ σ') : SB σ' p m n es c :=
  ⟨(hf.objs _ h.lt).trans h.obj, (hf.oth _ h.ltm).trans h.map, Nat.lt_of_lt_of_le h.lt hf.le, Nat.lt_of_lt_of_le h.ltm hf.le⟩
section
variable {C : CallF} {n : Nat} {σ : Store}
end
end Go.Fu
namespace Go.Fu
open Go Go.Mx
set_option maxRecDepth 100000
set_option maxHeartbeats 1000000
section
variable {C : CallF} {n : Nat} {σ : Store}
end
theorem fr_GA (σ : Store) (t : Nat) (cs : List Cell) : Fr σ (GA σ t cs) :=
  ⟨Nat.le_succ _, fun j hj => agC _ _ _ _ (by omega), fun _ _ => rfl, fun j hj => agC _ _ _ _ (by omega)⟩
theorem fr_GM (σ : Store) (x : Oth) : Fr σ (GM σ x) :=
  ⟨Nat.le_succ _, fun _ _ => rfl, fun j hj => agC _ _ _ _ (by omega), fun _ _ => rfl⟩
end Go.Fu
namespace Go.Fu
open Go Go.Mx
set_option maxRecDepth 100000
set_option maxHeartbeats 1000000
def entQ (x : Int × D) (b : Nat) : D × D × Nat := (.int .i64 x.1, x.2, b)
def esQ : List (Int × D) → Nat → List (D × D × Nat)
  | [], _ => []
  | x :: r, b => entQ x b :: esQ r (b + 1)
theorem esQ_snoc : ∀ (l : List (Int × D)) (x : Int × D) (b : Nat), esQ (l ++ [x]) b = esQ l b ++ [entQ x (b + l.length)]
  | [], x, b => rfl
  | y :: r, x, b => by
    have h : b + 1 + r.length = b + (y :: r).length := by simp only [List.length_cons]; omega
    simp only [List.cons_append, esQ, esQ_snoc r x (b + 1), h]
def knoQ (k : Int) : List (Int × D) → Option D
  | [] => none
  | x :: r => if x.1 = k then some x.2 else knoQ k r
theorem knoQ_snoc (k : Int) (y : Int × D) : ∀ l : List (Int × D), knoQ k (l ++ [y]) = match knoQ k l with
    | some t => some t
    | none => if y.1 = k then some y.2 else none
  | [] => rfl
  | x :: r => by
    simp only [List.cons_append, knoQ, knoQ_snoc k y r]
    by_cases h : x.1 = k
    · simp only [if_pos h]
    · simp only [if_neg h]
theorem findQ_none {k : Int} : ∀ {l : List (Int × D)} (b : Nat), knoQ k l = none → findM (.int .i64 k) (esQ l b) = some none
  | [], _, _ => rfl
  | x :: r, b, h => by
    simp only [knoQ] at h
    by_cases hx : x.1 = k
    · rw [if_pos hx] at h
      cases h
    · rw [if_neg hx] at h
      have h1 : (k == x.1) = false := by
        cases e : k == x.1 with
        | false => rfl
        | true => exact absurd (eq_of_beq e).symm hx
      have hs : sameD (.int .i64 k) (.int .i64 x.1) = some (k == x.1) := rfl
      simp only [esQ, entQ, findM, hs, h1, bindO, caseO_some, ifB_false, findQ_none (b + 1) h]
      rfl
theorem findQ_some {k : Int} {t : D} : ∀ {l : List (Int × D)} (b : Nat), knoQ k l = some t → ∃ c j, findM (.int .i64 k) (esQ l b) = some (some (t, c, j)) ∧ (esQ l b).set j (.int .i64 k, t, c) = esQ l b
  | [], _, h => by cases h
  | x :: r, b, h => by
    have hs : sameD (.int .i64 k) (.int .i64 x.1) = some (k == x.1) := rfl
    simp only [knoQ] at h
    by_cases hx : x.1 = k
    · rw [if_pos hx] at h
      cases h
      have h1 : (k == x.1) = true := by rw [hx]; simp
      refine ⟨b, 0, by simp only [esQ, entQ, findM, hs, h1, bindO, caseO_some, ifB_true], ?_⟩
      rw [← hx]
      rfl
    · rw [if_neg hx] at h
      have h1 : (k == x.1) = false := by
        cases e : k == x.1 with
        | false => rfl
        | true => exact absurd (eq_of_beq e).symm hx
      obtain ⟨c, j, hr, hr2⟩ := findQ_some (b + 1) h
      refine ⟨c, j + 1, ?_, ?_⟩
      · simp only [esQ, entQ, findM, hs, h1, bindO, caseO_some, ifB_false, hr]
      · simp only [esQ, List.set_cons_succ, hr2]
def NVal (K : Kn) (N : List (Int × D)) : Prop := ∀ k e, knoQ k N = some e → ∃ v d, e = .int .i64 ((v : Nat) : Int) ∧ sizeF d K (tMeta k) = some v
theorem sumF_mono {q r : Ty → Option Nat} : ∀ {l : List Ty} {n v : Nat}, (∀ x ∈ l, ∀ v, q x = some v → r x = some v) → sumF q n l = some v → sumF r n l = some v
  | [], _, _, _, h => h
  | x :: l, n, v, hq, h => by
    simp only [sumF] at h ⊢
    cases h1 : q x with
    | none => rw [h1] at h; cases h
    | some w =>
      rw [h1] at h
      rw [hq x (by simp) w h1]
      exact sumF_mono (fun y hy => hq y (by simp [hy])) h
theorem sizeF_mono {K : Kn} : ∀ {d : Nat} {t : Ty} {v : Nat}, sizeF d K t = some v → sizeF (d + 1) K t = some v
  | 0, _, _, h => by cases h
  | d + 1, t, v, h => by
    rw [sizeF] at h ⊢
    cases hx : (if t.f = 1 then kno t.n K else none) with
    | some x =>
      rw [hx] at h
      exact sizeF_mono h
    | none =>
      rw [hx] at h
      exact sumF_mono (fun x _ v h => sizeF_mono h) h
theorem sizeF_meta {K : Kn} {d : Nat} {k : Int} {x : Ty} (h : kno k K = some x) : sizeF (d + 1) K (tMeta k) = sizeF d K x := by
  have e : (if (tMeta k).f = 1 then kno (tMeta k).n K else none) = some x := by
    rw [if_pos (show (tMeta k).f = 1 from rfl)]
    exact h
  rw [sizeF, e]
theorem sizeF_le {K : Kn} {d e : Nat} {t : Ty} {v : Nat} (h : sizeF d K t = some v) (hd : d ≤ e) : sizeF e K t = some v := by
  induction hd with
  | refl => exact h
  | step _ ih => exact sizeF_mono ih
theorem adel_aset {α : Type} (k : Nat) (v : α) : ∀ l : List (Nat × α), adel1 (aset l k v) k = adel1 l k
  | [] => by simp [aset, adel1, ifB]
  | (a, x) :: r => by
    simp only [aset]
    cases e : a == k with
    | true => simp [adel1, ifB, e]
    | false =>
      cases hb : Nat.ble k a with
      | true => simp [adel1, ifB, e]
      | false => simp only [ifB_false, adel1, e, adel_aset k v r]
theorem aget_adel {α : Type} (a j : Nat) (h : a ≠ j) : ∀ l : List (Nat × α), aget (adel1 l a) j = aget l j
  | [] => rfl
  | (k, x) :: r => by
    simp only [adel1]
    cases e1 : k == a with
    | true =>
      have e2 : (k == j) = false := by
        cases e : k == j with
        | false => rfl
        | true => exact absurd ((eq_of_beq e1).symm.trans (eq_of_beq e)) h
      simp only [ifB_true, aget, e2, ifB_false, aget_adel a j h r]
    | false =>
      simp only [ifB_false, aget, aget_adel a j h r]
structure NR (σ σ' : Store) (nm : Nat) : Prop where
  objs : σ'.objs = σ.objs
  tys : σ'.tys = σ.tys
  next : σ'.next = σ.next
  oth : adel1 σ'.oth nm = adel1 σ.oth nm
theorem NR.refl (σ : Store) (nm : Nat) : NR σ σ nm := ⟨rfl, rfl, rfl, rfl⟩
theorem NR.trans {a b c : Store} {nm : Nat} (h : NR a b nm) (k : NR b c nm) : NR a c nm := ⟨k.objs.trans h.objs, k.tys.trans h.tys, k.next.trans h.next, k.oth.trans h.oth⟩
theorem NR.SM (σ : Store) (nm : Nat) (x : Oth) : NR σ (SM σ nm x) nm := ⟨rfl, rfl, rfl, adel_aset _ _ _⟩
theorem NR.other {a b : Store} {nm : Nat} (h : NR a b nm) (j : Nat) (hj : nm ≠ j) : aget b.oth j = aget a.oth j := by
  rw [← aget_adel nm j hj b.oth, h.oth, aget_adel nm j hj]
theorem NR.sb {σ σ' : Store} {nm p m n c : Nat} {es : List (D × D × Nat)} (h : NR σ σ' nm) (hm : nm ≠ m) (hB : SB σ p m n es c) : SB σ' p m n es c :=
  ⟨by rw [h.objs]; exact hB.obj, (h.other m hm).trans hB.map, by rw [h.next]; exact hB.lt, by rw [h.next]; exact hB.ltm⟩
section
variable {C : CallF} {n : Nat} {σ : Store}
end
end Go.Fu
namespace Go.Fu
open Go Go.Mx
set_option maxRecDepth 100000
set_option maxHeartbeats 1000000
def Egr (p nm it : Nat) (o : Option D) : Env := { slots := match o with
  | none => [(0, ⟨false, .ptr p 0⟩), (3, ⟨false, .map nm⟩), (10, ⟨false, .ptr it 0⟩)]
  | some t => [(0, ⟨false, .ptr p 0⟩), (3, ⟨false, .map nm⟩), (10, ⟨false, .ptr it 0⟩), (11, ⟨false, t⟩), (20, ⟨false, .bool false⟩)], locs := [], boxes := [], defers := [] }
section
variable {C : CallF} {n : Nat} {σ : Store}
end
theorem fine_meta (n : Int) : Fine (tMeta n) := .mk (by simp) (fun _ h => by cases h)
theorem fold_GM {σ : Store} {x : Oth} : ({ objs := σ.objs, tys := σ.tys, oth := (σ.next, x) :: σ.oth, next := σ.next + 1 } : Store) = GM σ x := rfl
structure GrI (τ : Store) (p m q nm it : Nat) (K : Kn) (seen : List Nat) (e : Env) (ρ : Store) : Prop where
  env : ∃ o, e = Egr p nm it o
  objs : ρ.objs = τ.objs
  tys : ρ.tys = τ.tys
  next : ρ.next = τ.next
  oth : adel1 (adel1 ρ.oth it) nm = adel1 (adel1 τ.oth it) nm
  it : aget ρ.oth it = some (.mit m K.length seen K.length)
  sb : SB ρ p m q (esK K 0) K.length
  nm : ∃ N, aget ρ.oth nm = some (.map (esQ N 0) N.length) ∧ NVal K N
end Go.Fu
namespace Go.Fu
open Go Go.Mx
set_option maxRecDepth 100000
set_option maxHeartbeats 1000000
structure Fm (σ σ' : Store) (m : Nat) : Prop where
  le : σ.next ≤ σ'.next
  objs : ∀ j, j < σ.next → aget σ'.objs j = aget σ.objs j
  oth : ∀ j, j < σ.next → j ≠ m → aget σ'.oth j = aget σ.oth j
  tys : ∀ j, j < σ.next → aget σ'.tys j = aget σ.tys j
theorem Fr.fm {σ σ' : Store} {m : Nat} (h : Fr σ σ') : Fm σ σ' m := ⟨h.le, h.objs, fun j hj _ => h.oth j hj, h.tys⟩
theorem Fm.trans {a b c : Store} {m : Nat} (h : Fm a b m) (k : Fm b c m) : Fm a c m :=
  ⟨Nat.le_trans h.le k.le, fun j hj => (k.objs j (Nat.lt_of_lt_of_le hj h.le)).trans (h.objs j hj), fun j hj hm => (k.oth j (Nat.lt_of_lt_of_le hj h.le) hm).trans (h.oth j hj hm), fun j hj => (k.tys j (Nat.lt_of_lt_of_le hj h.le)).trans (h.tys j hj)⟩
def SK (σ : Store) (p m n : Nat) (K : Kn) : Prop := SB σ p m n (esK K 0) K.length
theorem SK.put {σ : Store} {p m n : Nat} {K : Kn} (h : SK σ p m n K) (k : Int) (t : Ty) : SK (SM σ m (.map (esK (K ++ [(k, t)]) 0) (K ++ [(k, t)]).length)) p m n (K ++ [(k, t)]) := ⟨h.obj, SM_self, h.lt, h.ltm⟩
theorem Fm.SM {σ : Store} {m : Nat} (x : Oth) : Fm σ (SM σ m x) m :=
  ⟨Nat.le_refl _, fun _ _ => rfl, fun j _ hj => agB _ _ _ (beq_false_of_ne (Ne.symm hj)) _, fun _ _ => rfl⟩
end Go.Fu
namespace Go.Fu
open Go Go.Mx
set_option maxRecDepth 100000
set_option maxHeartbeats 1000000
section
variable {C : CallF} {n : Nat} {σ : Store}
end
def FineK (K : Kn) : Prop := ∀ x ∈ K, Fine x.2
theorem FineK.snoc {K : Kn} {k : Int} {t : Ty} (h : FineK K) (ht : Fine t) : FineK (K ++ [(k, t)]) := by
  intro x hx
  rcases List.mem_append.1 hx with hx | hx
  · exact h x hx
  · rw [List.mem_singleton.1 hx]
    exact ht
theorem BindK.fine {d : Nat} {K K' : Kn} {k : Int} {t : Ty} (h : BindK d K k t K') (hK : FineK K) (ht : Fine t) : FineK K' := by
  cases h with
  | own _ _ => exact hK
  | less _ _ _ _ _ => exact hK.snoc (fine_meta _)
  | put _ _ _ _ _ => exact hK.snoc ht
structure Fp (σ σ' : Store) (p m : Nat) : Prop where
  le : σ.next ≤ σ'.next
  objs : ∀ j, j < σ.next → j ≠ p → aget σ'.objs j = aget σ.objs j
  oth : ∀ j, j < σ.next → j ≠ m → aget σ'.oth j = aget σ.oth j
  tys : ∀ j, j < σ.next → aget σ'.tys j = aget σ.tys j
end Go.Fu
namespace Go.Fu
open Go Go.Mx
set_option maxRecDepth 10000
theorem look_mono {K : Kn} : ∀ {d : Nat} {t u : Ty}, lookF d K t = some u → lookF (d + 1) K t = some u
  | d + 1, t, u, h => by
    rw [lookF] at h ⊢
    by_cases h1 : t.f = 1
    · rw [if_pos h1] at h ⊢
      cases hk : kno t.n K with
      | none =>
        rw [hk] at h
        exact h
      | some v =>
        rw [hk] at h
        exact look_mono h
    · rw [if_neg h1] at h ⊢
      exact h
theorem look_other {K : Kn} {k : Int} {x : Ty} (hk : kno k K = none) : ∀ {d : Nat} {t u : Ty}, lookF d K t = some u → ¬ (u.f = 1 ∧ u.n = k) → lookF d (K ++ [(k, x)]) t = some u
  | d + 1, t, u, h, hu => by
    rw [lookF] at h ⊢
    by_cases h1 : t.f = 1
    · rw [if_pos h1] at h ⊢
      cases hx : kno t.n K with
      | none =>
        rw [hx] at h
        cases h
        have : ¬ k = t.n := fun e => hu ⟨h1, e.symm⟩
        rw [kno_snoc, hx]
        simp only [if_neg this]
      | some v =>
        rw [hx] at h
        rw [kno_snoc, hx]
        exact look_other hk h hu
    · rw [if_neg h1] at h ⊢
      exact h
theorem look_hit {K : Kn} {k : Int} {x : Ty} (hx : x.f ≠ 1) : ∀ {d : Nat} {t u : Ty}, lookF d K t = some u → u.f = 1 → u.n = k → lookF (d + 1) (K ++ [(k, x)]) t = some x
  | d + 1, t, u, h, h1, h2 => by
    have ht : t.f = 1 := by
      by_cases e : t.f = 1
      · exact e
      · rw [lookF, if_neg e] at h
        cases h
        exact absurd h1 e
    rw [lookF, if_pos ht] at h
    rw [lookF, if_pos ht]
    cases hk : kno t.n K with
    | none =>
      rw [hk] at h
      cases h
      rw [kno_snoc, hk]
      simp only [if_pos h2.symm]
      rw [lookF, if_neg hx]
    | some v =>
      rw [hk] at h
      rw [kno_snoc, hk]
      exact look_hit hx h h1 h2
theorem size_look {K : Kn} : ∀ {d : Nat} {t u : Ty}, lookF d K t = some u → u.as_ = [] → u.f ≠ 4 → t.f = 1 ∨ t = u → sizeF d K t = some 1
  | d + 1, t, u, h, h1, h2, h3 => by
    rw [lookF] at h
    by_cases ht : t.f = 1
    · rw [if_pos ht] at h
      cases hk : kno t.n K with
      | none =>
        rw [hk] at h
        cases h
        have e : (if t.f = 1 then kno t.n K else none) = none := by rw [if_pos ht, hk]
        rw [sizeF, e]
        simp only [h1, sumF, if_neg h2]
      | some v =>
        rw [hk] at h
        have e : (if t.f = 1 then kno t.n K else none) = some v := by rw [if_pos ht, hk]
        rw [sizeF, e]
        by_cases hv : v.f = 1
        · exact size_look h h1 h2 (.inl hv)
        · refine size_look h h1 h2 (.inr ?_)
          cases d with
          | zero => cases h
          | succ d =>
            have h' : lookF (d + 1) K v = some u := h
            rw [lookF, if_neg hv] at h'
            exact Option.some.inj h'
    · rw [if_neg ht] at h
      cases h
      have e : (if t.f = 1 then kno t.n K else none) = none := if_neg ht
      rw [sizeF, e]
      simp only [h1, sumF, if_neg h2]
def elT : Nat → Ty
  | 0 => tMeta 2
  | 1 => wt 0
  | _ => wt 1
theorem elT_f {e : Nat} (h : e ≠ 0) : (elT e).f = 3 ∧ (elT e).as_ = [] := by
  match e, h with
  | 0, h => exact absurd rfl h
  | 1, _ => exact ⟨rfl, rfl⟩
  | n + 2, _ => exact ⟨rfl, rfl⟩
structure EK (K : Kn) (e : Nat) (z : Ty) : Prop where
  few : e ≤ 2
  zero : e = 0 → lookF 2 K z = some (tMeta 2)
  more : e ≠ 0 → lookF 3 K z = some (elT e)
  flat : z.f = 1 ∨ (e ≠ 0 ∧ z = elT e)
theorem EK.look {K : Kn} {e : Nat} {z : Ty} (h : EK K e z) : lookF 3 K z = some (elT e) := by
  by_cases he : e = 0
  · subst he
    exact look_mono (h.zero rfl)
  · exact h.more he
theorem EK.size {K : Kn} {e : Nat} {z : Ty} (h : EK K e z) : sizeF 3 K z = some 1 := by
  refine size_look h.look ?_ ?_ ?_
  · by_cases he : e = 0
    · subst he; rfl
    · exact (elT_f he).2
  · by_cases he : e = 0
    · subst he
      show (1 : Int) ≠ 4
      omega
    · rw [(elT_f he).1]
      omega
  · rcases h.flat with h | h
    · exact .inl h
    · exact .inr h.2
theorem EK.other {K : Kn} {e : Nat} {z : Ty} (h : EK K e z) {k : Int} {x : Ty} (hk : kno k K = none) (h2 : e = 0 → k ≠ 2) : EK (K ++ [(k, x)]) e z := by
  refine ⟨h.few, fun he => look_other hk (h.zero he) ?_, fun he => look_other hk (h.more he) ?_, h.flat⟩
  · rintro ⟨_, e2⟩
    exact h2 he e2.symm
  · rintro ⟨e1, _⟩
    rw [(elT_f he).1] at e1
    omega
theorem EK.two {K : Kn} {z : Ty} (h : EK K 0 z) {e : Nat} (he : e ≠ 0) (hf : e ≤ 2) : EK (K ++ [(2, elT e)]) e z := by
  refine ⟨hf, fun h0 => absurd h0 he, fun _ => look_hit (by rw [(elT_f he).1]; omega) (h.zero rfl) rfl rfl, ?_⟩
  rcases h.flat with h | h
  · exact .inl h
  · exact absurd rfl h.1
theorem lookF_own {K : Kn} {d : Nat} {t : Ty} (h : t.f ≠ 1) : lookF (d + 1) K t = some t := by rw [lookF, if_neg h]
theorem EK.con {K : Kn} {e : Nat} (he : e ≠ 0) (hf : e ≤ 2) : EK K e (elT e) := by
  refine ⟨hf, fun h0 => absurd h0 he, fun _ => ?_, .inr ⟨he, rfl⟩⟩
  have : (elT e).f ≠ 1 := by rw [(elT_f he).1]; omega
  exact lookF_own (d := 2) this
theorem lookF_meta {K : Kn} {d : Nat} {k : Int} {x : Ty} (h : kno k K = some x) : lookF (d + 1) K (tMeta k) = lookF d K x := by
  have e : (tMeta k).f = 1 := rfl
  rw [lookF, if_pos e]
  show (match kno k K with | none => _ | some u => _) = _
  rw [h]
theorem lookF_free {K : Kn} {d : Nat} {k : Int} (h : kno k K = none) : lookF (d + 1) K (tMeta k) = some (tMeta k) := by
  have e : (tMeta k).f = 1 := rfl
  rw [lookF, if_pos e]
  show (match kno k K with | none => _ | some u => _) = _
  rw [h]
inductive Inf where
  | un | int | bool | tt
  | li (e : Nat)
def RootK (K : Kn) (n : Nat) : Inf → Prop
  | .un => kno 1 K = none ∧ n = 1
  | .int => kno 1 K = some (wt 0)
  | .bool => kno 1 K = some (wt 1)
  | .tt => kno 1 K = some (wt 3)
  | .li e => (∃ z, kno 1 K = some (tL z) ∧ EK K e z) ∧ (e = 0 → 2 ≤ n ∧ kno 2 K = none)
structure StK (K : Kn) (n : Nat) (i : Inf) : Prop where
  keys : ∀ x ∈ K, 1 ≤ x.1 ∧ x.1 ≤ (n : Int)
  one : 1 ≤ n
  root : RootK K n i
  others : ∀ k : Nat, 2 ≤ k → k ≤ n → ∃ e, i = .li e ∧ EK K e (tMeta k)
theorem kno_fresh {K : Kn} {k : Int} (h : ∀ x ∈ K, x.1 ≠ k) : kno k K = none := by
  cases hk : kno k K with
  | none => rfl
  | some t => exact absurd rfl (h _ (kno_mem hk))
theorem StK.fresh {K : Kn} {n : Nat} {i : Inf} (h : StK K n i) : kno ((n + 1 : Nat) : Int) K = none := kno_fresh fun x hx => by
  have := h.keys x hx
  omega
theorem mem_kno {k : Int} {t : Ty} : ∀ {l : Kn}, (k, t) ∈ l → ∃ t', kno k l = some t'
  | x :: r, h => by
    simp only [kno]
    by_cases e : x.1 = k
    · exact ⟨x.2, if_pos e⟩
    · rw [if_neg e]
      rcases List.mem_cons.1 h with rfl | h
      · exact absurd rfl e
      · exact mem_kno h
theorem size_tL {K : Kn} {d : Nat} {z : Ty} (h : sizeF d K z = some 1) : sizeF (d + 1) K (tL z) = some 2 := by
  cases d with
  | zero => cases h
  | succ d =>
    have e : (if (tL z).f = 1 then kno (tL z).n K else none) = none := if_neg (by show (4 : Int) ≠ 1; omega)
    have e2 : (if (tCon [76]).f = 1 then kno (tCon [76]).n K else none) = none := if_neg (by show (3 : Int) ≠ 1; omega)
    have h4 : (tL z).f = 4 := rfl
    have h3 : sizeF (d + 1) K (tCon [76]) = some 1 := by
      rw [sizeF, e2]
      rfl
    rw [sizeF, e]
    simp only [if_pos h4]
    show sumF (sizeF (d + 1) K) 0 [tCon [76], z] = some 2
    simp only [sumF, h3, h, Option.bind_some]
    rfl
theorem StK.fit {K : Kn} {n : Nat} {i : Inf} (h : StK K n i) : FitK 6 K := by
  intro x hx
  obtain ⟨k, t⟩ := x
  obtain ⟨k1, k2⟩ := h.keys _ hx
  simp only at k1 k2
  by_cases e : k = 1
  · subst e
    obtain ⟨t', ht'⟩ := mem_kno hx
    have hr := h.root
    have con : ∀ s : Tx, sizeF 5 K (tCon s) = some 1 := fun s => by
      have e2 : (if (tCon s).f = 1 then kno (tCon s).n K else none) = none := if_neg (by show (3 : Int) ≠ 1; omega)
      rw [sizeF, e2]
      rfl
    cases i with
    | un =>
      rw [hr.1] at ht'
      cases ht'
    | int => exact ⟨1, (sizeF_meta hr).trans (con _), by omega⟩
    | bool => exact ⟨1, (sizeF_meta hr).trans (con _), by omega⟩
    | tt => exact ⟨1, (sizeF_meta hr).trans (con _), by omega⟩
    | li e =>
      obtain ⟨⟨z, hz, ez⟩, _⟩ := hr
      refine ⟨2, (sizeF_meta hz).trans (sizeF_le (size_tL (sizeF_le ez.size (Nat.le_refl 3))) (by omega)), by omega⟩
  · obtain ⟨j, rfl⟩ : ∃ j : Nat, k = (j : Int) := ⟨k.toNat, by omega⟩
    obtain ⟨e, _, ek⟩ := h.others j (by omega) (by omega)
    exact ⟨1, sizeF_le ek.size (by omega), by omega⟩
end Go.Fu
namespace Go.Fu
open Go Go.Mx
set_option maxRecDepth 10000
def joinE (a b : Nat) : Option Nat := if a = 0 then some b else if b = 0 then some a else if a = b then some a else none
def join : Inf → Inf → Option Inf
  | .un, j => some j
  | i, .un => some i
  | .int, .int => some .int
  | .bool, .bool => some .bool
  | .tt, .tt => some .tt
  | .li e, .li f => (joinE e f).map .li
  | _, _ => none
def infT : Nat → Inf
  | 0 => .int
  | 1 => .bool
  | 2 => .li 1
  | 3 => .tt
  | _ => .li 2
theorem keys_put {K : Kn} {n k : Nat} {t : Ty} (h : ∀ x ∈ K, 1 ≤ x.1 ∧ x.1 ≤ (n : Int)) {m : Nat} (hm : n ≤ m) (h1 : 1 ≤ k) (h2 : k ≤ m) : ∀ x ∈ K ++ [((k : Int), t)], 1 ≤ x.1 ∧ x.1 ≤ (m : Int) := by
  intro x hx
  rcases List.mem_append.1 hx with hx | hx
  · have := h x hx
    omega
  · rw [List.mem_singleton.1 hx]
    exact ⟨by show (1 : Int) ≤ k; omega, by show (k : Int) ≤ m; omega⟩
theorem kno_put {K : Kn} {k j : Int} {t x : Ty} (h : kno j K = some x) : kno j (K ++ [(k, t)]) = some x := by rw [kno_snoc, h]
theorem kno_new {K : Kn} {k : Int} {t : Ty} (h : kno k K = none) : kno k (K ++ [(k, t)]) = some t := by
  rw [kno_snoc, h]
  exact if_pos rfl
theorem kno_off {K : Kn} {k j : Int} {t : Ty} (h : kno j K = none) (hj : k ≠ j) : kno j (K ++ [(k, t)]) = none := by
  rw [kno_snoc, h]
  exact if_neg hj
theorem StK.two {K : Kn} {n : Nat} (h : StK K n (.li 0)) {f : Nat} (hf : f ≠ 0) (h2 : f ≤ 2) : StK (K ++ [(2, elT f)]) n (.li f) := by
  obtain ⟨⟨z, hz, ez⟩, h0⟩ := h.root
  obtain ⟨hn, hk⟩ := h0 rfl
  refine ⟨keys_put (k := 2) h.keys (Nat.le_refl n) (by omega) hn, h.one, ⟨⟨z, kno_put hz, ez.two hf h2⟩, fun e => absurd e hf⟩, fun k hk1 hk2 => ?_⟩
  obtain ⟨e, he, ek⟩ := h.others k hk1 hk2
  cases he
  exact ⟨f, rfl, ek.two hf h2⟩
theorem StK.more {K : Kn} {n e : Nat} (h : StK K n (.li e)) (he2 : e ≤ 2) : StK (K ++ [(((n + 1 : Nat) : Int), elT e)]) (n + 1) (.li e) := by
  obtain ⟨⟨z, hz, ez⟩, h0⟩ := h.root
  have hone := h.one
  have hfr := h.fresh
  have hne : e = 0 → ((n + 1 : Nat) : Int) ≠ 2 := fun e0 => by
    have := (h0 e0).1
    omega
  have ek0 : ∀ w, EK K e w → EK (K ++ [(((n + 1 : Nat) : Int), elT e)]) e w := fun w hw => hw.other hfr hne
  refine ⟨keys_put (k := n + 1) h.keys (by omega) (by omega) (Nat.le_refl _), by omega, ⟨⟨z, kno_put hz, ek0 z ez⟩, fun e0 => ⟨by have := (h0 e0).1; omega, kno_off (h0 e0).2 (hne e0)⟩⟩, fun k hk1 hk2 => ?_⟩
  by_cases ek : k = n + 1
  · subst ek
    have hn := kno_new (t := elT e) hfr
    refine ⟨e, rfl, he2, fun e0 => ?_, fun e0 => ?_, .inl rfl⟩
    · subst e0
      rw [lookF_meta (d := 1) hn]
      exact lookF_free (d := 0) (kno_off (h0 rfl).2 (hne rfl))
    · rw [lookF_meta (d := 2) hn]
      exact lookF_own (d := 1) (by rw [(elT_f e0).1]; omega)
  · obtain ⟨e', he', ek'⟩ := h.others k hk1 (by omega)
    cases he'
    exact ⟨e, rfl, ek0 _ ek'⟩
end Go.Fu
namespace Go.Fu
open Go Go.Mx
set_option maxRecDepth 10000
theorem StK.first {K : Kn} (h : StK K 1 .un) {t : Nat} (ht : t < 5) : StK (K ++ [(1, wt t)]) 1 (infT t) := by
  have hk : kno 1 K = none := h.root.1
  have hn := kno_new (t := wt t) hk
  refine ⟨keys_put (k := 1) h.keys (Nat.le_refl _) (Nat.le_refl _) (Nat.le_refl _), Nat.le_refl _, ?_, fun k h1 h2 => absurd h1 (by omega)⟩
  match t, ht with
  | 0, _ => exact hn
  | 1, _ => exact hn
  | 2, _ => exact ⟨⟨elT 1, hn, EK.con (by omega) (by omega)⟩, fun e => absurd e (by omega)⟩
  | 3, _ => exact hn
  | 4, _ => exact ⟨⟨elT 2, hn, EK.con (by omega) (by omega)⟩, fun e => absurd e (by omega)⟩
end Go.Fu
