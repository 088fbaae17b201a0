/-
  The law answers true.
-/
import Derived.Test.YtmhedpkbfaginaaGreatDoorFlX
import Derived.Test.YtmhedpkbfaginaaGreatDoorFlU3
import Derived.Test.YtmhedpkbfaginaaGreatDoorFlL
import Derived.Test.YtmhedpkbfaginaaGreatDoorFlIds
set_option maxHeartbeats 4000000
set_option linter.unusedSimpArgs false
set_option linter.unusedVariables false
set_option linter.unusedSectionVars false
set_option linter.defProp false
namespace Go.Fu
open Go Go.Mx
set_option maxRecDepth 10000
set_option maxHeartbeats 4000000
def spK (d : D) : List D → Cell → Prop := fun _ c => c = ⟨false, d⟩
theorem callK {S : Specs} {f : FuncId} {d : D} {args : List D} (hS : aget S f = some (spK d)) (hY : isY f = false) (h : OkP f args ⟨false, d⟩) (n : Nat) (σ : Store) : T S (n + 1) f args σ = some (.ret ⟨false, d⟩, σ) := by
  obtain ⟨c, g1, g2⟩ := T_orc (S := S) hS hY (s := spK d) rfl h
  rw [g2, g1]
theorem IR.of {d : D} {xs : List Int} (hR : IntRow k_int d xs) (hs : ∀ x ∈ xs, Small x) : IR d xs := by
  have key : ∀ ys : List Int, (∀ x ∈ ys, Small x) → IR (.list k_int (ys.map fun x => .int .i64 x)) ys := by
    intro ys hs
    refine ⟨by simp [lenOf], fun i h => ?_, by rw [noPtr]; exact noPtrL_map (fun _ => rfl) ys, hs⟩
    have hn : nth (ys.map fun x => D.int .i64 x) i = some (.int .i64 ys[i]) := by rw [nth_map, nth_get _ _ h]; rfl
    have hk : (k_int.sz == 1) = true := rfl
    rw [idxL, hk, hn]
    rfl
  rcases hR with rfl | ⟨rfl, rfl⟩
  · exact key xs hs
  · exact ⟨rfl, fun i h => by simp at h, rfl, hs⟩
end Go.Fu
namespace Go.Fu
open Go Go.Mx
set_option maxRecDepth 10000
inductive Pt where
  | mk (form pos n : Int) (name : Tx) (kids : List Pt) (ty : Ty) (types : List Ty)
namespace Pt
def form : Pt → Int
  | .mk f _ _ _ _ _ _ => f
def pos : Pt → Int
  | .mk _ p _ _ _ _ _ => p
def n : Pt → Int
  | .mk _ _ n _ _ _ _ => n
def name : Pt → Tx
  | .mk _ _ _ s _ _ _ => s
def kids : Pt → List Pt
  | .mk _ _ _ _ l _ _ => l
def ty : Pt → Ty
  | .mk _ _ _ _ _ t _ => t
def types : Pt → List Ty
  | .mk _ _ _ _ _ _ l => l
end Pt
mutual
def dPt : Pt → D
  | .mk f p n s l t ts => .agg [.int .i64 f, .int .i64 p, .int .i64 n, .str s, dlist k_1 (dPts l), .int .i64 t.f, .int .i64 t.n, .str t.s, dTl t.as_, dTl ts]
def dPts : List Pt → List D
  | [] => []
  | x :: r => dPt x :: dPts r
end
theorem dPts_map : ∀ l : List Pt, dPts l = l.map dPt
  | [] => by simp [dPts]
  | c :: r => by simp [dPts, dPts_map r]
def dPl (l : List Pt) : D := dlist k_1 (l.map dPt)
def cPt (x : Pt) : List D := [.int .i64 x.form, .int .i64 x.pos, .int .i64 x.n, .str x.name, dPl x.kids, .int .i64 x.ty.f, .int .i64 x.ty.n, .str x.ty.s, dTl x.ty.as_, dTl x.types]
theorem dPt_eq (x : Pt) : dPt x = .agg (cPt x) := by
  cases x
  simp only [dPt, cPt, Pt.form, Pt.pos, Pt.n, Pt.name, Pt.kids, Pt.ty, Pt.types, dPts_map, dPl]
theorem cells_dPt (x : Pt) : (dPt x).cells.length = 10 := by rw [dPt_eq]; rfl
theorem ok_dPt (x : Pt) : (dPt x).ok = true := by rw [dPt_eq]; rfl
mutual
theorem noPtr_dPt : ∀ t : Pt, noPtr (dPt t) = true
  | .mk f p n s l t ts => by
    have h : noPtr (dlist k_1 (dPts l)) = true := noPtr_dl (noPtrL_dPts l)
    simp only [dPt, noPtr, noPtrL, h, noPtr_dTl, Bool.and_self]
theorem noPtrL_dPts : ∀ l : List Pt, noPtrL (dPts l) = true
  | [] => rfl
  | t :: r => by simp only [dPts, noPtrL, noPtr_dPt t, noPtrL_dPts r, Bool.and_self]
end
mutual
theorem dPt_inj : ∀ {a b : Pt}, dPt a = dPt b → a = b
  | .mk f p n s l t ts, .mk f' p' n' s' l' t' ts', h => by
    simp only [dPt, D.agg.injEq, List.cons.injEq, D.int.injEq, true_and, D.str.injEq, and_true] at h
    obtain ⟨rfl, rfl, rfl, rfl, h1, h2, h3, h4, h5, h6⟩ := h
    have ht : t = t' := by
      have : dTy t = dTy t' := by rw [dTy_eq, dTy_eq, cTy, cTy, h2, h3, h4, h5]
      exact dTy_inj this
    rw [dPts_inj (dlist_inj h1), ht, dTl_inj h6]
theorem dPts_inj : ∀ {a b : List Pt}, dPts a = dPts b → a = b
  | [], [], _ => rfl
  | [], _ :: _, h => by simp [dPts] at h
  | _ :: _, [], h => by simp [dPts] at h
  | x :: l, y :: m, h => by
    simp only [dPts, List.cons.injEq] at h
    rw [dPt_inj h.1, dPts_inj h.2]
end
theorem one_dPl (l : List Pt) : (dPl l).one = true := one_dl _ _
theorem ok_dPl (l : List Pt) : (dPl l).ok = true := ok_dlist
theorem cells_dPl (l : List Pt) : (dPl l).cells = [dPl l] := cells_dlist
theorem len_P (l : List Pt) : lenOf (dPl l) = some l.length := len_map _ l
theorem idx_P (l : List Pt) (i : Nat) (h : i < l.length) : indexD 10 (dPl l) i = some (.eptr (dPt l[i])) := idx_map rfl _ _ _ h
theorem app_P (l : List Pt) (v : Pt) (o : Bool) (ho : l ≠ [] → o = true) (hl : l.length < 1000000000) : appendD k_1 144 ⟨o, dPl l⟩ [dPt v] = some ⟨true, dPl (l ++ [v])⟩ := append_map ok_dPt cells_dPt (by omega) l v o ho hl
mutual
def Pt.size : Pt → Nat
  | .mk _ _ _ _ l _ _ => 1 + Pt.sizes l
def Pt.sizes : List Pt → Nat
  | [] => 0
  | x :: r => x.size + Pt.sizes r
end
theorem Pt.sizes_snoc : ∀ (l : List Pt) (x : Pt), Pt.sizes (l ++ [x]) = Pt.sizes l + x.size
  | [], x => by simp [Pt.sizes]
  | y :: r, x => by simp only [List.cons_append, Pt.sizes, Pt.sizes_snoc r x]; omega
set_option linter.defProp false in
def onep := And.intro @one_dPl (And.intro @ok_dPl @cells_dPl)
def wt : Nat → Ty
  | 0 => tCon [73, 110, 116]
  | 1 => tCon [66, 111, 111, 108]
  | 2 => tApp (tCon [76]) (tCon [73, 110, 116])
  | 3 => tCon [84]
  | _ => tApp (tCon [76]) (tCon [66, 111, 111, 108])
def wcons : Nat → List (Tx × List Nat)
  | 1 => [([70, 97, 108, 115, 101], []), ([84, 114, 117, 101], [])]
  | 2 => [([78], []), ([67], [0, 2])]
  | 3 => [([65], []), ([66], [0, 1]), ([68], [3])]
  | 4 => [([78], []), ([67], [1, 4])]
  | _ => []
def worldM : List Da := [⟨[76], 1, [[97]], [⟨[78], 0, []⟩, ⟨[67], 0, [tVar [97], tApp (tCon [76]) (tVar [97])]⟩]⟩, ⟨[84], 2, [], [⟨[65], 0, []⟩, ⟨[66], 0, [wt 0, wt 1]⟩, ⟨[68], 0, [wt 3]⟩]⟩]
mutual
inductive W : Nat → Pt → Prop
  | wild {t : Nat} {p n : Int} {s : Tx} {ty : Ty} {ts : List Ty} : W t (.mk 1 p n s [] ty ts)
  | name {t : Nat} {p n : Int} {s : Tx} {ty : Ty} {ts : List Ty} : W t (.mk 2 p n s [] ty ts)
  | num {p n : Int} {s : Tx} {ty : Ty} {ts : List Ty} : W 0 (.mk 3 p n s [] ty ts)
  | con {t : Nat} {p n : Int} {s : Tx} {ks : List Nat} {l : List Pt} {ty : Ty} {ts : List Ty} (hm : (s, ks) ∈ wcons t) (h : WL ks l) : W t (.mk 4 p n s l ty ts)
inductive WL : List Nat → List Pt → Prop
  | nil : WL [] []
  | cons {t : Nat} {x : Pt} {ts : List Nat} {l : List Pt} (h : W t x) (hl : WL ts l) : WL (t :: ts) (x :: l)
end
def W' (dp t : Nat) (x : Pt) : Prop := W t x ∧ x.size + 1 ≤ 2 ^ (dp + 1)
theorem WL.snoc : ∀ {ts : List Nat} {l : List Pt} {t : Nat} {x : Pt}, WL ts l → W t x → WL (ts ++ [t]) (l ++ [x])
  | [], _, _, _, .nil, h => .cons h .nil
  | _ :: _, _, _, _, .cons h1 h2, h => .cons h1 (h2.snoc h)
theorem WL.len : ∀ {ts : List Nat} {l : List Pt}, WL ts l → l.length = ts.length
  | [], _, .nil => rfl
  | _ :: _, _, .cons _ h => by simp only [List.length_cons, h.len]
end Go.Fu
namespace Go.Fu
open Go Go.Mx
set_option maxRecDepth 100000
set_option maxHeartbeats 4000000
theorem closed {f : FuncId} {ds : List D} {c : Cell} {σ' : Store} (n : Nat) (hY : isY f = false) (h1 : noPtrL ds = true) (h2 : noPtr c.d = true) (h : run Γa Ra Xa n f ds σ0 = some (.ret c, σ')) : OkP f ds c := by
  intro σ
  exact frame_rule hY ((run_sound Γa_holds Ra_sound Xa_sound n).1 _ ds σ0 _ _ h) h1 h2 σ
theorem world_pure : OkP n_87 [] ⟨false, dPr worldM⟩ := closed 20 rfl rfl (noPtr_dPr worldM) (σ' := σ0) (by kernel_rfl)
theorem wtype_pure (t : Nat) (ht : t < 5) : OkP n_6 [.int .i64 t] ⟨false, dTy (wt t)⟩ := by
  match t, ht with
  | 0, _ => exact closed 20 rfl rfl (noPtr_dTy (wt 0)) (σ' := σ0) (by kernel_rfl)
  | 1, _ => exact closed 20 rfl rfl (noPtr_dTy (wt 1)) (σ' := σ0) (by kernel_rfl)
  | 2, _ => exact closed 20 rfl rfl (noPtr_dTy (wt 2)) (σ' := σ0) (by kernel_rfl)
  | 3, _ => exact closed 20 rfl rfl (noPtr_dTy (wt 3)) (σ' := σ0) (by kernel_rfl)
  | 4, _ => exact closed 20 rfl rfl (noPtr_dTy (wt 4)) (σ' := σ0) (by kernel_rfl)
def dIl (l : List Nat) : D := dlist k_int (l.map fun n => .int .i64 (n : Nat))
def dIll (l : List (List Nat)) : D := dlist k_36 (l.map dIl)
theorem wfields_pure (t : Nat) (ht : t < 5) : OkP n_102 [.int .i64 t] ⟨false, .tup [dSs ((wcons t).map Prod.fst), dIll ((wcons t).map Prod.snd)]⟩ := by
  match t, ht with
  | 0, _ => exact closed 20 rfl rfl rfl (σ' := σ0) (by kernel_rfl)
  | 1, _ => exact closed 20 rfl rfl rfl (σ' := σ0) (by kernel_rfl)
  | 2, _ => exact closed 20 rfl rfl rfl (σ' := σ0) (by kernel_rfl)
  | 3, _ => exact closed 20 rfl rfl rfl (σ' := σ0) (by kernel_rfl)
  | 4, _ => exact closed 20 rfl rfl rfl (σ' := σ0) (by kernel_rfl)
end Go.Fu
namespace Go.Fu
open Go Go.Mx
set_option maxRecDepth 100000
set_option maxHeartbeats 4000000
def dgt (n : Nat) : Tx := [UInt8.ofNat (48 + n % 10)]
theorem digit_pure (n : Nat) (hn : n < 1000000) : OkP n_88 [.int .i64 n] ⟨false, .str (dgt n)⟩ := by
  have t10 : ((n : Int)).tmod 10 = ((n % 10 : Nat) : Int) := tmodN n 10
  have w10 : IntKind.i64.wrap ((n % 10 : Nat) : Int) = ((n % 10 : Nat) : Int) := wrap64 (by omega) (by omega)
  have w48 : IntKind.i64.wrap (48 + ((n % 10 : Nat) : Int)) = 48 + ((n % 10 : Nat) : Int) := wrap64 (by omega) (by omega)
  refine pure_fun (af := a_122) (n := 1) (σ' := σ0) (T_sound [] 1) rfl rfl rfl rfl ?_
  have h : n % 10 < 10 := Nat.mod_lt _ (by omega)
  unfold dgt
  generalize n % 10 = c at *
  have hb : bytesOf [D.int .u8 (IntKind.u8.wrap (48 + (c : Int)))] = some [UInt8.ofNat (48 + c)] := by
    match c, h with
    | 0, _ => rfl
    | 1, _ => rfl
    | 2, _ => rfl
    | 3, _ => rfl
    | 4, _ => rfl
    | 5, _ => rfl
    | 6, _ => rfl
    | 7, _ => rfl
    | 8, _ => rfl
    | 9, _ => rfl
  simp only [a_122, sA, Nat.reduceAdd, Nat.reduceSub, Nat.reduceMul, Nat.reduceBEq, Nat.reduceLeDiff, Int.reduceBEq, Int.reduceBNe, Int.reduceLE, Int.reduceLT, Int.reduceGE, Int.reduceGT, Int.reduceNeg, kn, t10, w10, w48, hb]
def sp_pat (d0 : D) (dp : Nat) : List D → Cell → Prop := fun ds c => ∀ a t : Nat, t < 5 → ds = [d0, .int .i64 a, .int .i64 t, .int .i64 dp] → ∃ x, ∃ nx : Nat, W' dp t x ∧ nx + 1 ≤ a + 2 ^ (dp + 1) ∧ c = ⟨false, .tup [dPt x, .int .i64 nx]⟩
section
variable {C : CallF} {n : Nat} {σ : Store}
def z10 : List Cell := [⟨false, .int .i64 0⟩, ⟨false, .int .i64 0⟩, ⟨false, .int .i64 0⟩, ⟨false, .str []⟩, ⟨false, .nils⟩, ⟨false, .int .i64 0⟩, ⟨false, .int .i64 0⟩, ⟨false, .str []⟩, ⟨false, .nils⟩, ⟨false, .nils⟩]
def bPt (f : Int) (s : Tx) (l : List Pt) (ty : Ty) (ts : List Ty) : List Cell := [⟨false, .int .i64 f⟩, ⟨false, .int .i64 0⟩, ⟨false, .int .i64 0⟩, ⟨false, .str s⟩, ⟨fl l, dPl l⟩, ⟨false, .int .i64 ty.f⟩, ⟨false, .int .i64 ty.n⟩, ⟨false, .str ty.s⟩, ⟨false, dTl ty.as_⟩, ⟨fl ts, dTl ts⟩]
def Ept (d0 : D) (a dp : Nat) (lls : List (List Nat)) (k : Nat) (s : Tx) (l : List Pt) (ty : Ty) (ts : List Ty) : Env := { slots := [(0, ⟨false, d0⟩), (1, ⟨false, .int .i64 a⟩), (3, ⟨false, .int .i64 dp⟩), (13, ⟨false, dIll lls⟩), (14, ⟨false, .int .i64 k⟩), (15, ⟨false, .int .i64 l.length⟩)], locs := [(8, 8, 0), (11, 11, 0)], boxes := [(8, z10), (11, bPt 4 s l ty ts)], defers := [] }
theorem len_Il (l : List Nat) : lenOf (dIl l) = some l.length := len_map _ l
theorem idx_Il (l : List Nat) (i : Nat) (h : i < l.length) : indexD 1 (dIl l) i = some (.eptr (.int .i64 (l[i] : Nat))) := idx_map rfl _ _ _ h
theorem idx_Ill (l : List (List Nat)) (i : Nat) (h : i < l.length) : indexD 1 (dIll l) i = some (.eptr (dIl l[i])) := idx_map rfl _ _ _ h
theorem one_dIl (l : List Nat) : (dIl l).one = true := one_dl _ _
theorem one_dIll (l : List (List Nat)) : (dIll l).one = true := one_dl _ _
theorem pt_step (d0 : D) (a dp : Nat) (lls : List (List Nat)) (k : Nat) (hk : k < lls.length) (s : Tx) (l : List Pt) (ty : Ty) (ts : List Ty) (hl : l.length < lls[k].length) (hl2 : l.length ≤ 100) (hdp : dp < 100) (x : Pt) (nx : Nat) (h1 : C n_14 [d0, .int .i64 a, .int .i64 (lls[k][l.length] : Nat), .int .i64 ((dp : Int) - 1)] σ = some (.ret ⟨false, .tup [dPt x, .int .i64 nx]⟩, σ)) : exec C n none a_57 (Ept d0 a dp lls k s l ty ts) σ = some (.normal, Ept d0 nx dp lls k s (l ++ [x]) ty ts, σ) := by
  have hx := idx_Ill lls k hk
  have hy := idx_Il lls[k] l.length hl
  have hlen := len_Il lls[k]
  have ho := one_dIl lls[k]
  have ho2 := one_dIll lls
  have hlt : ((l.length : Int) < (lls[k].length : Int)) := by omega
  have w := wrap64_succ (i := l.length) (by omega)
  have wd : IntKind.i64.wrap ((dp : Int) - 1) = (dp : Int) - 1 := wrap64 (by omega) (by omega)
  have hap := app_P l x (fl l) fl_ne (by omega)
  unfold Ept
  rw [List.length_append, List.length_singleton]
  simp only [bPt]
  rw [fl_snoc]
  generalize lls[k] = ls at *
  generalize ls[l.length] = m at *
  generalize l ++ [x] = l2 at *
  simp only [dPt_eq, cPt] at h1 hap
  simp only [a_57, z10, sA, Nat.reduceAdd, Nat.reduceSub, Nat.reduceMul, Nat.reduceBEq, Nat.reduceLeDiff, Int.reduceBEq, Int.reduceBNe, Int.reduceLE, Int.reduceLT, Int.reduceGE, Int.reduceGT, Int.reduceNeg, kn, onel, onep, natI, hx, hy, ho, ho2, hlen, hlt, wd, h1, hap, w]
end
end Go.Fu
namespace Go.Fu
open Go Go.Mx
set_option maxRecDepth 100000
set_option maxHeartbeats 4000000
theorem pt_end {C : CallF} {n : Nat} {σ : Store} (d0 : D) (a dp : Nat) (lls : List (List Nat)) (k : Nat) (hk : k < lls.length) (s : Tx) (l : List Pt) (ty : Ty) (ts : List Ty) (hl : l.length = lls[k].length) : exec C n none a_57 (Ept d0 a dp lls k s l ty ts) σ = some (.exit 0, { Ept d0 a dp lls k s l ty ts with slots := [(0, ⟨false, d0⟩), (1, ⟨false, .int .i64 a⟩), (3, ⟨false, .int .i64 dp⟩), (13, ⟨false, dIll lls⟩), (14, ⟨false, .int .i64 k⟩), (15, ⟨false, .int .i64 l.length⟩), (97, ⟨false, .bool false⟩)] }, σ) := by
  have hx := idx_Ill lls k hk
  have hlen := len_Il lls[k]
  have ho := one_dIl lls[k]
  have ho2 := one_dIll lls
  rw [← hl] at hlen
  have hlt : ¬ ((l.length : Int) < (l.length : Int)) := by omega
  generalize lls[k] = ls at *
  simp only [a_57, Ept, sA, Nat.reduceAdd, Nat.reduceSub, Nat.reduceMul, Nat.reduceBEq, Nat.reduceLeDiff, Int.reduceBEq, Int.reduceBNe, Int.reduceLE, Int.reduceLT, Int.reduceGE, Int.reduceGT, Int.reduceNeg, kn, onel, onep, natI, hx, ho, ho2, hlen, hlt]
def spW : List D → Cell → Prop := fun ds c => ∀ t : Nat, t < 5 → ds = [.int .i64 t] → c = ⟨false, dTy (wt t)⟩
def spF : List D → Cell → Prop := fun ds c => ∀ t : Nat, t < 5 → ds = [.int .i64 t] → c = ⟨false, .tup [dSs ((wcons t).map Prod.fst), dIll ((wcons t).map Prod.snd)]⟩
def spD : List D → Cell → Prop := fun ds c => ∀ n : Nat, ds = [.int .i64 n] → c = ⟨false, .str (dgt n)⟩
theorem call_wtype {S : Specs} (hS : aget S n_6 = some spW) (t : Nat) (ht : t < 5) (n : Nat) (σ : Store) : T S (n + 1) n_6 [.int .i64 t] σ = some (.ret ⟨false, dTy (wt t)⟩, σ) := by
  obtain ⟨c, g1, g2⟩ := T_orc (S := S) hS rfl (c := ⟨false, dTy (wt t)⟩) (fun t' _ e => by
    simp only [List.cons.injEq, D.int.injEq, true_and, and_true, Int.natCast_inj] at e
    rw [e]) (wtype_pure t ht)
  rw [g2, g1 _ ht rfl]
theorem call_wfields {S : Specs} (hS : aget S n_102 = some spF) (t : Nat) (ht : t < 5) (n : Nat) (σ : Store) : T S (n + 1) n_102 [.int .i64 t] σ = some (.ret ⟨false, .tup [dSs ((wcons t).map Prod.fst), dIll ((wcons t).map Prod.snd)]⟩, σ) := by
  obtain ⟨c, g1, g2⟩ := T_orc (S := S) hS rfl (c := ⟨false, .tup [dSs ((wcons t).map Prod.fst), dIll ((wcons t).map Prod.snd)]⟩) (fun t' _ e => by
    simp only [List.cons.injEq, D.int.injEq, true_and, and_true, Int.natCast_inj] at e
    rw [e]) (wfields_pure t ht)
  rw [g2, g1 _ ht rfl]
theorem call_digit {S : Specs} (hS : aget S n_88 = some spD) (k : Nat) (hk : k < 1000000) (n : Nat) (σ : Store) : T S (n + 1) n_88 [.int .i64 k] σ = some (.ret ⟨false, .str (dgt k)⟩, σ) := by
  obtain ⟨c, g1, g2⟩ := T_orc (S := S) hS rfl (c := ⟨false, .str (dgt k)⟩) (fun t' e => by
    simp only [List.cons.injEq, D.int.injEq, true_and, and_true, Int.natCast_inj] at e
    rw [e]) (digit_pure k hk)
  rw [g2, g1 _ rfl]
def SPt (d0 : D) (xs : List Int) (dp : Nat) : Specs := [(n_104, sp_pick d0 xs), (n_6, spW), (n_102, spF), (n_88, spD), (n_14, sp_pat d0 dp)]
theorem call_pickP {d0 : D} {xs : List Int} {S : Specs} (hS : aget S n_104 = some (sp_pick d0 xs)) (hR : IR d0 xs) (i : Nat) (hi : i < 1000000) (n : Nat) (σ : Store) : T S (n + 1) n_104 [d0, .int .i64 i] σ = some (.ret ⟨false, .int .i64 (pickM xs i : Nat)⟩, σ) := by
  obtain ⟨c, g1, g2⟩ := T_orc (S := S) hS rfl (c := ⟨false, .int .i64 (pickM xs i : Nat)⟩) (fun j e => by
    simp only [List.cons.injEq, D.int.injEq, true_and, and_true, Int.natCast_inj] at e
    rw [e]) (pick_pure hR i (by omega))
  rw [g2, g1 _ rfl]
def PatOk (d0 : D) (dp : Nat) : Prop := ∀ a t : Nat, a + 2 ^ (dp + 1) ≤ 10000 → t < 5 → ∃ x, ∃ nx : Nat, W' dp t x ∧ nx + 1 ≤ a + 2 ^ (dp + 1) ∧ OkP n_14 [d0, .int .i64 a, .int .i64 t, .int .i64 dp] ⟨false, .tup [dPt x, .int .i64 nx]⟩
theorem wt_fine : ∀ t, Fine (wt t)
  | 0 => fine_con _
  | 1 => fine_con _
  | 2 => fine_app (fine_con _) (fine_con _)
  | 3 => fine_con _
  | _ + 4 => fine_app (fine_con _) (fine_con _)
section
variable {d0 : D} {xs : List Int} {a t dp : Nat} {v : Nat}
theorem pat_fun (dp' : Nat) (hR : IR d0 xs) {x : Pt} {nx : Nat} {o : Bool} {σ' : Store} (hr : finX Ra (fun _ _ _ => none) a_10 0 (exec (T (SPt d0 xs dp') 1) 5 none a_10.body (initEnv [d0, .int .i64 a, .int .i64 t, .int .i64 dp]) σ0) = some (.ret ⟨o, .tup [dPt x, .int .i64 nx]⟩, σ')) : OkP n_14 [d0, .int .i64 a, .int .i64 t, .int .i64 dp] ⟨false, .tup [dPt x, .int .i64 nx]⟩ :=
  OkP.weak (o := o) rfl (pure_fun (af := a_10) (n := 5) (σ' := σ') (T_sound (SPt d0 xs dp') 1) rfl rfl (by simp [noPtrL, hR.np, noPtr]) (by simp [noPtr, noPtrL, noPtr_dPt]) hr)
theorem pat_wild (hR : IR d0 xs) (ha : a < 100000) (ht : t < 5) (hd : dp < 100) (dp' : Nat) (h : pickM xs a % 5 = 0 ∨ (pickM xs a % 5 ≠ 0 ∧ dp = 0 ∧ 0 < t)) : OkP n_14 [d0, .int .i64 a, .int .i64 t, .int .i64 dp] ⟨false, .tup [dPt (.mk 1 0 0 [] [] (wt t) []), .int .i64 (a + 1 : Nat)]⟩ := by
  have hp := call_pickP (S := SPt d0 xs dp') rfl hR a (by omega) 0 σ0
  have hw := call_wtype (S := SPt d0 xs dp') rfl t ht 0 σ0
  have hlt := pickM_lt hR.small a
  have t5 := tmodN (pickM xs a) 5
  have w5 : IntKind.i64.wrap ((pickM xs a % 5 : Nat) : Int) = ((pickM xs a % 5 : Nat) : Int) := wrap64 (by omega) (by omega)
  have wa := wrap64_succ (i := a) (by omega)
  generalize pickM xs a = v at *
  refine pat_fun dp' hR (o := false) (σ' := σ0) ?_
  generalize wt t = w at *
  simp only [dTy_eq, cTy_eq] at hw
  have e5 : ((5 : Nat) : Int) = 5 := rfl
  rw [e5] at t5
  have p0 : dPl [] = .nils := rfl
  have z0 : (((0 : Nat) : Int) == 0) = true := rfl
  rcases h with h | ⟨h, hd0, ht0⟩
  · have b0 : (((v % 5 : Nat) : Int) == 0) = true := by rw [h]; rfl
    simp only [a_10, sA, Nat.reduceAdd, Nat.reduceSub, Nat.reduceMul, Nat.reduceBEq, Nat.reduceLeDiff, Int.reduceBEq, Int.reduceBNe, Int.reduceLE, Int.reduceLT, Int.reduceGE, Int.reduceGT, Int.reduceNeg, kn, onel, onep, hp, hw, t5, w5, b0, wa, dPt_eq, cPt, Pt.form, Pt.pos, Pt.n, Pt.name, Pt.kids, Pt.ty, Pt.types, p0, tys0]
  · have b0 : (((v % 5 : Nat) : Int) == 0) = false := beq_false_of_ne (by omega)
    have g : (t : Int) > 0 := by omega
    subst hd0
    simp only [a_10, sA, Nat.reduceAdd, Nat.reduceSub, Nat.reduceMul, Nat.reduceBEq, Nat.reduceLeDiff, Int.reduceBEq, Int.reduceBNe, Int.reduceLE, Int.reduceLT, Int.reduceGE, Int.reduceGT, Int.reduceNeg, kn, onel, onep, hp, hw, t5, w5, b0, z0, g, wa, dPt_eq, cPt, Pt.form, Pt.pos, Pt.n, Pt.name, Pt.kids, Pt.ty, Pt.types, p0, tys0]
theorem pat_name (hR : IR d0 xs) (ha : a < 100000) (ht : t < 5) (hd : dp < 100) (dp' : Nat) (h : pickM xs a % 5 = 1) (hz : ¬ (dp = 0 ∧ 0 < t)) : OkP n_14 [d0, .int .i64 a, .int .i64 t, .int .i64 dp] ⟨false, .tup [dPt (.mk 2 0 0 (118 :: (dgt (a / 10) ++ dgt a)) [] (wt t) []), .int .i64 (a + 1 : Nat)]⟩ := by
  have hp := call_pickP (S := SPt d0 xs dp') rfl hR a (by omega) 0 σ0
  have hw := call_wtype (S := SPt d0 xs dp') rfl t ht 0 σ0
  have h1 := call_digit (S := SPt d0 xs dp') rfl (a / 10) (by omega) 0 σ0
  have h2 := call_digit (S := SPt d0 xs dp') rfl a (by omega) 0 σ0
  have hlt := pickM_lt hR.small a
  have t5 := tmodN (pickM xs a) 5
  have q10 := tdivN a 10
  have w5 : IntKind.i64.wrap ((pickM xs a % 5 : Nat) : Int) = ((pickM xs a % 5 : Nat) : Int) := wrap64 (by omega) (by omega)
  have wq : IntKind.i64.wrap ((a / 10 : Nat) : Int) = ((a / 10 : Nat) : Int) := wrap64 (by omega) (by omega)
  have wa := wrap64_succ (i := a) (by omega)
  have l1 : (dgt (a / 10)).length = 1 := rfl
  have l2 : (dgt a).length = 1 := rfl
  generalize pickM xs a = v at *
  refine pat_fun dp' hR (o := false) (σ' := σ0) ?_
  generalize wt t = w at *
  generalize dgt (a / 10) = x1 at *
  generalize dgt a = x2 at *
  simp only [dTy_eq, cTy_eq] at hw
  have e5 : ((5 : Nat) : Int) = 5 := rfl
  have e10 : ((10 : Nat) : Int) = 10 := rfl
  rw [e5] at t5
  rw [e10] at q10
  have p0 : dPl [] = .nils := rfl
  have s1 : 1 + x1.length ≤ 281474976710656 := by omega
  have s2 : x1.length + 1 + x2.length ≤ 281474976710656 := by omega
  have b0 : (((v % 5 : Nat) : Int) == 0) = false := by rw [h]; rfl
  have b1 : (((v % 5 : Nat) : Int) == 1) = true := by rw [h]; rfl
  by_cases hd0 : dp = 0
  · have ht0 : ¬ ((t : Int) > 0) := by omega
    have z0 : (((dp : Nat) : Int) == 0) = true := by rw [hd0]; rfl
    simp only [a_10, sA, Nat.reduceAdd, Nat.reduceSub, Nat.reduceMul, Nat.reduceBEq, Nat.reduceLeDiff, Int.reduceBEq, Int.reduceBNe, Int.reduceLE, Int.reduceLT, Int.reduceGE, Int.reduceGT, Int.reduceNeg, kn, onel, onep, hp, hw, t5, w5, b0, b1, z0, ht0, q10, wq, h1, h2, s1, s2, List.length_cons, List.cons_append, wa, dPt_eq, cPt, Pt.form, Pt.pos, Pt.n, Pt.name, Pt.kids, Pt.ty, Pt.types, p0, tys0]
  · have z0 : (((dp : Nat) : Int) == 0) = false := beq_false_of_ne (by omega)
    simp only [a_10, sA, Nat.reduceAdd, Nat.reduceSub, Nat.reduceMul, Nat.reduceBEq, Nat.reduceLeDiff, Int.reduceBEq, Int.reduceBNe, Int.reduceLE, Int.reduceLT, Int.reduceGE, Int.reduceGT, Int.reduceNeg, kn, onel, onep, hp, hw, t5, w5, b0, b1, z0, q10, wq, h1, h2, s1, s2, List.length_cons, List.cons_append, wa, dPt_eq, cPt, Pt.form, Pt.pos, Pt.n, Pt.name, Pt.kids, Pt.ty, Pt.types, p0, tys0]
theorem pat_num (hR : IR d0 xs) (ha : a < 100000) (hd : dp < 100) (dp' : Nat) (h : 2 ≤ pickM xs a % 5) : OkP n_14 [d0, .int .i64 a, .int .i64 (0 : Nat), .int .i64 dp] ⟨false, .tup [dPt (.mk 3 0 (pickM xs a / 5 % 4 : Nat) [] [] (wt 0) []), .int .i64 (a + 1 : Nat)]⟩ := by
  have hp := call_pickP (S := SPt d0 xs dp') rfl hR a (by omega) 0 σ0
  have hw := call_wtype (S := SPt d0 xs dp') rfl 0 (by omega) 0 σ0
  have hlt := pickM_lt hR.small a
  have t5 := tmodN (pickM xs a) 5
  have q5 := tdivN (pickM xs a) 5
  have t4 := tmodN (pickM xs a / 5) 4
  have w5 : IntKind.i64.wrap ((pickM xs a % 5 : Nat) : Int) = ((pickM xs a % 5 : Nat) : Int) := wrap64 (by omega) (by omega)
  have wq : IntKind.i64.wrap ((pickM xs a / 5 : Nat) : Int) = ((pickM xs a / 5 : Nat) : Int) := wrap64 (by omega) (by omega)
  have w4 : IntKind.i64.wrap ((pickM xs a / 5 % 4 : Nat) : Int) = ((pickM xs a / 5 % 4 : Nat) : Int) := wrap64 (by omega) (by omega)
  have wa := wrap64_succ (i := a) (by omega)
  generalize pickM xs a = v at *
  refine pat_fun dp' hR (o := false) (σ' := σ0) ?_
  generalize wt 0 = w at *
  simp only [dTy_eq, cTy_eq] at hw
  rw [show ((5 : Nat) : Int) = 5 from rfl] at t5 q5
  rw [show ((4 : Nat) : Int) = 4 from rfl] at t4
  have p0 : dPl [] = .nils := rfl
  have z00 : (((0 : Nat) : Int) == 0) = true := rfl
  have g00 : ¬ (((0 : Nat) : Int) > 0) := by omega
  have b0 : (((v % 5 : Nat) : Int) == 0) = false := beq_false_of_ne (by omega)
  have b1 : (((v % 5 : Nat) : Int) == 1) = false := beq_false_of_ne (by omega)
  by_cases hd0 : dp = 0
  · have z0 : (((dp : Nat) : Int) == 0) = true := by rw [hd0]; rfl
    simp only [a_10, sA, Nat.reduceAdd, Nat.reduceSub, Nat.reduceMul, Nat.reduceBEq, Nat.reduceLeDiff, Int.reduceBEq, Int.reduceBNe, Int.reduceLE, Int.reduceLT, Int.reduceGE, Int.reduceGT, Int.reduceNeg, kn, onel, onep, hp, hw, t5, w5, b0, b1, z0, z00, g00, q5, wq, t4, w4, wa, dPt_eq, cPt, Pt.form, Pt.pos, Pt.n, Pt.name, Pt.kids, Pt.ty, Pt.types, p0, tys0]
  · have z0 : (((dp : Nat) : Int) == 0) = false := beq_false_of_ne (by omega)
    simp only [a_10, sA, Nat.reduceAdd, Nat.reduceSub, Nat.reduceMul, Nat.reduceBEq, Nat.reduceLeDiff, Int.reduceBEq, Int.reduceBNe, Int.reduceLE, Int.reduceLT, Int.reduceGE, Int.reduceGT, Int.reduceNeg, kn, onel, onep, hp, hw, t5, w5, b0, b1, z0, z00, q5, wq, t4, w4, wa, dPt_eq, cPt, Pt.form, Pt.pos, Pt.n, Pt.name, Pt.kids, Pt.ty, Pt.types, p0, tys0]
end
end Go.Fu
namespace Go.Fu
open Go Go.Mx
set_option maxRecDepth 100000
set_option maxHeartbeats 4000000
theorem wcons_ok : ∀ t < 5, ∀ p ∈ wcons t, p.2.length ≤ 2 ∧ ∀ m ∈ p.2, m < 5 := by decide
theorem wcons_some : ∀ t < 5, 0 < t → 0 < (wcons t).length ∧ (wcons t).length ≤ 3 := by decide
theorem call_pat {d0 : D} {xs : List Int} {dp : Nat} (hP : PatOk d0 dp) (a t : Nat) (ha : a + 2 ^ (dp + 1) ≤ 10000) (ht : t < 5) : ∃ x, ∃ nx : Nat, W' dp t x ∧ nx + 1 ≤ a + 2 ^ (dp + 1) ∧ ∀ n σ, T (SPt d0 xs dp) (n + 1) n_14 [d0, .int .i64 a, .int .i64 t, .int .i64 dp] σ = some (.ret ⟨false, .tup [dPt x, .int .i64 nx]⟩, σ) := by
  obtain ⟨x, nx, h1, h2, h3⟩ := hP a t ha ht
  obtain ⟨c, g1, g2⟩ := T_orc (S := SPt d0 xs dp) (f := n_14) rfl rfl (s := sp_pat d0 dp) (c := ⟨false, .tup [dPt x, .int .i64 nx]⟩) (fun a' t' _ e => by
    simp only [List.cons.injEq, D.int.injEq, true_and, and_true, Int.natCast_inj] at e
    obtain ⟨rfl, rfl⟩ := e
    exact ⟨x, nx, h1, h2, rfl⟩) h3
  obtain ⟨y, ny, k1, k2, rfl⟩ := g1 a t ht rfl
  exact ⟨y, ny, k1, k2, g2⟩
theorem pt_run {d0 : D} {xs : List Int} {dp : Nat} (hP : PatOk d0 dp) (hdp : dp < 90) (a : Nat) (lls : List (List Nat)) (k : Nat) (hk : k < lls.length) (h2 : lls[k].length ≤ 2) (h5 : ∀ m ∈ lls[k], m < 5) (ha : a + 2 ^ (dp + 1) + 2 ^ (dp + 1) ≤ 10001) (s : Tx) (ty : Ty) (ts : List Ty) : ∃ l, ∃ nx : Nat, loopN (exec (T (SPt d0 xs dp) 1) 5 none a_57) 5 (Ept d0 a (dp + 1) lls k s [] ty ts) σ0 = some (.exit 0, { Ept d0 nx (dp + 1) lls k s l ty ts with slots := [(0, ⟨false, d0⟩), (1, ⟨false, .int .i64 (nx : Nat)⟩), (3, ⟨false, .int .i64 (dp + 1 : Nat)⟩), (13, ⟨false, dIll lls⟩), (14, ⟨false, .int .i64 k⟩), (15, ⟨false, .int .i64 l.length⟩), (97, ⟨false, .bool false⟩)] }, σ0) ∧ WL lls[k] l ∧ nx + 2 ≤ a + 2 ^ (dp + 1) + 2 ^ (dp + 1) ∧ Pt.sizes l + 2 ≤ 2 ^ (dp + 1) + 2 ^ (dp + 1) := by
  have hB2 : 2 ≤ 2 ^ (dp + 1) := by have := Nat.one_le_two_pow (n := dp); rw [Nat.pow_succ]; omega
  have hB : 1 ≤ 2 ^ (dp + 1) := Nat.one_le_two_pow
  generalize hBe : 2 ^ (dp + 1) = B at *
  obtain ⟨r, hr, l, nx, rfl, h1, h3, h4⟩ := loopN_inv (body := exec (T (SPt d0 xs dp) 1) 5 none a_57)
    (fun i e σ' => σ' = σ0 ∧ ∃ l a', e = Ept d0 a' (dp + 1) lls k s l ty ts ∧ l.length = i ∧ WL (lls[k].take i) l ∧ a' + i ≤ a + i * B ∧ Pt.sizes l + i ≤ i * B)
    (fun r => ∃ l, ∃ nx : Nat, r = (.exit 0, { Ept d0 nx (dp + 1) lls k s l ty ts with slots := [(0, ⟨false, d0⟩), (1, ⟨false, .int .i64 (nx : Nat)⟩), (3, ⟨false, .int .i64 (dp + 1 : Nat)⟩), (13, ⟨false, dIll lls⟩), (14, ⟨false, .int .i64 k⟩), (15, ⟨false, .int .i64 l.length⟩), (97, ⟨false, .bool false⟩)] }, σ0) ∧ WL lls[k] l ∧ nx + 2 ≤ a + B + B ∧ Pt.sizes l + 2 ≤ B + B) lls[k].length
    (fun i e σ' hi ⟨hσ, l, a', he, hl, hw, hb, hz⟩ => by
      subst he
      subst hσ
      have hm : lls[k][i] < 5 := h5 _ (List.getElem_mem hi)
      have hi1 : (i = 0 ∧ i * B = 0) ∨ (i = 1 ∧ i * B = B) := by
        have : i = 0 ∨ i = 1 := by omega
        rcases this with e | e
        · exact .inl ⟨e, by rw [e, Nat.zero_mul]⟩
        · exact .inr ⟨e, by rw [e, Nat.one_mul]⟩
      obtain ⟨x, nx, g1, g2, g3⟩ := call_pat (xs := xs) hP a' lls[k][i] (by rw [hBe]; omega) hm
      rw [hBe] at g2
      have hd : (((dp + 1 : Nat) : Int) - 1) = (dp : Int) := by omega
      subst hl
      refine ⟨_, _, pt_step d0 a' (dp + 1) lls k hk s l ty ts hi (by omega) (by omega) x nx (by rw [hd]; exact g3 0 σ0), rfl, l ++ [x], nx, rfl, by simp, ?_, ?_⟩
      · rw [← take_snoc _ _ hi]
        exact hw.snoc g1.1
      · have g12 := g1.2
        rw [hBe] at g12
        rw [Nat.succ_mul, Pt.sizes_snoc]
        omega)
    (fun e σ' ⟨hσ, l, a', he, hl, hw, hb, hz⟩ => by
      subst he
      subst hσ
      rw [List.take_length] at hw
      have h2B : lls[k].length * B ≤ lls[k].length + (B + B) - 2 := by
        have : lls[k].length = 0 ∨ lls[k].length = 1 ∨ lls[k].length = 2 := by omega
        rcases this with e | e | e <;> rw [e] <;> omega
      exact ⟨_, pt_end d0 a' (dp + 1) lls k hk s l ty ts hl, fun _ _ h => (by cases h), l, a', rfl, hw, by omega, by omega⟩) 0 5 (Ept d0 a (dp + 1) lls k s [] ty ts) σ0 (by omega) (by omega) ⟨rfl, [], a, rfl, rfl, .nil, by omega, by rw [Pt.sizes]; omega⟩
  exact ⟨l, nx, hr, h1, h3, h4⟩
theorem pat_con {d0 : D} {xs : List Int} {a t dp : Nat} (hR : IR d0 xs) (hP : PatOk d0 dp) (hdp : dp < 90) (ha : a + 2 ^ (dp + 2) ≤ 10000) (ht : t < 5) (ht0 : 0 < t) (h : 2 ≤ pickM xs a % 5) : ∃ x, ∃ nx : Nat, W' (dp + 1) t x ∧ nx + 1 ≤ a + 2 ^ (dp + 2) ∧ OkP n_14 [d0, .int .i64 a, .int .i64 t, .int .i64 (dp + 1 : Nat)] ⟨false, .tup [dPt x, .int .i64 nx]⟩ := by
  have hB : 2 ^ (dp + 2) = 2 ^ (dp + 1) + 2 ^ (dp + 1) := by rw [Nat.pow_succ]; omega
  rw [hB] at ha ⊢
  have hB1 : 1 ≤ 2 ^ (dp + 1) := Nat.one_le_two_pow
  have ha' : a ≤ 10000 := by omega
  have hp := call_pickP (S := SPt d0 xs dp) rfl hR a (by omega) 0 σ0
  have hw := call_wtype (S := SPt d0 xs dp) rfl t ht 0 σ0
  have hw0 := call_wtype (S := SPt d0 xs dp) rfl 0 (by omega) 0 σ0
  have hw1 := call_wtype (S := SPt d0 xs dp) rfl 1 (by omega) 0 σ0
  have hf := call_wfields (S := SPt d0 xs dp) rfl t ht 0 σ0
  have hlt := pickM_lt hR.small a
  obtain ⟨hn0, hn3⟩ := wcons_some t ht ht0
  have hwo := wcons_ok t ht
  have t5 := tmodN (pickM xs a) 5
  have q5 := tdivN (pickM xs a) 5
  have w5 : IntKind.i64.wrap ((pickM xs a % 5 : Nat) : Int) = ((pickM xs a % 5 : Nat) : Int) := wrap64 (by omega) (by omega)
  have wq : IntKind.i64.wrap ((pickM xs a / 5 : Nat) : Int) = ((pickM xs a / 5 : Nat) : Int) := wrap64 (by omega) (by omega)
  have wa := wrap64_succ (i := a) (by omega)
  generalize pickM xs a = v at *
  have tn := tmodN (v / 5) ((wcons t).map Prod.fst).length
  have hnl : ((wcons t).map Prod.fst).length = (wcons t).length := List.length_map _
  have hk : v / 5 % ((wcons t).map Prod.fst).length < ((wcons t).map Prod.fst).length := Nat.mod_lt _ (by omega)
  have hkl : v / 5 % ((wcons t).map Prod.fst).length < ((wcons t).map Prod.snd).length := by
    have e : ((wcons t).map Prod.snd).length = (wcons t).length := List.length_map _
    omega
  have hx := idx_S _ _ hk
  have hm : (((wcons t).map Prod.fst)[v / 5 % ((wcons t).map Prod.fst).length]'hk, ((wcons t).map Prod.snd)[v / 5 % ((wcons t).map Prod.fst).length]'hkl) ∈ wcons t := by
    rw [List.getElem_map, List.getElem_map]
    exact List.getElem_mem _
  have hwm := hwo _ hm
  have hln := len_S ((wcons t).map Prod.fst)
  have hos := one_dIll ((wcons t).map Prod.snd)
  have hzn : ((((wcons t).map Prod.fst).length : Int) == 0) = false := beq_false_of_ne (by omega)
  have hrun := fun ts => pt_run (xs := xs) hP hdp (a + 1) ((wcons t).map Prod.snd) _ hkl hwm.1 hwm.2 (by omega) (((wcons t).map Prod.fst)[v / 5 % ((wcons t).map Prod.fst).length]'hk) (wt t) ts
  have wk : IntKind.i64.wrap ((v / 5 % ((wcons t).map Prod.fst).length : Nat) : Int) = ((v / 5 % ((wcons t).map Prod.fst).length : Nat) : Int) := wrap64 (by omega) (by omega)
  simp only at hwm
  generalize ((wcons t).map Prod.snd)[v / 5 % ((wcons t).map Prod.fst).length]'hkl = ks at *
  generalize ((wcons t).map Prod.fst)[v / 5 % ((wcons t).map Prod.fst).length]'hk = s at *
  generalize v / 5 % ((wcons t).map Prod.fst).length = k at *
  generalize ((wcons t).map Prod.fst) = names at *
  generalize ((wcons t).map Prod.snd) = lls at *
  rw [show ((5 : Nat) : Int) = 5 from rfl] at t5 q5
  have p0 : dPl [] = .nils := rfl
  have f0 : fl ([] : List Pt) = false := rfl
  have f1 : fl ([] : List Ty) = false := rfl
  have f2 : ∀ w : Ty, fl [w] = true := fun _ => rfl
  have b0 : (((v % 5 : Nat) : Int) == 0) = false := beq_false_of_ne (by omega)
  have b1 : (((v % 5 : Nat) : Int) == 1) = false := beq_false_of_ne (by omega)
  have z0 : (((dp + 1 : Nat) : Int) == 0) = false := beq_false_of_ne (by omega)
  have z1 : (((t : Nat) : Int) == 0) = false := beq_false_of_ne (by omega)
  have l0 := lst1_T (wt 0)
  have l1 := lst1_T (wt 1)
  generalize hwt : wt t = w at *
  by_cases h2 : t = 2
  · obtain ⟨l, nx, g1, g2, g3, g4⟩ := hrun [wt 0]
    refine ⟨.mk 4 0 0 s l w [wt 0], nx, ⟨.con hm g2, by rw [Pt.size, hB]; omega⟩, by omega, pat_fun dp hR (o := false) (σ' := σ0) ?_⟩
    have b2 : (((t : Nat) : Int) == 2) = true := by rw [h2]; rfl
    have b4 : (((t : Nat) : Int) == 4) = false := by rw [h2]; rfl
    generalize wt 0 = u at *
    simp only [Ept, bPt, z10, f0, f2, p0, List.length_nil, zeroI] at g1
    simp only [dTy_eq, cTy_eq, zeroI] at hw hw0
    simp only [cTy_eq] at l0
    simp only [a_10, sA, Nat.reduceAdd, Nat.reduceSub, Nat.reduceMul, Nat.reduceBEq, Nat.reduceLeDiff, Int.reduceBEq, Int.reduceBNe, Int.reduceLE, Int.reduceLT, Int.reduceGE, Int.reduceGT, Int.reduceNeg, kn, onel, onep, hp, hw, hf, t5, w5, b0, b1, z0, z1, b2, b4, q5, wq, hln, hzn, tn, wk, natI, hx, hos, hw0, l0, wa, g1, dPt_eq, cPt, Pt.form, Pt.pos, Pt.n, Pt.name, Pt.kids, Pt.ty, Pt.types]
  · have b2 : (((t : Nat) : Int) == 2) = false := beq_false_of_ne (by omega)
    by_cases h4 : t = 4
    · obtain ⟨l, nx, g1, g2, g3, g4⟩ := hrun [wt 1]
      refine ⟨.mk 4 0 0 s l w [wt 1], nx, ⟨.con hm g2, by rw [Pt.size, hB]; omega⟩, by omega, pat_fun dp hR (o := false) (σ' := σ0) ?_⟩
      have b4 : (((t : Nat) : Int) == 4) = true := by rw [h4]; rfl
      generalize wt 1 = u at *
      simp only [Ept, bPt, z10, f0, f2, p0, List.length_nil, zeroI] at g1
      simp only [dTy_eq, cTy_eq, oneI] at hw hw1
      simp only [cTy_eq] at l1
      simp only [a_10, sA, Nat.reduceAdd, Nat.reduceSub, Nat.reduceMul, Nat.reduceBEq, Nat.reduceLeDiff, Int.reduceBEq, Int.reduceBNe, Int.reduceLE, Int.reduceLT, Int.reduceGE, Int.reduceGT, Int.reduceNeg, kn, onel, onep, hp, hw, hf, t5, w5, b0, b1, z0, z1, b2, b4, q5, wq, hln, hzn, tn, wk, natI, hx, hos, hw1, l1, wa, g1, dPt_eq, cPt, Pt.form, Pt.pos, Pt.n, Pt.name, Pt.kids, Pt.ty, Pt.types]
    · obtain ⟨l, nx, g1, g2, g3, g4⟩ := hrun []
      refine ⟨.mk 4 0 0 s l w [], nx, ⟨.con hm g2, by rw [Pt.size, hB]; omega⟩, by omega, pat_fun dp hR (o := false) (σ' := σ0) ?_⟩
      have b4 : (((t : Nat) : Int) == 4) = false := beq_false_of_ne (by omega)
      simp only [Ept, bPt, z10, f0, f1, p0, tys0, List.length_nil, zeroI] at g1
      simp only [dTy_eq, cTy_eq] at hw
      simp only [a_10, sA, Nat.reduceAdd, Nat.reduceSub, Nat.reduceMul, Nat.reduceBEq, Nat.reduceLeDiff, Int.reduceBEq, Int.reduceBNe, Int.reduceLE, Int.reduceLT, Int.reduceGE, Int.reduceGT, Int.reduceNeg, kn, onel, onep, hp, hw, hf, t5, w5, b0, b1, z0, z1, b2, b4, q5, wq, hln, hzn, tn, wk, natI, hx, hos, wa, g1, dPt_eq, cPt, Pt.form, Pt.pos, Pt.n, Pt.name, Pt.kids, Pt.ty, Pt.types, tys0]
theorem pattern_ok {d0 : D} {xs : List Int} (hR : IR d0 xs) : ∀ dp, dp < 90 → PatOk d0 dp
  | 0, _ => fun a t ha ht => by
    have ha' : a < 100000 := by omega
    have hp : a + 1 + 1 ≤ a + 2 ^ (0 + 1) := by omega
    have hs : 1 + 0 + 1 ≤ 2 ^ (0 + 1) := by omega
    by_cases h0 : pickM xs a % 5 = 0
    · exact ⟨_, _, ⟨.wild, hs⟩, hp, pat_wild hR ha' ht (by omega) 0 (.inl h0)⟩
    · by_cases t0 : 0 < t
      · exact ⟨_, _, ⟨.wild, hs⟩, hp, pat_wild hR ha' ht (by omega) 0 (.inr ⟨h0, rfl, t0⟩)⟩
      · by_cases h1 : pickM xs a % 5 = 1
        · exact ⟨_, _, ⟨.name, hs⟩, hp, pat_name hR ha' ht (by omega) 0 h1 (by omega)⟩
        · obtain rfl : t = 0 := by omega
          exact ⟨_, _, ⟨.num, hs⟩, hp, pat_num hR ha' (by omega) 0 (by omega)⟩
  | dp + 1, hd => fun a t ha ht => by
    have hB1 : 1 ≤ 2 ^ (dp + 1) := Nat.one_le_two_pow
    have hB : 2 ^ (dp + 1 + 1) = 2 ^ (dp + 1) + 2 ^ (dp + 1) := by rw [Nat.pow_succ]; omega
    have ha' : a < 100000 := by rw [hB] at ha; omega
    have hp : a + 1 + 1 ≤ a + 2 ^ (dp + 1 + 1) := by rw [hB]; omega
    have hs : 1 + 0 + 1 ≤ 2 ^ (dp + 1 + 1) := by rw [hB]; omega
    by_cases h0 : pickM xs a % 5 = 0
    · exact ⟨_, _, ⟨.wild, hs⟩, hp, pat_wild hR ha' ht (by omega) 0 (.inl h0)⟩
    · by_cases h1 : pickM xs a % 5 = 1
      · exact ⟨_, _, ⟨.name, hs⟩, hp, pat_name hR ha' ht (by omega) 0 h1 (by omega)⟩
      · by_cases t0 : 0 < t
        · exact pat_con hR (pattern_ok hR dp (by omega)) (by omega) ha ht t0 (by omega)
        · obtain rfl : t = 0 := by omega
          exact ⟨_, _, ⟨.num, hs⟩, hp, pat_num hR ha' (by omega) 0 (by omega)⟩
end Go.Fu
