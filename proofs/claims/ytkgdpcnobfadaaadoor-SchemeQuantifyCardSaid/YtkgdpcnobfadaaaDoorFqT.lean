/-
  Functions whose slices are lists (printed by gen2.py).
-/
import Derived.Test.YtkgdpcnobfadaaaDoorProg
import Derived.Test.YtkgdpcnobfadaaaDoorFqOk
import Derived.Test.YtkgdpcnobfadaaaDoorFqBase
import Derived.Test.YtkgdpcnobfadaaaDoorMzSy
set_option linter.unusedSimpArgs false
set_option linter.unusedVariables false
namespace Go.Fu
open Go Go.Mx
def b_scheme_put_l0 : ACode :=
  (.seq
  (.region [
  ⟨(some 15), .bin .lss (.tmp 14) (.tmp 13), none⟩] none [])
  (.seq
  (.cond (.tmp 15)
  .skip
  (.exit 0))
  (.seq
  (.block 1
  (.seq
  (.region [
  ⟨(some 16), .indexAddr 5 (.tmp 12) (.tmp 14), none⟩,
  ⟨(some 17), .load (some 5) false (.tmp 16), none⟩,
  ⟨(some 10), .alloc [.str [], .int .i64 0, .int .i64 0, .str [], .nils], none⟩,
  ⟨none, .store 5 (.tmp 10) (.mv 17), none⟩] none [15, 16, 17])
  (.region [
  ⟨(some 18), .mov (.mv 8), none⟩,
  ⟨(some 19), .fieldAddr 0 none (.tmp 10), none⟩,
  ⟨(some 20), .loadB 10 none (.tmp 19), none⟩,
  ⟨(some 21), .fieldAddr 1 (some 4) (.tmp 10), none⟩,
  ⟨(some 22), .loadB 10 (some 4) (.tmp 21), none⟩,
  ⟨(some 23), .mov (.tmp 1), none⟩,
  ⟨(some 24), .mov (.tmp 2), none⟩,
  ⟨(some 25), .call n_types_Subst [(.tmp 22), (.tmp 23), (.tmp 24)], none⟩,
  ⟨(some 26), .build [.str [], .int .i64 0, .int .i64 0, .str [], .nils] [(0, 1, (.tmp 20)), (1, 4, (.tmp 25))], none⟩,
  ⟨(some 27), .buildSlice k_api_Pred [(.tmp 26)], none⟩,
  ⟨(some 28), .append k_api_Pred 72 (.mv 18) (.tmp 27), none⟩,
  ⟨(some 8), .mov (.mv 28), none⟩] (some [0, 1, 2, 3, 4, 5, 6, 7, 8, 9, 10, 11]) [10, 18, 19, 20, 21, 22, 23, 24, 25, 26, 27, 28])))
  (.region [
  ⟨(some 29), .bin .add (.tmp 14) (.const (.int .i64 1)), none⟩,
  ⟨(some 14), .mov (.mv 29), none⟩] none [29]))))
/-- fugue/scheme.put -/
def b_scheme_put : AFun :=
  { nargs := 3, ntmps := 36, res := [.tmp 6, .cell 7 (some 4)], gc := false, body :=
  (.seq
  (.region [
  ⟨(some 3), .box (.tmp 0), none⟩,
  ⟨(some 6), .mov (.const (.nils)), none⟩,
  ⟨(some 7), .alloc [.int .i64 0, .int .i64 0, .str [], .nils], none⟩] none [0, 6])
  (.seq
  (.region [
  ⟨(some 8), .mov (.const (.nils)), none⟩] none [])
  (.seq
  (.seq
  (.region [
  ⟨(some 11), .fieldAddr 2 none (.tmp 3), none⟩,
  ⟨(some 12), .load none false (.tmp 11), none⟩,
  ⟨(some 13), .len (.tmp 12), none⟩,
  ⟨(some 14), .mov (.const (.int .i64 0)), none⟩] none [11])
  (.block 0
  (.loop b_scheme_put_l0)))
  (.seq
  (.region [
  ⟨(some 30), .mov (.mv 8), none⟩,
  ⟨(some 31), .fieldAddr 3 (some 4) (.tmp 3), none⟩,
  ⟨(some 32), .load (some 4) false (.tmp 31), none⟩,
  ⟨(some 33), .mov (.mv 1), none⟩,
  ⟨(some 34), .mov (.mv 2), none⟩,
  ⟨(some 35), .call n_types_Subst [(.tmp 32), (.tmp 33), (.tmp 34)], none⟩,
  ⟨(some 6), .mov (.mv 30), none⟩,
  ⟨none, .store 4 (.tmp 7) (.mv 35), none⟩] none [1, 2, 3, 8, 12, 13, 14, 15, 30, 31, 32, 33, 34, 35])
  .ret)))) }
theorem okb_scheme_put : okFun Go.Proofs.Tryd.prog Go.Proofs.Tryd.f60 b_scheme_put = true := by kernel_rfl
end Go.Fu

/-
  The program run by the machine; types and predicates as data.
-/
namespace Go.Fu
open Go Go.Mx
def Γs : FuncId → Option AFun := fun f => ifB (f == n_l13_lives) none (ifB (f == n_scheme_put) (some b_scheme_put) (Γa f))
def Xs : CallF := fun f ds σ => ifB (f == n_l13_lives) (ifB ds.isEmpty (some (.ret ⟨false, .bool true⟩, σ)) none) (Xa f ds σ)
theorem Γs_holds : Holds Go.Proofs.Tryd.prog Γs := by
  intro f af h
  unfold Γs at h
  cases h1 : f == n_l13_lives with
  | true => rw [h1] at h; cases h
  | false =>
    rw [h1, ifB_false] at h
    cases h2 : f == n_scheme_put with
    | true =>
      rw [h2, ifB_true] at h
      cases h
      have : f = n_scheme_put := by simpa using h2
      subst this
      exact ⟨_, Go.Proofs.Tryd.func60, okb_scheme_put⟩
    | false =>
      rw [h2, ifB_false] at h
      exact Γa_holds f af h
theorem Xs_sound : CSound Go.Proofs.Tryd.prog κ Xs := by
  intro f ds σ out σ' h
  unfold Xs at h
  cases h1 : f == n_l13_lives with
  | true =>
    rw [h1, ifB_true] at h
    obtain ⟨h2, h3⟩ := ifB_some h
    cases h3
    have : f = n_l13_lives := by simpa using h1
    subst this
    cases ds with
    | nil => exact lives_ok σ
    | cons d l => cases h2
  | false =>
    rw [h1, ifB_false] at h
    exact Xa_sound _ _ _ _ _ h
/-- The program, with so much fuel. -/
def T (n : Nat) : CallF := runQ Γs Ra Xs n false
def TD (n : Nat) : CallF := runQ Γs Ra Xs n true
theorem T_sound (n : Nat) : CSound Go.Proofs.Tryd.prog κ (T n) := (run_sound Γs_holds Ra_sound Xs_sound n).1
theorem T_fun {n : Nat} {f : FuncId} {af : AFun} {ds : List D} {σ : Store} (h : Γs f = some af) (hl : ds.length = af.nargs) : T (n + 1) f ds σ = finX Ra (TD n) af σ.next (exec (T n) n af.body (initEnv ds) σ) := runQ_fun h hl
theorem T_lib {n : Nat} {f : FuncId} {ds : List D} {σ : Store} (h : Γs f = none) : T (n + 1) f ds σ = Xs f ds σ := runQ_lib h
theorem any (p : Nat → Prop) (h : ∀ n, p (n + 1)) : Evly p := (Evly.all (p := fun _ => True) fun _ => trivial).step 0 fun n _ _ => h n
theorem lives_run : Evly fun n => ∀ σ, T n n_l13_lives [] σ = some (.ret ⟨false, .bool true⟩, σ) := any _ fun n σ => by rw [T_lib rfl]; rfl
theorem wrap64 {n : Int} (h1 : -9223372036854775808 ≤ n) (h2 : n ≤ 9223372036854775807) : IntKind.i64.wrap n = n := by
  simp [IntKind.wrap, IntKind.bits, IntKind.signed]
  omega
theorem wrap64_succ {i : Nat} (h : i < 1099511627776) : IntKind.i64.wrap ((i : Int) + 1) = ((i + 1 : Nat) : Int) := by
  rw [wrap64 (by omega) (by omega)]
  rfl
theorem nat1 {k : IntKind} : D.nat? (.int k 1) = some 1 := rfl
theorem nat2 {k : IntKind} : D.nat? (.int k 2) = some 2 := rfl
theorem nat3 {k : IntKind} : D.nat? (.int k 3) = some 3 := rfl
theorem nat4 {k : IntKind} : D.nat? (.int k 4) = some 4 := rfl
theorem nat5 {k : IntKind} : D.nat? (.int k 5) = some 5 := rfl
theorem nat6 {k : IntKind} : D.nat? (.int k 6) = some 6 := rfl
theorem nat7 {k : IntKind} : D.nat? (.int k 7) = some 7 := rfl
theorem nat8 {k : IntKind} : D.nat? (.int k 8) = some 8 := rfl
theorem idxL {sz n : Nat} {k : RowK} {es : List D} : indexD sz (.list k es) n = ifB (k.sz == sz) (bindO (nth es n) fun d => some (.eptr d)) none := rfl
theorem zeroI : ((0 : Nat) : Int) = 0 := rfl
def Small (x : Int) : Prop := -9223372036854775808 ≤ x ∧ x ≤ 9223372036854775807
/-- A type without TAll: what a small world's are. -/
inductive Tp where
  | hole (n : Int)
  | var (s : List UInt8)
  | con (s : List UInt8)
  | app (f a : Tp)
namespace Tp
def form : Tp → Int
  | .hole _ => 1
  | .var _ => 2
  | .con _ => 3
  | .app _ _ => 4
def num : Tp → Int
  | .hole n => n
  | _ => 0
def name : Tp → List UInt8
  | .var s => s
  | .con s => s
  | _ => []
def args : Tp → List Tp
  | .app f a => [f, a]
  | _ => []
end Tp
def dT : Tp → D
  | .hole n => .agg [.int .i64 1, .int .i64 n, .str [], .nils]
  | .var s => .agg [.int .i64 2, .int .i64 0, .str s, .nils]
  | .con s => .agg [.int .i64 3, .int .i64 0, .str s, .nils]
  | .app f a => .agg [.int .i64 4, .int .i64 0, .str [], .list k_api_Type [dT f, dT a]]
/-- A type's cells. -/
def cT (t : Tp) : List D := [.int .i64 t.form, .int .i64 t.num, .str t.name, dlist k_api_Type (t.args.map dT)]
theorem dT_eq (t : Tp) : dT t = .agg (cT t) := by cases t <;> rfl
theorem agg?_dT (t : Tp) : (dT t).agg? = some (dT t).cells := by rw [dT_eq]; rfl
theorem dT_cells (t : Tp) : (dT t).cells = cT t := by rw [dT_eq]; rfl
theorem cells_dT (t : Tp) : (dT t).cells.length = 4 := by rw [dT_eq]; rfl
theorem ok_dT : ∀ t : Tp, (dT t).ok = true := by
  intro t
  rw [dT_eq]
  simp only [cT, D.ok, List.all_cons, D.one, one_dlist, List.all_nil, Bool.and_self]
theorem args_len (t : Tp) : t.args.length ≤ 2 := by cases t <;> simp [Tp.args]
structure Pr where
  cls : List UInt8
  ty : Tp
def dP (p : Pr) : D := .agg (.str p.cls :: cT p.ty)
theorem dP_eq (p : Pr) : dP p = .agg [.str p.cls, .int .i64 p.ty.form, .int .i64 p.ty.num, .str p.ty.name, dlist k_api_Type (p.ty.args.map dT)] := rfl
/-- Lists: of types, of predicates, of texts. -/
def dTs (l : List Tp) : D := dlist k_api_Type (l.map dT)
def dPs (l : List Pr) : D := dlist k_api_Pred (l.map dP)
def dSs (l : List (List UInt8)) : D := dlist k_string (l.map D.str)
theorem all_dT (l : List Tp) : ∀ d ∈ l.map dT, d.ok = true ∧ d.cells.length = 4 := by
  intro d hd
  obtain ⟨v, _, rfl⟩ := List.mem_map.1 hd
  exact ⟨ok_dT v, cells_dT v⟩
theorem ok_dP (p : Pr) : (dP p).ok = true := by
  simp only [dP, cT, D.ok, List.all_cons, D.one, one_dlist, List.all_nil, Bool.and_self]
theorem cells_dP (p : Pr) : (dP p).cells.length = 5 := rfl
theorem nth_dT (l : List Tp) (i : Nat) (h : i < l.length) : nth (l.map dT) i = some (dT l[i]) := by
  rw [nth_map, nth_get _ _ h]
  rfl
theorem nth_dP (l : List Pr) (i : Nat) (h : i < l.length) : nth (l.map dP) i = some (dP l[i]) := by
  rw [nth_map, nth_get _ _ h]
  rfl
theorem nth_str (l : List (List UInt8)) (i : Nat) (h : i < l.length) : nth (l.map D.str) i = some (.str l[i]) := by
  rw [nth_map, nth_get _ _ h]
  rfl
theorem row_map {α : Type} (k : RowK) (f : α → D) (l : List α) (h : l ≠ []) : (dlist k (l.map f)).row? = some (k, l.map f) := row?_dlist (by simpa using h)
theorem idx_map {α : Type} {k : RowK} {sz : Nat} (hs : k.sz = sz) (f : α → D) (l : List α) (i : Nat) (h : i < l.length) : indexD sz (dlist k (l.map f)) i = some (.eptr (f l[i])) := by
  have hn : nth (l.map f) i = some (f l[i]) := by rw [nth_map, nth_get _ _ h]; rfl
  cases l with
  | nil => simp at h
  | cons x r =>
    simp only [List.map_cons, dlist, indexD, hs, beq_self_eq_true, ifB_true] at hn ⊢
    rw [hn]
    rfl
theorem idx_T (l : List Tp) (i : Nat) (h : i < l.length) : indexD 4 (dlist k_api_Type (l.map dT)) i = some (.eptr (dT l[i])) := idx_map rfl _ _ _ h
theorem idx_P (l : List Pr) (i : Nat) (h : i < l.length) : indexD 5 (dlist k_api_Pred (l.map dP)) i = some (.eptr (dP l[i])) := idx_map rfl _ _ _ h
theorem idx_S (l : List (List UInt8)) (i : Nat) (h : i < l.length) : indexD 1 (dlist k_string (l.map D.str)) i = some (.eptr (.str l[i])) := idx_map rfl _ _ _ h
theorem ne_of_lt {α : Type} {l : List α} {i : Nat} (h : i < l.length) : l ≠ [] := fun e => by rw [e] at h; simp at h
theorem append_T (l : List Tp) (v : Tp) (o : Bool) (ho : l ≠ [] → o = true) (hl : l.length < 1048576) : appendD k_api_Type 56 ⟨o, dlist k_api_Type (l.map dT)⟩ [dT v] = some ⟨true, dlist k_api_Type ((l ++ [v]).map dT)⟩ := by
  rw [append_one (fun h => ho (by simpa using h)) (ok_dT _) (cells_dT _) (by simp [bound]; omega) (by simp [bound]; omega)]
  simp
theorem append_P (l : List Pr) (v : Pr) (o : Bool) (ho : l ≠ [] → o = true) (hl : l.length < 1048576) : appendD k_api_Pred 72 ⟨o, dlist k_api_Pred (l.map dP)⟩ [dP v] = some ⟨true, dlist k_api_Pred ((l ++ [v]).map dP)⟩ := by
  rw [append_one (fun h => ho (by simpa using h)) (ok_dP _) (cells_dP _) (by simp [bound]; omega) (by simp [bound]; omega)]
  simp
theorem append_S (l : List (List UInt8)) (v : List UInt8) (o : Bool) (ho : l ≠ [] → o = true) (hl : l.length < 1048576) : appendD k_string 16 ⟨o, dlist k_string (l.map D.str)⟩ [.str v] = some ⟨true, dlist k_string ((l ++ [v]).map D.str)⟩ := by
  rw [append_one (fun h => ho (by simpa using h)) rfl rfl (by simp [bound]; omega) (by simp [bound]; omega)]
  simp
/-- Is a list's room owned, so many laid? -/
def ow : Nat → Bool
  | 0 => false
  | _ + 1 => true
end Go.Fu

