/-
  A value of the program (api.Value) as plain data, and what the machine asks of it.
-/
import Derived.Test.YtdoppkjoemlhjaaDoorMxSym
import Derived.Test.YtdoppkjoemlhjaaDoorShBase
set_option linter.unusedSimpArgs false
set_option linter.unusedVariables false
namespace Go.Proofs.YtdoppkjoemlhjaaDoor.Sh
open Go Go.Mx
inductive V where
  | mk (form n : Int) (name : List UInt8) (kids : List V)
namespace V
def form : V → Int | mk f _ _ _ => f
def n : V → Int | mk _ n _ _ => n
def name : V → List UInt8 | mk _ _ s _ => s
def kids : V → List V | mk _ _ _ k => k
end V
abbrev kV : RowK := ⟨25, 4⟩
mutual
def dV : V → D | .mk f n s ks => .agg [.int .i64 f, .int .i64 n, .str s, dlist kV (dVs ks)]
def dVs : List V → List D | [] => [] | v :: r => dV v :: dVs r
end
theorem dVs_eq : ∀ l : List V, dVs l = l.map dV
  | [] => rfl
  | v :: l => by simp [dVs, dVs_eq l]
theorem dV_eq (v : V) : dV v = .agg [.int .i64 v.form, .int .i64 v.n, .str v.name, dlist kV (v.kids.map dV)] := by
  cases v
  simp [dV, V.form, V.n, V.name, V.kids, dVs_eq]
theorem wrap64 {n : Int} (h1 : -9223372036854775808 ≤ n) (h2 : n ≤ 9223372036854775807) : IntKind.i64.wrap n = n := by
  simp [IntKind.wrap, IntKind.bits, IntKind.signed]
  omega
theorem wrap64_succ {i : Nat} (h : i < 1099511627776) : IntKind.i64.wrap ((i : Int) + 1) = ((i + 1 : Nat) : Int) := by
  rw [wrap64 (by omega) (by omega)]
  rfl
theorem kid_nth (l : List V) (i : Nat) (h : i < l.length) : nth (l.map dV) i = some (dV l[i]) := by
  rw [nth_map, nth_get _ _ h]
  rfl
theorem kid_row (l : List V) (i : Nat) (h : i < l.length) : (dlist kV (l.map dV)).row? = some (kV, l.map dV) := row?_dlist (by
  intro e
  have := congrArg List.length e
  simp at this
  rw [this] at h
  simp at h)
theorem kid_nthx (l : List V) (i : Nat) (h : i < l.length) : nth (l.map dV) i = some (.agg [.int .i64 l[i].form, .int .i64 l[i].n, .str l[i].name, dlist kV (l[i].kids.map dV)]) := by
  rw [kid_nth l i h, dV_eq]
theorem agg?_dV (v : V) : (dV v).agg? = some (dV v).cells := by rw [dV_eq]; rfl
theorem cells_dV (v : V) : (dV v).cells.length = 4 := by rw [dV_eq]; rfl
theorem ok_dV (v : V) : (dV v).ok = true := by rw [dV_eq]; rfl
theorem one_dV (v : V) : (dV v).one = false := by rw [dV_eq]; rfl
section
variable {f n : Int} {s : List UInt8} {ks : List V}
theorem form_mk : (V.mk f n s ks).form = f := rfl
theorem n_mk : (V.mk f n s ks).n = n := rfl
theorem name_mk : (V.mk f n s ks).name = s := rfl
theorem kids_mk : (V.mk f n s ks).kids = ks := rfl
end
theorem zeroI : ((0 : Nat) : Int) = 0 := rfl
/-- Is a list's room owned, so many laid? -/
def ow : Nat → Bool
  | 0 => false
  | _ + 1 => true
/-- What is laid so far, and one more. -/
theorem app_take (l : List V) (i : Nat) (h : i < l.length) (hl : l.length < 1048576) : appendD kV 56 ⟨ow i, dlist kV ((l.take i).map dV)⟩ (.list kV [dV l[i]]) = some ⟨ow (i + 1), dlist kV ((l.take (i + 1)).map dV)⟩ := by
  have hlen : ((l.take i).map dV).length = i := by simp; omega
  rw [append_one (fun hne => by
      cases i with
      | zero => simp at hne
      | succ i => rfl) (ok_dV _) (cells_dV _) (by rw [hlen]; unfold bound; omega) (by rw [hlen]; unfold bound; omega)]
  rw [List.take_add_one, List.map_append]
  simp [h, ow]
/-- No list in it is longer than any machine's. -/
inductive Fit : V → Prop
  | mk (f n : Int) (s : List UInt8) (ks : List V) (h : ks.length < 1048576) (hk : ∀ k ∈ ks, Fit k) : Fit (.mk f n s ks)
end Go.Proofs.YtdoppkjoemlhjaaDoor.Sh

