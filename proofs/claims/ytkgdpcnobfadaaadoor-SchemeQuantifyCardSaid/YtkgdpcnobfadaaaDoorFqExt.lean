/-
  What the library's functions yield, as functions on the machine's data.
-/
import Derived.Test.YtkgdpcnobfadaaaDoorFqCode2
import Derived.Test.YtkgdpcnobfadaaaDoorMzRecover
set_option linter.unusedSimpArgs false
set_option linter.unusedVariables false
namespace Go.Fu
open Go Go.Mx
/-- A number's digits, reckoned with fuel. -/
def digF : Nat → Nat → List UInt8 → List UInt8
  | 0, _, acc => acc
  | k + 1, n, acc => ifB (decide (n < 10)) (UInt8.ofNat (48 + n) :: acc) (digF k (n / 10) (UInt8.ofNat (48 + n % 10) :: acc))
def digN (n : Nat) : List UInt8 := digF 20 n []
def itoaN (n : Int) : List UInt8 := match n with
  | .ofNat m => digN m
  | .negSucc m => 45 :: digN (m + 1)
def inI64 (n : Int) : Bool := decide (-9223372036854775808 ≤ n) && decide (n ≤ 9223372036854775807)
def xItoa : List D → Option D
  | [.int .i64 n] => ifB (inI64 n) (some (.str (itoaN n))) none
  | _ => none
/-- A builder's object: its own place, its bytes. -/
def xCopy (ds : List D) (σ : Store) : Option (Out × Store) := match ds with
  | [.ptr id 0] => bindO (aget σ.tys id) fun t => ifB (t.t == t_strings_Builder) (bindO (aget σ.objs id) fun cs => match cs with
    | [c0, c1] => (match c0.d with
      | .nilp => some (.ret ⟨false, .tup []⟩, { σ with objs := aset σ.objs id [⟨false, .ptr id 0⟩, c1] })
      | .ptr id' 0 => ifB (id' == id) (some (.ret ⟨false, .tup []⟩, σ)) none
      | _ => none)
    | _ => none) none
  | _ => none
def isByteRow (k : RowK) : Bool := k.el == k_uint8.el && k.sz == 1
def xString (ds : List D) (σ : Store) : Option (Out × Store) := match ds with
  | [.ptr id 0] => bindO (aget σ.tys id) fun t => ifB (t.t == t_strings_Builder) (bindO (aget σ.objs id) fun cs => match cs with
    | [c0, c1] => (match c1.d with
      | .list k es => ifB (c1.own && isByteRow k && !es.isEmpty) (bindO (bytesOf es) fun s => some (.ret ⟨false, .str s⟩, { σ with objs := aset σ.objs id [c0, ⟨false, c1.d⟩] })) none
      | _ => none)
    | _ => none) none
  | _ => none
/-- Grow, of a fresh builder. -/
def xGrow (ds : List D) (σ : Store) : Option (Out × Store) := match ds with
  | [.ptr id 0, .int .i64 (.ofNat n)] => bindO (aget σ.tys id) fun t => ifB (t.t == t_strings_Builder && decide (0 < n) && decide (n ≤ 1099511627776)) (bindO (aget σ.objs id) fun cs => match cs with
    | [c0, c1] => (match c0.d, c1.d with
      | .nilp, .nils => some (.ret ⟨false, .tup []⟩, { σ with objs := aset σ.objs id [⟨false, .ptr id 0⟩, ⟨true, .list k_uint8 []⟩] })
      | _, _ => none)
    | _ => none) none
  | _ => none
end Go.Fu

