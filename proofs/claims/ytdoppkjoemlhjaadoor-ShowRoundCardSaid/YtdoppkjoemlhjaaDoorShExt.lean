/-
  What the library's functions yield, as functions on the machine's data.
-/
import Derived.Test.YtdoppkjoemlhjaaDoorShCode
import Derived.Test.YtdoppkjoemlhjaaDoorMxRecover
set_option linter.unusedSimpArgs false
set_option linter.unusedVariables false
namespace Go.Proofs.YtdoppkjoemlhjaaDoor.Sh
open Go Go.Mx
/-- A number's digits, reckoned with fuel. -/
def digF : Nat → Nat → List UInt8 → List UInt8
  | 0, _, acc => acc
  | k + 1, n, acc => ifB (decide (n < 10)) (UInt8.ofNat (48 + n) :: acc) (digF k (n / 10) (UInt8.ofNat (48 + n % 10) :: acc))
def digN (n : Nat) : List UInt8 := digF 20 n []
def itoaN (n : Int) : List UInt8 := match n with
  | .ofNat m => digN m
  | .negSucc m => 45 :: digN (m + 1)
def inI64 (n : Int) : Bool := decide (-9223372036854775808 ≤ n) && decide (n ≤ 9223372036854775807)
def xItoa : List D → Option D
  | [.int .i64 n] => ifB (inI64 n) (some (.str (itoaN n))) none
  | _ => none
def mem8 : List UInt8 → UInt8 → Bool
  | [], _ => false
  | x :: l, b => ifB (x == b) true (mem8 l b)
def anyAt : List UInt8 → List UInt8 → Nat → Option Nat
  | [], _, _ => none
  | b :: l, c, i => ifB (mem8 c b) (some i) (anyAt l c (i + 1))
def ascii : List UInt8 → Bool
  | [] => true
  | b :: l => ifB (decide (b.toNat < 128)) (ascii l) false
def xIndexAny : List D → Option D
  | [.str s, .str c] => ifB (ascii s && ascii c && decide (s.length < 4294967281) && decide (c.length < 4294967281)) (some (match anyAt s c 0 with | some i => .int .i64 i | none => .int .i64 (-1))) none
  | _ => none
def xCopy (ds : List D) (σ : Store) : Option (Out × Store) := match ds with
  | [.ptr id 0] => bindO (aget σ.tys id) fun t => ifB (t == 49) (bindO (aget σ.objs id) fun cs => match cs with
    | [c0, c1] => (match c0.d with
      | .nilp => some (.ret ⟨false, .tup []⟩, { σ with objs := aset σ.objs id [⟨false, .ptr id 0⟩, c1] })
      | .ptr id' 0 => ifB (id' == id) (some (.ret ⟨false, .tup []⟩, σ)) none
      | _ => none)
    | _ => none) none
  | _ => none
def isByteRow (k : RowK) : Bool := k.el == 5 && k.sz == 1
def xString (ds : List D) (σ : Store) : Option (Out × Store) := match ds with
  | [.ptr id 0] => bindO (aget σ.tys id) fun t => ifB (t == 49) (bindO (aget σ.objs id) fun cs => match cs with
    | [c0, c1] => (match c1.d with
      | .list k es => ifB (c1.own && isByteRow k && !es.isEmpty) (bindO (bytesOf es) fun s => some (.ret ⟨false, .str s⟩, { σ with objs := aset σ.objs id [c0, ⟨false, c1.d⟩] })) none
      | _ => none)
    | _ => none) none
  | _ => none
def Xl : CallF := fun f ds σ => match f with
  | 31 => bindO (xItoa ds) fun d => some (.ret ⟨false, d⟩, σ)
  | 64 => bindO (xIndexAny ds) fun d => some (.ret ⟨false, d⟩, σ)
  | 43 => xCopy ds σ
  | 32 => xString ds σ
  | _ => none
/-- show.Read's recovering function. -/
def Rl : RecF := fun f ds m σ => match f with
  | 34 => recRun (fun _ _ _ => none) 3 r34 2 3 2 ds m σ
  | _ => none
def Γl : FuncId → Option AFun := fun f => match f with
  | 3 => some a3
  | 4 => some a4
  | 5 => some a5
  | 6 => some a6
  | 7 => some a7
  | 8 => some a8
  | 9 => some a9
  | 10 => some a10
  | 11 => some a11
  | 12 => some a12
  | 13 => some a13
  | 14 => some a14
  | 15 => some a15
  | 16 => some a16
  | 17 => some a17
  | 18 => some a18
  | 19 => some a19
  | 20 => some a20
  | 21 => some a21
  | 22 => some a22
  | 23 => some a23
  | 24 => some a24
  | 25 => some a25
  | 26 => some a26
  | 27 => some a27
  | 28 => some a28
  | 29 => some a29
  | 30 => some a30
  | 33 => some a33
  | 35 => some a35
  | 36 => some a36
  | 37 => some a37
  | 38 => some a38
  | 39 => some a39
  | 40 => some a40
  | 41 => some a41
  | 42 => some a42
  | 45 => some a45
  | 46 => some a46
  | 47 => some a47
  | 48 => some a48
  | 49 => some a49
  | 50 => some a50
  | 51 => some a51
  | 52 => some a52
  | 53 => some a53
  | 56 => some a56
  | 57 => some a57
  | 58 => some a58
  | 59 => some a59
  | 65 => some a65
  | 67 => some a67
  | 68 => some a68
  | 69 => some a69
  | 79 => some a79
  | 90 => some a90
  | 94 => some a94
  | 95 => some a95
  | _ => none
def lives0 : Option (Out × Store) := runQ Γl Rl Xl 200 false 14 [] { objs := [], tys := [], iters := [], next := 0 }
def okLives : Bool := match lives0 with
  | some (.ret c, _) => !c.own && (match c.d with | .bool b => b | _ => false)
  | _ => false

theorem lives_runs : okLives = true := by kernel_rfl
/-- The document's example is served from without. -/
def Γm : FuncId → Option AFun := fun f => ifB (f == 14) none (Γl f)
def Xm : CallF := fun f ds σ => match f with
  | 14 => ifB ds.isEmpty (some (.ret ⟨false, .bool true⟩, σ)) none
  | f => Xl f ds σ
end Go.Proofs.YtdoppkjoemlhjaaDoor.Sh

