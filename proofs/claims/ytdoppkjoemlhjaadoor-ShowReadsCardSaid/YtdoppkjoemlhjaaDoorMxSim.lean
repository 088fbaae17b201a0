/-
  A small deterministic machine over plain data, to which the walks of a translated program are brought back: its values, its code, and the function that runs it. Nothing here speaks of a world.
-/
import GoSem.Core.Code
import GoSem.Core.View
import GoSem.Op.String
import GoSem.Core.Utf8
import Derived.WalkKit
set_option linter.unusedSimpArgs false
set_option linter.unusedVariables false
namespace Go.Mx
open Go

/-- What a row of a list is: its elements' type, of how many cells. -/
structure RowK where
  el : Nat
  sz : Nat
  deriving Inhabited
def RowK.same (a b : RowK) : Bool := a.el == b.el && a.sz == b.sz

inductive D where
  | undef
  | bool (b : Bool)
  | int (k : IntKind) (n : Int)
  | str (s : List UInt8)
  | nils
  | list (k : RowK) (es : List D)
  | agg (cs : List D)
  | tup (ds : List D)
  | nilp
  | ptr (id off : Nat)
  | eptr (d : D)
  | fn (f : Fn) (first caps : List D)
  | nilfn
  | iface (t : TypeId) (d : D)
  | niliface
  | junk
  deriving Inhabited

structure Cell where
  own : Bool
  d : D
  deriving Inhabited

/-- A case on an option, on a Bool: functions, so that a rewriting goes into what is asked alone. -/
def caseO {α β : Type} (x : Option α) (n : β) (f : α → β) : β := match x with
  | none => n
  | some a => f a
def ifB {β : Type} (b : Bool) (x y : β) : β := match b with
  | true => x
  | false => y
theorem caseO_none {α β : Type} (n : β) (f : α → β) : caseO none n f = n := rfl
theorem caseO_some {α β : Type} (a : α) (n : β) (f : α → β) : caseO (some a) n f = f a := rfl
theorem ifB_true {β : Type} (x y : β) : ifB true x y = x := rfl
theorem ifB_false {β : Type} (x y : β) : ifB false x y = y := rfl
@[congr] theorem caseO_congr {α β : Type} {x y : Option α} (n : β) (f : α → β) (h : x = y) : caseO x n f = caseO y n f := by rw [h]
@[congr] theorem ifB_congr {β : Type} {a b : Bool} (x y : β) (h : a = b) : ifB a x y = ifB b x y := by rw [h]
abbrev bindO {α β : Type} (x : Option α) (f : α → Option β) : Option β := caseO x none f

/-- Association lists by number. -/
def aget {α : Type} : List (Nat × α) → Nat → Option α
  | [], _ => none
  | (k, v) :: r, s => ifB (k == s) (some v) (aget r s)
def nth {α : Type} : List α → Nat → Option α
  | [], _ => none
  | x :: _, 0 => some x
  | _ :: l, n + 1 => nth l n
def aset {α : Type} : List (Nat × α) → Nat → α → List (Nat × α)
  | [], s, x => [(s, x)]
  | (k, v) :: r, s, x => ifB (k == s) ((k, x) :: r) ((k, v) :: aset r s x)
def mem : List Nat → Nat → Bool
  | [], _ => false
  | x :: l, k => ifB (x == k) true (mem l k)
def adel {α : Type} : List (Nat × α) → List Nat → List (Nat × α)
  | [], _ => []
  | (k, v) :: r, l => ifB (mem l k) (adel r l) ((k, v) :: adel r l)
def adel1 {α : Type} : List (Nat × α) → Nat → List (Nat × α)
  | [], _ => []
  | (k, v) :: r, s => ifB (k == s) (adel1 r s) ((k, v) :: adel1 r s)
/-- Places of local variables that lead into the box of a slot are forgotten. -/
def lkill : List (Nat × (Nat × Nat)) → Nat → List (Nat × (Nat × Nat))
  | [], _ => []
  | (k, (b, o)) :: r, s => ifB (b == s) (adel1 (lkill r s) k) ((k, (b, o)) :: lkill r s)

structure Env where
  slots : List (Nat × Cell)
  locs : List (Nat × (Nat × Nat))
  boxes : List (Nat × List Cell)
  defers : List (FuncId × List D)
  deriving Inhabited

/-- The deferred calls alone. -/
def Env.bare (e : Env) : Env := { slots := [], locs := [], boxes := [], defers := e.defers }
structure Store where
  objs : List (Nat × List Cell)
  tys : List (Nat × Nat)
  iters : List (Nat × (List UInt8 × Nat))
  next : Nat
  deriving Inhabited

inductive AOpd where
  | tmp (s : Nat)
  | mv (s : Nat)
  | const (d : D)
  deriving Inhabited

inductive AOp where
  | mov (x : AOpd)
  | pick (c a b : AOpd)
  | alloc (z : List D)
  | box (x : AOpd)
  | galloc (t : Nat) (z : List D)
  | gbox (t : Nat) (x : AOpd)
  | rangeS (x : AOpd)
  | nextS (x : AOpd)
  | build (z : List D) (parts : List (Nat × Nat × AOpd))
  | buildSlice (k : RowK) (parts : List AOpd)
  | load (k : Option Nat) (mv : Bool) (x : AOpd)
  | loadL (k : Option Nat) (mv : Bool) (x : AOpd)
  | store (k : Nat) (x y : AOpd)
  | loadA (k : Nat) (x : AOpd)
  | storeA (k : Nat) (x y : AOpd)
  | nilCheck (x : AOpd)
  | bin (op : BinOp) (x y : AOpd)
  | binB (op : BinOp) (x y : AOpd)
  | un (op : UnOp) (x : AOpd)
  | toInt (k : IntKind) (x : AOpd)
  | toStr (x : AOpd)
  | runeStr (x : AOpd)
  | bytesToStr (x : AOpd)
  | strToBytes (k : RowK) (x : AOpd)
  | mkIface (t : TypeId) (x : AOpd)
  | mkFunc (fn : Fn) (first caps : List AOpd)
  | slice (sz : Nat) (x : AOpd) (lo hi : Option AOpd)
  | sliceS (x : AOpd) (lo hi : Option AOpd)
  | fieldAddr (off : Nat) (k : Option Nat) (x : AOpd)
  | field (off : Nat) (k : Option Nat) (x : AOpd)
  | indexAddr (sz : Nat) (x i : AOpd)
  | index (x i : AOpd)
  | extract (x : AOpd) (i : Nat)
  | len (x : AOpd)
  | lenS (x : AOpd)
  | append (k : RowK) (by_ : Nat) (x y : AOpd)
  | appendS (k : RowK) (by_ : Nat) (x y : AOpd)
  | isNil (op : BinOp) (x : AOpd)
  | isNilP (op : BinOp) (x : AOpd)
  | assertT (t : Nat) (z : D) (x : AOpd)
  | call (f : FuncId) (args : List AOpd)
  | callv (x : AOpd) (args : List AOpd)
  | deferv (x : AOpd) (args : List AOpd)
  | panic (x : AOpd)
  deriving Inhabited

structure AOper where
  dst : Option Nat
  op : AOp
  guard : Option (Nat × Bool)
  deriving Inhabited

inductive ACode where
  | skip
  | region (ops : List AOper) (draw : Option (List Nat)) (clr : List Nat)
  | seq (a b : ACode)
  | cond (c : AOpd) (t e : ACode)
  | block (id : Nat) (body : ACode)
  | loop (body : ACode)
  | exit (id : Nat)
  | ret
  | scope (body : ACode)
  | stuck
  deriving Inhabited

inductive ARes where
  | tmp (s : Nat)
  | cell (s : Nat) (k : Option Nat)
  | cellA (s : Nat) (k : Nat)
  deriving Inhabited

structure AFun where
  nargs : Nat
  ntmps : Nat
  res : List ARes
  body : ACode
  gc : Bool
  deriving Inhabited

inductive AExit where
  | normal
  | exit (id : Nat)
  | ret
  | panic (d : D)
  deriving Inhabited

inductive Out where
  | ret (c : Cell)
  | panic (d : D)
  deriving Inhabited

/-- The one-cell parts of a value. -/
def D.cells : D → List D
  | .agg cs => cs
  | d => [d]
/-- Is it of one cell that may lie in memory? -/
def D.one : D → Bool
  | .agg _ => false
  | .undef => false
  | .tup _ => false
  | .junk => false
  | _ => true
/-- May its cells lie in memory? -/
def D.ok : D → Bool
  | .undef => false
  | .tup _ => false
  | .junk => false
  | _ => true
def D.bool? : D → Option Bool
  | .bool b => some b
  | _ => none
def D.int? : D → Option (IntKind × Int)
  | .int k n => some (k, n)
  | _ => none
def D.nat? : D → Option Nat
  | .int _ n => ifB (decide (0 ≤ n)) (some n.toNat) none
  | _ => none
def D.str? : D → Option (List UInt8)
  | .str s => some s
  | _ => none
def D.tup? : D → Option (List D)
  | .tup ds => some ds
  | _ => none
def D.fn? : D → Option (FuncId × List D × List D)
  | .fn (.func f) a b => some (f, a, b)
  | _ => none
def D.agg? : D → Option (List D)
  | .agg cs => some cs
  | _ => none
def D.row? : D → Option (RowK × List D)
  | .list sz es => some (sz, es)
  | _ => none
def asList : D → Option (List D)
  | .nils => some []
  | .list _ es => some es
  | _ => none
def lenOf : D → Option Nat
  | .nils => some 0
  | .list _ es => some es.length
  | _ => none
def dlist (sz : RowK) : List D → D
  | [] => .nils
  | x :: es => .list sz (x :: es)
def part (k : Option Nat) (cs : List D) (off : Nat) : Option D :=
  match k with
  | none => nth cs off
  | some n => ifB (decide (off + n ≤ cs.length)) (some (.agg ((cs.drop off).take n))) none
def Cell.of (d : D) : Cell := ⟨false, d⟩

def opd (e : Env) : AOpd → Option Cell
  | .tmp s => bindO (aget e.slots s) fun c => some ⟨false, c.d⟩
  | .mv s => aget e.slots s
  | .const d => some ⟨false, d⟩
def opds (e : Env) : List AOpd → Option (List D)
  | [] => some []
  | x :: l => bindO (opd e x) fun c => bindO (opds e l) fun ds => some (c.d :: ds)
def AOpd.drop (e : Env) : AOpd → Env
  | .mv s => caseO (aget e.slots s) e fun c => { e with slots := aset e.slots s ⟨false, c.d⟩ }
  | _ => e
/-- Where an operand leads. -/
inductive Ptr where
  | loc (b off : Nat)
  | ptr (id off : Nat)
  | eptr (d : D)
  deriving Inhabited
def ptrOf : D → Option Ptr
  | .ptr id off => some (.ptr id off)
  | .eptr d => some (.eptr d)
  | _ => none
def addr (e : Env) : AOpd → Option Ptr
  | .tmp s => caseO (aget e.locs s) (bindO (aget e.slots s) fun c => ptrOf c.d) fun p => some (.loc p.1 p.2)
  | .mv s => caseO (aget e.locs s) (bindO (aget e.slots s) fun c => ptrOf c.d) fun p => some (.loc p.1 p.2)
  | .const d => ptrOf d
inductive Val where
  | c (c : Cell)
  | l (b off : Nat)
  deriving Inhabited

/-- Cells put into a row from a place on. -/
def putCells : List Cell → Nat → List Cell → List Cell
  | cs, _, [] => cs
  | [], _, _ => []
  | _ :: cs, 0, x :: new => x :: putCells cs 0 new
  | c :: cs, n + 1, new => c :: putCells cs n new
def putD : List D → Nat → List D → List D
  | cs, _, [] => cs
  | [], _, _ => []
  | _ :: cs, 0, x :: new => x :: putD cs 0 new
  | c :: cs, n + 1, new => c :: putD cs n new
def fillD : List D → List (Nat × Nat × D) → Option (List D)
  | cs, [] => some cs
  | cs, (off, n, d) :: r => ifB (d.ok && d.cells.length == n && decide (off + n ≤ cs.length)) (fillD (putD cs off d.cells) r) none
def partsOf (e : Env) : List (Nat × Nat × AOpd) → Option (List (Nat × Nat × D))
  | [] => some []
  | (off, n, x) :: r => bindO (opd e x) fun c => bindO (partsOf e r) fun l => some ((off, n, c.d) :: l)
def allSize (sz : Nat) : List D → Bool
  | [] => true
  | d :: r => d.ok && d.cells.length == sz && allSize sz r

def takeC : List Cell → Nat → Nat → Option (List D)
  | _, 0, 0 => some []
  | [], _, _ => none
  | c :: cs, 0, n + 1 => bindO (takeC cs 0 n) fun l => some (c.d :: l)
  | _ :: cs, o + 1, n => takeC cs o n
def readCells (cs : List Cell) (k : Option Nat) (off : Nat) : Option Cell :=
  match k with
  | none => nth cs off
  | some n => bindO (takeC cs off n) fun l => some ⟨false, .agg l⟩
def unownAt : List Cell → Nat → List Cell
  | [], _ => []
  | c :: cs, 0 => ⟨false, c.d⟩ :: cs
  | c :: cs, n + 1 => c :: unownAt cs n

/-- Of a whole variable: does its first list own its room? -/
def firstOwn : List Cell → Bool
  | [] => false
  | c :: r => match c.d with
    | .list _ _ => c.own
    | _ => firstOwn r
def unownF : List Cell → List Cell
  | [] => []
  | c :: r => match c.d with
    | .list _ _ => ⟨false, c.d⟩ :: r
    | _ => c :: unownF r
/-- The cells of a value whose first list is marked. -/
def layA (o : Bool) : List D → List Cell
  | [] => []
  | d :: r => match d with
    | .list _ _ => ⟨o, d⟩ :: r.map Cell.of
    | _ => ⟨false, d⟩ :: layA o r
def binInt (op : BinOp) (k : IntKind) (a b : Int) : Option D :=
  match op with
  | .add => some (.int k (k.wrap (a + b)))
  | .sub => some (.int k (k.wrap (a - b)))
  | .mul => some (.int k (k.wrap (a * b)))
  | .quo => ifB (b == 0) none (some (.int k (k.wrap (a.tdiv b))))
  | .rem => ifB (b == 0) none (some (.int k (a.tmod b)))
  | .eql => some (.bool (a == b))
  | .neq => some (.bool (a != b))
  | .lss => some (.bool (decide (a < b)))
  | .leq => some (.bool (decide (a ≤ b)))
  | .gtr => some (.bool (decide (a > b)))
  | .geq => some (.bool (decide (a ≥ b)))
  | _ => none
/-- The bound on lengths within which the machine goes. -/
def bound : Nat := 1099511627776
def binStr (op : BinOp) (a b : List UInt8) : Option D :=
  match op with
  | .add => ifB (decide (a.length + b.length ≤ 281474976710656)) (some (.str (a ++ b))) none
  | .eql => some (.bool (a == b))
  | .neq => some (.bool (!(a == b)))
  | .lss => some (.bool (Op.bytesLess a b))
  | .leq => some (.bool (Op.bytesLess a b || a == b))
  | .gtr => some (.bool (!(Op.bytesLess a b || a == b)))
  | .geq => some (.bool (!Op.bytesLess a b))
  | _ => none
def binBool (op : BinOp) (a b : Bool) : Option D :=
  match op with
  | .eql => some (.bool (a == b))
  | .neq => some (.bool (!(a == b)))
  | _ => none
def sameKind : IntKind → IntKind → Bool
  | .i8, .i8 | .i16, .i16 | .i32, .i32 | .i64, .i64 | .u8, .u8 | .u16, .u16 | .u32, .u32 | .u64, .u64 => true
  | _, _ => false
def binD (op : BinOp) : D → D → Option D
  | .int k a, .int k' b => ifB (sameKind k k') (binInt op k a b) none
  | .str a, .str b => binStr op a b
  | _, _ => none
def binBD (op : BinOp) : D → D → Option D
  | .bool a, .bool b => binBool op a b
  | _, _ => none
/-- Is an interface, a pointer nil? -/
def D.isNil? : D → Option Bool
  | .niliface => some true
  | .iface _ _ => some false
  | _ => none
def D.isNilP? : D → Option Bool
  | .nilp => some true
  | .ptr _ _ => some false
  | .eptr _ => some false
  | _ => none
/-- Is it of a type, and what it is then. -/
def assertD (t : Nat) (z : D) : D → Option D
  | .iface t' d => some (.tup [ifB (t' == t) d z, .bool (t' == t)])
  | .niliface => some (.tup [z, .bool false])
  | _ => none
def eqlB (op : BinOp) (b : Bool) : Option D := match op with
  | .eql => some (.bool b)
  | .neq => some (.bool (!b))
  | _ => none
def bytesD : List UInt8 → List D
  | [] => []
  | b :: r => .int .u8 b.toNat :: bytesD r
def unD : UnOp → D → Option D
  | .not, .bool b => some (.bool (!b))
  | .neg, .int k n => some (.int k (k.wrap (0 - n)))
  | _, _ => none

def sliceD (sz : Nat) (x : D) (lo : Nat) (hi : Option Nat) : Option D :=
  match x with
  | .nils => ifB (decide (lo ≤ hi.getD 0) && decide (hi.getD 0 ≤ 0)) (some .nils) none
  | .list k es => ifB (decide (lo ≤ hi.getD es.length) && decide (hi.getD es.length ≤ es.length) && k.sz == sz) (some (.list k ((es.drop lo).take (hi.getD es.length - lo)))) none
  | _ => none

def bytesOf : List D → Option (List UInt8)
  | [] => some []
  | .int .u8 n :: r => ifB (decide (0 ≤ n) && decide (n < 256)) (bindO (bytesOf r) fun s => some (UInt8.ofNat n.toNat :: s)) none
  | _ :: _ => none
def sliceStr (s : List UInt8) (lo : Nat) (hi : Option Nat) : Option D :=
  ifB (decide (lo ≤ hi.getD s.length) && decide (hi.getD s.length ≤ s.length)) (some (.str ((s.drop lo).take (hi.getD s.length - lo)))) none
def optLo (e : Env) : Option AOpd → Option Nat
  | some l => bindO (opd e l) fun c => c.d.nat?
  | none => some 0
def optHi (e : Env) : Option AOpd → Option (Option Nat)
  | some h => bindO (opd e h) fun c => bindO c.d.nat? fun n => some (some n)
  | none => some none

/-- What an operation yields that neither calls nor makes nor writes anything. -/
def evalV (op : AOp) (e : Env) (σ : Store) : Option Val :=
  match op with
  | .mov x => bindO (opd e x) fun c => some (.c c)
  | .pick c a b => bindO (opd e c) fun c => bindO c.d.bool? fun t => bindO (ifB t (opd e a) (opd e b)) fun c => some (.c ⟨false, c.d⟩)
  | .build z parts => bindO (partsOf e parts) fun ps => bindO (fillD z ps) fun cs => some (.c ⟨false, .agg cs⟩)
  | .load k mv x => bindO (addr e x) fun p => match p with
    | .loc b off => bindO (aget e.boxes b) fun cs => bindO (readCells cs k off) fun c => some (.c ⟨mv && c.own, c.d⟩)
    | .ptr id off => bindO (aget σ.objs id) fun cs => bindO (readCells cs k off) fun c => some (.c ⟨mv && c.own, c.d⟩)
    | .eptr d => match k with
      | none => ifB d.one (some (.c ⟨false, d⟩)) none
      | some n => bindO d.agg? fun cs => ifB (cs.length == n) (some (.c ⟨false, d⟩)) none
  | .loadL k mv x => bindO (addr e x) fun p => match p with
    | .loc b off => bindO (aget e.boxes b) fun cs => bindO (readCells cs k off) fun c => some (.c ⟨mv && c.own, c.d⟩)
    | .ptr _ _ => none
    | .eptr d => match k with
      | none => ifB d.one (some (.c ⟨false, d⟩)) none
      | some n => bindO d.agg? fun cs => ifB (cs.length == n) (some (.c ⟨false, d⟩)) none
  | .nilCheck x => bindO (addr e x) fun p => match p with
    | .loc b off => some (.l b off)
    | .ptr id off => some (.c ⟨false, .ptr id off⟩)
    | .eptr d => some (.c ⟨false, .eptr d⟩)
  | .bin op x y => bindO (opd e x) fun a => bindO (opd e y) fun b => bindO (binD op a.d b.d) fun d => some (.c ⟨false, d⟩)
  | .binB op x y => bindO (opd e x) fun a => bindO (opd e y) fun b => bindO (binBD op a.d b.d) fun d => some (.c ⟨false, d⟩)
  | .un op x => bindO (opd e x) fun a => bindO (unD op a.d) fun d => some (.c ⟨false, d⟩)
  | .toInt k x => bindO (opd e x) fun a => bindO a.d.int? fun n => some (.c ⟨false, .int k (k.wrap n.2)⟩)
  | .toStr x => bindO (opd e x) fun a => bindO a.d.str? fun s => some (.c ⟨false, .str s⟩)
  | .runeStr x => bindO (opd e x) fun a => bindO a.d.int? fun n => some (.c ⟨false, .str (Utf8.encode n.2).data.toList⟩)
  | .bytesToStr x => bindO (opd e x) fun c => bindO (asList c.d) fun es => bindO (bytesOf es) fun s => some (.c ⟨false, .str s⟩)
  | .mkIface t x => bindO (opd e x) fun c => some (.c ⟨false, .iface t c.d⟩)
  | .mkFunc fn first caps => bindO (opds e first) fun a => bindO (opds e caps) fun b => some (.c ⟨false, .fn fn a b⟩)
  | .slice sz x lo hi => bindO (opd e x) fun c => bindO (optLo e lo) fun l => bindO (optHi e hi) fun h => bindO (sliceD sz c.d l h) fun d => some (.c ⟨false, d⟩)
  | .sliceS x lo hi => bindO (opd e x) fun c => bindO c.d.str? fun s => bindO (optLo e lo) fun l => bindO (optHi e hi) fun h => bindO (sliceStr s l h) fun d => some (.c ⟨false, d⟩)
  | .fieldAddr off k x => bindO (addr e x) fun p => match p with
    | .loc b o => some (.l b (o + off))
    | .ptr id o => some (.c ⟨false, .ptr id (o + off)⟩)
    | .eptr d => bindO d.agg? fun cs => bindO (part k cs off) fun d => some (.c ⟨false, .eptr d⟩)
  | .field off k x => bindO (opd e x) fun c => bindO c.d.agg? fun cs => bindO (part k cs off) fun d => some (.c ⟨false, d⟩)
  | .indexAddr sz x i => bindO (opd e x) fun c => bindO c.d.row? fun r => bindO (opd e i) fun i => bindO i.d.nat? fun n =>
    ifB (r.1.sz == sz) (bindO (nth r.2 n) fun d => some (.c ⟨false, .eptr d⟩)) none
  | .index x i => bindO (opd e x) fun c => bindO c.d.str? fun s => bindO (opd e i) fun i => bindO i.d.nat? fun n =>
    bindO (nth s n) fun b => some (.c ⟨false, .int .u8 b.toNat⟩)
  | .extract x i => bindO (opd e x) fun c => bindO c.d.tup? fun ds => bindO (nth ds i) fun d => some (.c ⟨false, d⟩)
  | .len x => bindO (opd e x) fun c => bindO (lenOf c.d) fun n => some (.c ⟨false, .int .i64 n⟩)
  | .lenS x => bindO (opd e x) fun c => bindO c.d.str? fun s => some (.c ⟨false, .int .i64 s.length⟩)
  | .isNil op x => bindO (opd e x) fun c => bindO c.d.isNil? fun b => bindO (eqlB op b) fun d => some (.c ⟨false, d⟩)
  | .assertT t z x => bindO (opd e x) fun c => bindO (assertD t z c.d) fun d => some (.c ⟨false, d⟩)
  | .isNilP op x => bindO (opd e x) fun c => bindO c.d.isNilP? fun b => bindO (eqlB op b) fun d => some (.c ⟨false, d⟩)
  | _ => none

/-- Marks of ownership that an operation takes away. -/
def dropOwn (op : AOp) (e : Env) : Env :=
  match op with
  | .mov x => x.drop e
  | .load _ true x => caseO (addr e x) e fun p => match p with
    | .loc b off => caseO (aget e.boxes b) e fun cs => { e with boxes := aset e.boxes b (unownAt cs off) }
    | _ => e
  | .loadL _ true x => caseO (addr e x) e fun p => match p with
    | .loc b off => caseO (aget e.boxes b) e fun cs => { e with boxes := aset e.boxes b (unownAt cs off) }
    | _ => e
  | _ => e
def dropOwnS (op : AOp) (e : Env) (σ : Store) : Store :=
  match op with
  | .load _ true x => caseO (addr e x) σ fun p => match p with
    | .ptr id off => caseO (aget σ.objs id) σ fun cs => { σ with objs := aset σ.objs id (unownAt cs off) }
    | _ => σ
  | _ => σ

def Env.put (e : Env) (dst : Option Nat) (c : Cell) : Env :=
  match dst with
  | some s => { e with slots := aset e.slots s c, locs := adel1 e.locs s }
  | none => e
def Env.putV (e : Env) (dst : Option Nat) : Val → Env
  | .c c => e.put dst c
  | .l b off => match dst with
    | some s => { e with slots := adel1 e.slots s, locs := aset e.locs s (b, off) }
    | none => e
/-- A new box for a slot. -/
def Env.box (e : Env) (s : Nat) (cs : List Cell) : Env :=
  { e with slots := adel1 e.slots s, locs := aset (lkill e.locs s) s (s, 0), boxes := aset e.boxes s cs }

/-- May one append in place, or is it nil? -/
def mayAppend (sz : RowK) (x : Cell) : Bool :=
  match x.d with
  | .nils => true
  | .list sz' _ => x.own && sz'.same sz
  | _ => false
def joined (sz : RowK) : D → List D → D
  | .nils, ys => dlist sz ys
  | .list _ xs, ys => .list sz (xs ++ ys)
  | d, _ => d
def appendD (sz : RowK) (by_ : Nat) (x : Cell) (y : D) : Option Cell :=
  bindO (asList x.d) fun xs => bindO (asList y) fun ys =>
    ifB (mayAppend sz x && allSize sz.sz ys && decide ((xs.length + ys.length) * by_ ≤ bound) && decide (xs.length + ys.length ≤ bound)) (some ⟨true, joined sz x.d ys⟩) none
/-- The cells that a value lays into memory. -/
def layCells (c : Cell) : List Cell := ifB c.d.one [c] (c.d.cells.map Cell.of)
def fits (c : Cell) (k off : Nat) (cs : List Cell) : Bool := c.d.ok && c.d.cells.length == k && decide (off + k ≤ cs.length)

/-- An operation that does not call: the environment and the store behind it. -/
def evalOp (dst : Option Nat) (op : AOp) (e : Env) (σ : Store) : Option (Env × Store) :=
  match op with
  | .alloc z => bindO dst fun s => some (e.box s (z.map Cell.of), σ)
  | .box x => bindO dst fun s => bindO (opd e x) fun c => ifB c.d.ok (some (e.box s (c.d.cells.map Cell.of), σ)) none
  | .galloc t z => some (e.put dst ⟨false, .ptr σ.next 0⟩, { objs := (σ.next, z.map Cell.of) :: σ.objs, tys := (σ.next, t) :: σ.tys, iters := σ.iters, next := σ.next + 1 })
  | .gbox t x => bindO (opd e x) fun c => ifB c.d.ok (some (e.put dst ⟨false, .ptr σ.next 0⟩, { objs := (σ.next, c.d.cells.map Cell.of) :: σ.objs, tys := (σ.next, t) :: σ.tys, iters := σ.iters, next := σ.next + 1 })) none
  | .rangeS x => bindO (opd e x) fun c => bindO c.d.str? fun s => some (e.put dst ⟨false, .ptr σ.next 0⟩, { σ with iters := (σ.next, (s, 0)) :: σ.iters, next := σ.next + 1 })
  | .nextS x => bindO (addr e x) fun p => match p with
    | .ptr id 0 => bindO (aget σ.iters id) fun it => ifB (decide (it.2 < it.1.length))
        (some (e.put dst ⟨false, .tup [.bool true, .int .i64 it.2, .int .i32 (Utf8.decode ⟨⟨it.1⟩⟩ it.2).1]⟩, { σ with iters := aset σ.iters id (it.1, it.2 + (Utf8.decode ⟨⟨it.1⟩⟩ it.2).2) }))
        (some (e.put dst ⟨false, .tup [.bool false]⟩, σ))
    | _ => none
  | .buildSlice sz parts => bindO (opds e parts) fun ds =>
    ifB (allSize sz.sz ds && decide (ds.length * sz.sz ≤ 16777216)) (some (e.put dst ⟨true, .list sz ds⟩, σ)) none
  | .strToBytes k x => bindO (opd e x) fun c => bindO c.d.str? fun s => ifB (decide (s.length ≤ bound)) (some (e.put dst ⟨false, .list k (bytesD s)⟩, σ)) none
  | .store k x y => bindO (addr e x) fun p => bindO (opd e y) fun c => match p with
    | .loc b off => bindO (aget e.boxes b) fun cs => ifB (fits c k off cs)
        (some (Env.put { y.drop e with boxes := aset e.boxes b (putCells cs off (layCells c)) } dst ⟨false, .undef⟩, σ)) none
    | .ptr id off => bindO (aget σ.objs id) fun cs => ifB (fits c k off cs)
        (some ((y.drop e).put dst ⟨false, .undef⟩, { σ with objs := aset σ.objs id (putCells cs off (layCells c)) })) none
    | .eptr _ => none
  | .loadA k x => bindO (addr e x) fun p => match p with
    | .loc b 0 => bindO (aget e.boxes b) fun cs => ifB (cs.length == k) (some (Env.put { e with boxes := aset e.boxes b (unownF cs) } dst ⟨firstOwn cs, .agg (cs.map fun c => c.d)⟩, σ)) none
    | _ => none
  | .storeA k x y => bindO (addr e x) fun p => bindO (opd e y) fun c => match p with
    | .loc b 0 => bindO (aget e.boxes b) fun cs => bindO c.d.agg? fun ds => ifB (cs.length == k && ds.length == k) (some (Env.put { y.drop e with boxes := aset e.boxes b (layA c.own ds) } dst ⟨false, .undef⟩, σ)) none
    | _ => none
  | .append sz by_ x y => bindO (opd e x) fun c => bindO (opd e y) fun d => bindO (appendD sz by_ c d.d) fun r => some ((x.drop e).put dst r, σ)
  | .appendS k by_ x y => bindO (opd e x) fun c => bindO (opd e y) fun d => bindO d.d.str? fun s => bindO (appendD k by_ c (.list k (bytesD s))) fun r => some ((x.drop e).put dst r, σ)
  | .deferv x args => bindO (opd e x) fun c => bindO c.d.fn? fun f => bindO (opds e args) fun as =>
    some (Env.put { e with defers := (f.1, f.2.1 ++ as ++ f.2.2) :: e.defers } dst ⟨false, .undef⟩, σ)
  | op => bindO (evalV op e σ) fun v => some ((dropOwn op e).putV dst v, dropOwnS op e σ)

abbrev CallF := FuncId → List D → Store → Option (Out × Store)

def isUndef : D → Bool
  | .undef => true
  | _ => false
def wantedA (g : Option (Nat × Bool)) (e : Env) : Option Bool :=
  match g with
  | none => some true
  | some (s, want) => bindO (aget e.slots s) fun c => caseO c.d.bool? (ifB (isUndef c.d) (some false) none) fun b => some (b == want)

inductive OpsOut where
  | normal (e : Env) (σ : Store)
  | panic (d : D) (e : Env) (σ : Store)
  deriving Inhabited

inductive Kind where
  | op
  | call
  | panic
/-- What is called by an operation, with what. -/
def callOf (op : AOp) (e : Env) : Option (FuncId × List D) :=
  match op with
  | .call f args => bindO (opds e args) fun as => some (f, as)
  | .callv x args => bindO (opd e x) fun c => bindO c.d.fn? fun f => bindO (opds e args) fun as => some (f.1, f.2.1 ++ as ++ f.2.2)
  | _ => none
def AOp.kind : AOp → Kind
  | .call _ _ => .call
  | .callv _ _ => .call
  | .panic _ => .panic
  | _ => .op
def panicOf (op : AOp) (e : Env) : Option D :=
  match op with
  | .panic x => bindO (opd e x) fun c => match c.d with
    | .iface t d => some (.iface t d)
    | _ => none
  | _ => none

/-- What comes of one operation. -/
inductive Step where
  | next (e : Env) (σ : Store)
  | call (f : FuncId) (as : List D)
  | panic (d : D)
def stepOp (o : AOper) (e : Env) (σ : Store) : Option Step :=
  bindO (wantedA o.guard e) fun w => ifB w
    (match o.op.kind with
     | .op => bindO (evalOp o.dst o.op e σ) fun r => some (.next r.1 r.2)
     | .call => bindO (callOf o.op e) fun r => some (.call r.1 r.2)
     | .panic => bindO (panicOf o.op e) fun d => some (.panic d))
    (some (.next (e.put o.dst ⟨false, .undef⟩) σ))

def runOps (C : CallF) : List AOper → Env → Store → Option OpsOut
  | [], e, σ => some (.normal e σ)
  | o :: rest, e, σ => bindO (stepOp o e σ) fun s => match s with
    | .next e' σ' => runOps C rest e' σ'
    | .call f as => bindO (C f as σ) fun r => match r.1 with
      | .ret c => runOps C rest (e.put o.dst c) r.2
      | .panic d => some (.panic d e r.2)
    | .panic d => some (.panic d e σ)

def clearEnv (e : Env) (clr : List Nat) : Env := { e with slots := adel e.slots clr, locs := adel e.locs clr, boxes := adel e.boxes clr }

def loopN (body : Env → Store → Option (AExit × Env × Store)) : Nat → Env → Store → Option (AExit × Env × Store)
  | 0, _, _ => none
  | n + 1, e, σ => match body e σ with
    | some (.normal, e', σ') => loopN body n e' σ'
    | r => r

def exec (C : CallF) (n : Nat) : ACode → Env → Store → Option (AExit × Env × Store)
  | .skip, e, σ => some (.normal, e, σ)
  | .region ops perm clr, e, σ => match runOps C ops e σ with
    | some (.normal e' σ') => some (.normal, clearEnv e' clr, σ')
    | some (.panic d e' σ') => some (.panic d, caseO perm e' (fun _ => e'.bare), σ')
    | none => none
  | .seq a b, e, σ => match exec C n a e σ with
    | some (.normal, e', σ') => exec C n b e' σ'
    | r => r
  | .cond c t f, e, σ => bindO (opd e c) fun c => bindO c.d.bool? fun b => ifB b (exec C n t e σ) (exec C n f e σ)
  | .block id body, e, σ => match exec C n body e σ with
    | some (.exit id', e', σ') => ifB (id' == id) (some (.normal, e', σ')) (some (.exit id', e', σ'))
    | r => r
  | .loop body, e, σ => loopN (exec C n body) n e σ
  | .exit id, e, σ => some (.exit id, e, σ)
  | .ret, e, σ => some (.ret, e, σ)
  | .scope body, e, σ => exec C n body e σ
  | .stuck, _, _ => none

def initSlots : Nat → List D → List (Nat × Cell)
  | _, [] => []
  | i, d :: r => (i, ⟨false, d⟩) :: initSlots (i + 1) r
def initEnv (args : List D) : Env := { slots := initSlots 0 args, locs := [], boxes := [], defers := [] }

/-- What a deferred function does that may recover: handed in what is under way (a panic, or nothing), it tells what is behind it. -/
abbrev RecF := FuncId → List D → Option D → Store → Option (Option D × Store)
def runDefers (R : RecF) (C : CallF) : Option D → List (FuncId × List D) → Store → Option (Option D × Store)
  | m, [], σ => some (m, σ)
  | m, (f, as) :: r, σ => match R f as m σ with
    | some x => runDefers R C x.1 r x.2
    | none => bindO (C f as σ) fun o => match o.1 with
      | .ret _ => runDefers R C m r o.2
      | .panic _ => none

def readRes1 (e : Env) (σ : Store) : ARes → Option Cell
  | .tmp s => aget e.slots s
  | .cell s k => bindO (addr e (.tmp s)) fun p => match p with
    | .loc b off => bindO (aget e.boxes b) fun cs => readCells cs k off
    | .ptr id off => bindO (aget σ.objs id) fun cs => bindO (readCells cs k off) fun c => some ⟨false, c.d⟩
    | .eptr _ => none
  | .cellA s k => bindO (addr e (.tmp s)) fun p => match p with
    | .loc b 0 => bindO (aget e.boxes b) fun cs => ifB (cs.length == k) (some ⟨firstOwn cs, .agg (cs.map fun c => c.d)⟩) none
    | _ => none
def readRess (e : Env) (σ : Store) : List ARes → Option (List D)
  | [] => some []
  | r :: l => bindO (readRes1 e σ r) fun c => bindO (readRess e σ l) fun ds => some (c.d :: ds)
def readRes (e : Env) (σ : Store) : List ARes → Option Cell
  | [r] => readRes1 e σ r
  | l => bindO (readRess e σ l) fun ds => some ⟨false, .tup ds⟩

def Store.trunc (σ : Store) (m : Nat) : Store := { objs := σ.objs.filter fun p => p.1 < m, tys := σ.tys.filter fun p => p.1 < m, iters := σ.iters.filter fun p => p.1 < m, next := σ.next }

/-- What is behind a function's body: the deferred calls, the results. A call that is deferred itself (quiet) defers none. -/
def finish (R : RecF) (C : CallF) (quiet : Bool) (af : AFun) (m : Nat) : AExit × Env × Store → Option (Out × Store)
  | (x, e, σ) => ifB (quiet && !e.defers.isEmpty) none (match x with
    | .normal | .ret => bindO (runDefers R C none e.defers σ) fun r => match r.1 with
      | none => bindO (readRes e r.2 af.res) fun c => some (.ret c, ifB af.gc (r.2.trunc m) r.2)
      | some _ => none
    | .panic d => bindO (runDefers R C (some d) e.defers σ) fun r => match r.1 with
      | none => bindO (readRes e r.2 af.res) fun c => some (.ret c, ifB af.gc (r.2.trunc m) r.2)
      | some d' => some (.panic d', ifB af.gc (r.2.trunc m) r.2)
    | .exit _ => none)
section
variable (Γ : FuncId → Option AFun) (R : RecF) (X : CallF)
def runQ : Nat → Bool → CallF
  | 0, _, _, _, _ => none
  | n + 1, quiet, f, args, σ => match Γ f with
    | some af => ifB (args.length == af.nargs)
        (match exec (runQ n false) n af.body (initEnv args) σ with
         | some r => finish R (runQ n true) quiet af σ.next r
         | none => none) none
    | none => ifB quiet none (X f args σ)
abbrev run (n : Nat) : CallF := runQ Γ R X n false
end
end Go.Mx

/-
  How the small machine's data lie in a world: the relations, and what keeps them.
-/
namespace Go.Mx
open Go

abbrev Imm := Nat → Nat → Option Value

/-- The cells of a value lie, never to change, at a place. -/
def At (ι : Imm) (b o : Nat) (v : Value) : Prop := ∀ i x, v.cells[i]? = some x → ι b (o + i) = some x

mutual
def Rep (ι : Imm) (j : Nat → Option Nat) : D → Value → Prop
  | .undef, v => v = Go.undef
  | .bool b, v => v = .bool b
  | .int k n, v => v = .int k n
  | .str s, v => v = .string ⟨⟨s⟩⟩
  | .nils, v => v = .slice none 0 0
  | .list sz es, v => ∃ a cap, v = .slice a es.length cap ∧ es.length ≤ cap ∧ cap ≤ maxLen ∧ (es = [] ∨ ∃ b o, a = some ⟨b, o, none⟩ ∧ RepRow ι j sz.sz es b o)
  | .agg cs, v => ∃ vs, v = .agg ⟨vs⟩ ∧ RepL ι j cs vs ∧ ∀ x ∈ vs, x.oneCell' = true
  | .tup ds, v => ∃ vs, v = .tuple ⟨vs⟩ ∧ RepL ι j ds vs
  | .nilp, v => v = .pointer none
  | .ptr id off, v => ∃ b, j id = some b ∧ v = .pointer (some ⟨b, off, none⟩)
  | .eptr d, v => ∃ b o x, v = .pointer (some ⟨b, o, none⟩) ∧ At ι b o x ∧ Rep ι j d x
  | .fn f first caps, v => ∃ vf vc, v = .func f ⟨vf⟩ ⟨vc⟩ ∧ RepL ι j first vf ∧ RepL ι j caps vc
  | .nilfn, v => v = .nilFunc
  | .iface t d, v => ∃ x, v = .iface t x ∧ Rep ι j d x
  | .niliface, v => v = .nilIface
  | .junk, _ => True
def RepL (ι : Imm) (j : Nat → Option Nat) : List D → List Value → Prop
  | [], vs => vs = []
  | d :: ds, vs => ∃ x r, vs = x :: r ∧ Rep ι j d x ∧ RepL ι j ds r
def RepRow (ι : Imm) (j : Nat → Option Nat) (sz : Nat) : List D → Nat → Nat → Prop
  | [], _, _ => True
  | d :: ds, b, o => (∃ x, At ι b o x ∧ x.cells.size = sz ∧ Rep ι j d x) ∧ RepRow ι j sz ds b (o + sz)
end

section mono
variable {ι ι' : Imm} {j j' : Nat → Option Nat}
theorem At.mono (hι : ∀ b o v, ι b o = some v → ι' b o = some v) {b o : Nat} {v : Value} (h : At ι b o v) : At ι' b o v := fun i x hx => hι _ _ _ (h i x hx)
mutual
theorem Rep.mono (hι : ∀ b o v, ι b o = some v → ι' b o = some v) (hj : ∀ i b, j i = some b → j' i = some b) : ∀ (d : D) (v : Value), Rep ι j d v → Rep ι' j' d v
  | .undef, _, h | .bool _, _, h | .int _ _, _, h | .str _, _, h | .nils, _, h | .nilp, _, h | .nilfn, _, h | .niliface, _, h => by simpa only [Rep] using h
  | .junk, _, _ => by simp only [Rep]
  | .list sz es, v, h => by
    simp only [Rep] at h ⊢
    obtain ⟨a, cap, h1, h2, h3, h4⟩ := h
    refine ⟨a, cap, h1, h2, h3, ?_⟩
    rcases h4 with h4 | ⟨b, o, ha, hr⟩
    · exact .inl h4
    · exact .inr ⟨b, o, ha, RepRow.mono hι hj sz.sz es b o hr⟩
  | .agg cs, v, h => by
    simp only [Rep] at h ⊢
    obtain ⟨vs, h1, h2, h3⟩ := h
    exact ⟨vs, h1, RepL.mono hι hj cs vs h2, h3⟩
  | .tup ds, v, h => by
    simp only [Rep] at h ⊢
    obtain ⟨vs, h1, h2⟩ := h
    exact ⟨vs, h1, RepL.mono hι hj ds vs h2⟩
  | .ptr id off, v, h => by
    simp only [Rep] at h ⊢
    obtain ⟨b, h1, h2⟩ := h
    exact ⟨b, hj _ _ h1, h2⟩
  | .eptr d, v, h => by
    simp only [Rep] at h ⊢
    obtain ⟨b, o, x, h1, h2, h3⟩ := h
    exact ⟨b, o, x, h1, h2.mono hι, Rep.mono hι hj d x h3⟩
  | .fn f first caps, v, h => by
    simp only [Rep] at h ⊢
    obtain ⟨vf, vc, h1, h2, h3⟩ := h
    exact ⟨vf, vc, h1, RepL.mono hι hj first vf h2, RepL.mono hι hj caps vc h3⟩
  | .iface t d, v, h => by
    simp only [Rep] at h ⊢
    obtain ⟨x, h1, h2⟩ := h
    exact ⟨x, h1, Rep.mono hι hj d x h2⟩
theorem RepL.mono (hι : ∀ b o v, ι b o = some v → ι' b o = some v) (hj : ∀ i b, j i = some b → j' i = some b) : ∀ (ds : List D) (vs : List Value), RepL ι j ds vs → RepL ι' j' ds vs
  | [], _, h => by simpa only [RepL] using h
  | d :: ds, vs, h => by
    simp only [RepL] at h ⊢
    obtain ⟨x, r, h1, h2, h3⟩ := h
    exact ⟨x, r, h1, Rep.mono hι hj d x h2, RepL.mono hι hj ds r h3⟩
theorem RepRow.mono (hι : ∀ b o v, ι b o = some v → ι' b o = some v) (hj : ∀ i b, j i = some b → j' i = some b) (sz : Nat) : ∀ (ds : List D) (b o : Nat), RepRow ι j sz ds b o → RepRow ι' j' sz ds b o
  | [], _, _, _ => by simp only [RepRow]
  | d :: ds, b, o, h => by
    simp only [RepRow] at h ⊢
    obtain ⟨⟨x, h1, h2, h3⟩, h4⟩ := h
    exact ⟨⟨x, h1.mono hι, h2, Rep.mono hι hj d x h3⟩, RepRow.mono hι hj sz ds b (o + sz) h4⟩
end
end mono

/-! ### Small facts -/
theorem nth_eq {α : Type} : ∀ (l : List α) (i : Nat), nth l i = l[i]?
  | [], _ => by simp [nth]
  | _ :: _, 0 => by simp [nth]
  | _ :: l, n + 1 => by simp [nth, nth_eq l n]
theorem aget_nil {α : Type} (s : Nat) : aget ([] : List (Nat × α)) s = none := rfl
theorem aget_cons {α : Type} (k : Nat) (v : α) (r : List (Nat × α)) (s : Nat) : aget ((k, v) :: r) s = if k = s then some v else aget r s := by
  by_cases h : k = s
  · subst h; simp [aget, ifB]
  · have : (k == s) = false := by simpa using h
    simp [aget, ifB, this, h]
theorem aget_aset {α : Type} : ∀ (l : List (Nat × α)) (s t : Nat) (x : α), aget (aset l s x) t = if s = t then some x else aget l t
  | [], s, t, x => by simp [aset, aget_cons, aget_nil]
  | (k, v) :: r, s, t, x => by
    by_cases h : k = s
    · subst h
      have : (k == k) = true := by simp
      simp only [aset, this, ifB_true, aget_cons]
      split <;> rfl
    · have : (k == s) = false := by simpa using h
      simp only [aset, this, ifB_false, aget_cons, aget_aset r s t x]
      by_cases h1 : k = t
      · subst h1
        simp only [if_true]
        rw [if_neg (fun e => h e.symm)]
      · simp only [h1, if_false]
theorem aget_adel1 {α : Type} : ∀ (l : List (Nat × α)) (s t : Nat), aget (adel1 l s) t = if s = t then none else aget l t
  | [], s, t => by simp [adel1, aget_nil]
  | (k, v) :: r, s, t => by
    by_cases h : k = s
    · subst h
      have : (k == k) = true := by simp
      simp only [adel1, this, ifB_true, aget_cons, aget_adel1 r k t]
      split <;> rfl
    · have : (k == s) = false := by simpa using h
      simp only [adel1, this, ifB_false, aget_cons, aget_adel1 r s t]
      by_cases h1 : k = t
      · subst h1
        simp only [if_true]
        rw [if_neg (fun e => h e.symm)]
      · simp only [h1, if_false]
theorem aget_adel {α : Type} : ∀ (l : List (Nat × α)) (c : List Nat) (t : Nat) (x : α), aget (adel l c) t = some x → aget l t = some x
  | [], _, _, _, h => by simp [adel, aget_nil] at h
  | (k, v) :: r, c, t, x, h => by
    simp only [adel] at h
    cases hm : mem c k with
    | true =>
      rw [hm, ifB_true] at h
      -- the key is struck wherever it stands: what is left at t stood behind it
      have h' := aget_adel r c t x h
      rw [aget_cons]
      by_cases hk : k = t
      · subst hk
        exfalso
        have key : ∀ (l : List (Nat × α)), aget (adel l c) k = none := by
          intro l
          induction l with
          | nil => rfl
          | cons p l ih =>
            obtain ⟨q, u⟩ := p
            simp only [adel]
            cases hq : mem c q with
            | true => rw [ifB_true]; exact ih
            | false =>
              rw [ifB_false, aget_cons]
              by_cases hqk : q = k
              · subst hqk; rw [hm] at hq; cases hq
              · rw [if_neg hqk]; exact ih
        rw [key r] at h
        cases h
      · rw [if_neg hk]; exact h'
    | false =>
      rw [hm, ifB_false, aget_cons] at h
      rw [aget_cons]
      by_cases hk : k = t
      · rw [if_pos hk] at h ⊢; exact h
      · rw [if_neg hk] at h ⊢; exact aget_adel r c t x h
theorem aget_lkill : ∀ (l : List (Nat × (Nat × Nat))) (s t b o : Nat), aget (lkill l s) t = some (b, o) → b ≠ s ∧ aget l t = some (b, o)
  | [], _, _, _, _, h => by simp [lkill, aget_nil] at h
  | (k, (b', o')) :: r, s, t, b, o, h => by
    simp only [lkill] at h
    by_cases hb : b' = s
    · have : (b' == s) = true := by simpa using hb
      rw [this, ifB_true, aget_adel1] at h
      by_cases hk : k = t
      · rw [if_pos hk] at h; cases h
      · rw [if_neg hk] at h
        rw [aget_cons, if_neg hk]
        exact aget_lkill r s t b o h
    · have : (b' == s) = false := by simpa using hb
      rw [this, ifB_false, aget_cons] at h
      rw [aget_cons]
      by_cases hk : k = t
      · rw [if_pos hk] at h ⊢
        cases h
        exact ⟨hb, rfl⟩
      · rw [if_neg hk] at h ⊢
        exact aget_lkill r s t b o h
theorem bindO_some {α β : Type} {x : Option α} {f : α → Option β} {y : β} (h : bindO x f = some y) : ∃ a, x = some a ∧ f a = some y := by
  cases x with
  | none => cases h
  | some a => exact ⟨a, rfl, h⟩
theorem ifB_some {β : Type} {b : Bool} {x : Option β} {y : β} (h : ifB b x none = some y) : b = true ∧ x = some y := by
  cases b with
  | true => exact ⟨rfl, h⟩
  | false => cases h
theorem ifB_some' {β : Type} {b : Bool} {x : Option β} {y : β} (h : ifB b none x = some y) : b = false ∧ x = some y := by
  cases b with
  | true => cases h
  | false => exact ⟨rfl, h⟩
end Go.Mx

/-
  The machine's state and a world's: what holds between them, and what a step leaves of it.
-/
namespace Go.Mx
open Go

/-- Whose a block is: that of a slot's list, of a slot's box, of a list in a box; the store's. -/
inductive Tag where
  | slot (s : Nat)
  | box (s : Nat)
  | cell (s c : Nat)
  | obj (id : Nat)
  | ocell (id c : Nat)
def Tag.isBox : Tag → Bool
  | .box _ => true
  | .obj _ => true
  | _ => false
def Tag.isLocal : Tag → Bool
  | .obj _ => false
  | .ocell _ _ => false
  | _ => true
abbrev Own := Nat → Option Tag
abbrev Lay := Nat → Option Nat

/-- The list that a value's mark speaks of: its own, or the first among its cells. -/
def firstList : List D → List Value → Option (RowK × List D × Value)
  | .list k es :: _, v :: _ => some (k, es, v)
  | _ :: ds, _ :: vs => firstList ds vs
  | _, _ => none
def prin : D → Value → Option (RowK × List D × Value)
  | .list k es, v => some (k, es, v)
  | .agg cs, .agg vs => firstList cs vs.toList
  | _, _ => none
/-- The spare room behind a list is its own. -/
def OwnedL (ι : Imm) (own : Own) (w : World) (t : Tag) (sz : RowK) (es : List D) (v : Value) : Prop :=
  v = .slice none 0 0 ∨ ∃ b cap cur T, v = .slice (some ⟨b, 0, none⟩) es.length cap ∧ own b = some t ∧ w.heap[b]? = some (.cells cur T (0, 0)) ∧ (T = sz.el ∧ cur.size = cap * sz.sz) ∧ ∀ o, es.length * sz.sz ≤ o → ι b o = none
def Owned (ι : Imm) (own : Own) (w : World) (t : Tag) (d : D) (v : Value) : Prop := match prin d v with
  | some p => OwnedL ι own w t p.1 p.2.1 p.2.2
  | none => True
theorem owned_list {ι : Imm} {own : Own} {w : World} {t : Tag} {sz : RowK} {es : List D} {v : Value} : Owned ι own w t (.list sz es) v ↔ OwnedL ι own w t sz es v := Iff.rfl
def CellRel (ι : Imm) (j : Lay) (own : Own) (w : World) (t : Tag) (c : Cell) (v : Value) : Prop := Rep ι j c.d v ∧ (c.own = true → Owned ι own w t c.d v)
def BoxRel (ι : Imm) (j : Lay) (own : Own) (w : World) (b : Nat) (mk : Nat → Tag) (cs : List Cell) : Prop :=
  ∃ vs T, w.heap[b]? = some (.cells ⟨vs⟩ T (0, 0)) ∧ vs.length = cs.length ∧ ∀ i c, cs[i]? = some c → ∃ v, vs[i]? = some v ∧ v.oneCell' = true ∧ CellRel ι j own w (mk i) c v

structure GSim (ι : Imm) (j : Lay) (own : Own) (σ : Store) (w : World) : Prop where
  holds : ∀ b o v, ι b o = some v → w.cell? ⟨b, o, none⟩ = some v
  noimm : ∀ b t, own b = some t → t.isBox = true → ∀ o, ι b o = none
  objs : ∀ id cs, aget σ.objs id = some cs → ∃ b, j id = some b ∧ own b = some (.obj id) ∧ BoxRel ι j own w b (.ocell id) cs
  tys : ∀ id t cs, aget σ.tys id = some t → aget σ.objs id = some cs → ∀ b, j id = some b → ∃ row, w.heap[b]? = some (.cells row t (0, 0))
  iters : ∀ id s pos, aget σ.iters id = some (s, pos) → ∃ b, j id = some b ∧ own b = some (.obj id) ∧ w.heap[b]? = some (.stringIter ⟨⟨s⟩⟩ pos)
  jlt : ∀ id b, j id = some b → id < σ.next
  ownlt : ∀ b t, own b = some t → b < w.heap.size

/-- What a deferred call is. -/
def DefRel (ι : Imm) (j : Lay) : List (FuncId × List D) → List Deferred → Prop
  | [], l => l = []
  | (f, ds) :: r, l => ∃ cap args l', l = { target := .fn (.func f) cap, args := args } :: l' ∧ RepL ι j ds (args ++ cap).toList ∧ DefRel ι j r l'

structure LSim (ι : Imm) (j : Lay) (own : Own) (lb : Lay) (N : Nat) (e : Env) (a : Go.Act) (w : World) : Prop where
  size : a.tmps.size = N
  slots : ∀ s c, aget e.slots s = some c → CellRel ι j own w (.slot s) c (a.tmps.getD s Go.undef)
  locs : ∀ s b o, aget e.locs s = some (b, o) → ∃ B, lb b = some B ∧ a.tmps.getD s Go.undef = .pointer (some ⟨B, o, none⟩)
  boxes : ∀ s cs, aget e.boxes s = some cs → ∃ B, lb s = some B ∧ own B = some (.box s) ∧ BoxRel ι j own w B (.cell s) cs
  defers : DefRel ι j e.defers a.defers

/-- How a world goes on: what bears none of the marks TT is as it was. -/
structure Evo (ι : Imm) (j : Lay) (own : Own) (w : World) (ι' : Imm) (j' : Lay) (own' : Own) (w' : World) (TT : Tag → Prop) : Prop where
  os : w'.os = w.os
  tape : w'.tape = w.tape
  output : w'.output = w.output
  size : w.heap.size ≤ w'.heap.size
  imm : ∀ b o v, ι b o = some v → ι' b o = some v
  lay : ∀ i b, j i = some b → j' i = some b
  block : ∀ b, b < w.heap.size → (∀ t, own b = some t → ¬ TT t) → w'.heap[b]? = w.heap[b]? ∧ own' b = own b ∧ ∀ o, ι' b o = ι b o
/-- What owned nothing is owned by nobody. -/
theorem Evo.refl (ι : Imm) (j : Lay) (own : Own) (w : World) (TT : Tag → Prop) : Evo ι j own w ι j own w TT :=
  ⟨rfl, rfl, rfl, Nat.le_refl _, fun _ _ _ h => h, fun _ _ h => h, fun _ _ _ => ⟨rfl, rfl, fun _ => rfl⟩⟩
theorem Evo.trans {ι ι' ι'' : Imm} {j j' j'' : Lay} {own own' own'' : Own} {w w' w'' : World} {TT : Tag → Prop}
    (h : Evo ι j own w ι' j' own' w' TT) (k : Evo ι' j' own' w' ι'' j'' own'' w'' TT) : Evo ι j own w ι'' j'' own'' w'' TT where
  os := k.os.trans h.os
  tape := k.tape.trans h.tape
  output := k.output.trans h.output
  size := Nat.le_trans h.size k.size
  imm := fun b o v x => k.imm _ _ _ (h.imm _ _ _ x)
  lay := fun i b x => k.lay _ _ (h.lay _ _ x)
  block := fun b hb ht => by
    obtain ⟨h1, h2, h3⟩ := h.block b hb ht
    obtain ⟨k1, k2, k3⟩ := k.block b (Nat.lt_of_lt_of_le hb h.size) (fun t x => ht t (h2 ▸ x))
    exact ⟨k1.trans h1, k2.trans h2, fun o => (k3 o).trans (h3 o)⟩
theorem Evo.weaken {ι ι' : Imm} {j j' : Lay} {own own' : Own} {w w' : World} {TT TT' : Tag → Prop}
    (h : Evo ι j own w ι' j' own' w' TT) (hT : ∀ t, TT t → TT' t) : Evo ι j own w ι' j' own' w' TT' :=
  ⟨h.os, h.tape, h.output, h.size, h.imm, h.lay, fun b hb ht => h.block b hb fun t x y => ht t x (hT t y)⟩

section keeps
variable {ι ι' : Imm} {j j' : Lay} {own own' : Own} {w w' : World} {TT : Tag → Prop}
theorem Evo.rep (h : Evo ι j own w ι' j' own' w' TT) {d : D} {v : Value} (k : Rep ι j d v) : Rep ι' j' d v := Rep.mono h.imm h.lay d v k
theorem Evo.repL (h : Evo ι j own w ι' j' own' w' TT) {ds : List D} {vs : List Value} (k : RepL ι j ds vs) : RepL ι' j' ds vs := RepL.mono h.imm h.lay ds vs k
theorem Evo.owned (h : Evo ι j own w ι' j' own' w' TT) {t : Tag} (ht : ¬ TT t) {d : D} {v : Value} (k : Owned ι own w t d v) : Owned ι' own' w' t d v := by
  unfold Owned at k ⊢
  cases hp : prin d v with
  | none => trivial
  | some p =>
    rw [hp] at k
    rcases k with k | ⟨b, cap, cur, T, h1, h2, h3, h4, h5⟩
    · exact .inl k
    · have hb : b < w.heap.size := (Array.getElem?_eq_some_iff.1 h3).1
      obtain ⟨k1, k2, k3⟩ := h.block b hb (fun t' x => by rw [h2] at x; cases x; exact ht)
      exact .inr ⟨b, cap, cur, T, h1, k2.trans h2, k1.trans h3, h4, fun o ho => (k3 o).trans (h5 o ho)⟩
theorem Evo.cellRel (h : Evo ι j own w ι' j' own' w' TT) {t : Tag} {c : Cell} {v : Value} (ht : c.own = true → ¬ TT t) (k : CellRel ι j own w t c v) : CellRel ι' j' own' w' t c v :=
  ⟨h.rep k.1, fun ho => h.owned (ht ho) (k.2 ho)⟩
theorem Evo.boxRel (h : Evo ι j own w ι' j' own' w' TT) {b : Nat} {mk : Nat → Tag} {cs : List Cell} {t : Tag} (hb : own b = some t) (ht : ¬ TT t) (hc : ∀ i c, cs[i]? = some c → c.own = true → ¬ TT (mk i))
    (k : BoxRel ι j own w b mk cs) : BoxRel ι' j' own' w' b mk cs := by
  obtain ⟨vs, T, h1, h2, h3⟩ := k
  have hlt : b < w.heap.size := (Array.getElem?_eq_some_iff.1 h1).1
  obtain ⟨k1, _, _⟩ := h.block b hlt (fun t' x => by rw [hb] at x; cases x; exact ht)
  refine ⟨vs, T, k1.trans h1, h2, fun i c hi => ?_⟩
  obtain ⟨v, hv, ho, hr⟩ := h3 i c hi
  exact ⟨v, hv, ho, h.cellRel (hc i c hi) hr⟩
theorem Evo.defRel (h : Evo ι j own w ι' j' own' w' TT) : ∀ (ds : List (FuncId × List D)) (l : List Deferred), DefRel ι j ds l → DefRel ι' j' ds l
  | [], _, k => k
  | (f, ds) :: r, l, k => by
    simp only [DefRel] at k ⊢
    obtain ⟨cap, args, l', h1, h2, h3⟩ := k
    exact ⟨cap, args, l', h1, h.repL h2, h.defRel r l' h3⟩
end keeps
end Go.Mx

