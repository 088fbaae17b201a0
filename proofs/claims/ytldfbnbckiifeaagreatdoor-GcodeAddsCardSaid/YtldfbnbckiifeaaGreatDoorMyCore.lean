/-
 A small deterministic machine over plain data,to which the walks of a translated program are brought back: its values,its code,and the function that runs it. Nothing here speaks of a world.
-/
import GoSem.Core.Code
import GoSem.Core.View
import GoSem.Op.String
import GoSem.Core.Utf8
set_option linter.unusedSimpArgs false
set_option linter.unusedVariables false
set_option linter.unusedSectionVars false
namespace Go.Mx
open Go
structure RowK where
 el:Nat
 sz:Nat
 ag:Bool
 deriving Inhabited
def RowK.same (a b:RowK):Bool:=a.el == b.el && a.sz == b.sz
inductive D where
 | undef
 | bool (b:Bool)
 | int (k:IntKind) (n:Int)
 | str (s:List UInt8)
 | nils
 | list (k:RowK) (es:List D)
 | agg (cs:List D)
 | tup (ds:List D)
 | nilp
 | ptr (id off:Nat)
 | eptr (d:D)
 | fn (f:Fn) (first caps:List D)
 | nilfn
 | iface (t:TypeId) (d:D)
 | niliface
 | junk
  | arr (k:RowK) (id off len:Nat)
  | empt
 | map (id:Nat)
 | nilmap
  | yld (id:Nat)
 deriving Inhabited
structure Cell where
 own:Bool
 d:D
 deriving Inhabited
def bT {α β:Type} (x:Option α) (n:β) (f:α→β):β:=match x with
 | none=>n
 | some a=>f a
def ifB {β:Type} (b:Bool) (x y:β):β:=match b with
 | true=>x
 | false=>y
theorem cC {α β:Type} (n:β) (f:α→β):bT none n f=n:=rfl
theorem aF {α β:Type} (a:α) (n:β) (f:α→β):bT (some a) n f=f a:=rfl
theorem aE {β:Type} (x y:β):ifB true x y=x:=rfl
theorem aG {β:Type} (x y:β):ifB false x y=y:=rfl
@[congr] theorem zc0b {α β:Type} {x y:Option α} (n:β) (f:α→β) (h:x=y):bT x n f=bT y n f:=by rw [h]
@[congr] theorem ze3b {β:Type} {a b:Bool} (x y:β) (h:a=b):ifB a x y=ifB b x y:=by rw [h]
abbrev aC {α β:Type} (x:Option α) (f:α→Option β):Option β:=bT x none f
def aB {α:Type}:List (Nat × α)→Nat→Option α
 | [],_=>none
 | (k,v) :: r,s=>ifB (k == s) (some v) (aB r s)
def nth {α:Type}:List α→Nat→Option α
 | [],_=>none
 | x :: _,0=>some x
 | _ :: l,n + 1=>nth l n
def aU {α:Type}:List (Nat × α)→Nat→α→List (Nat × α)
 | [],s,x=>[(s,x)]
 | (k,v) :: r,s,x=>ifB (k == s) ((k,x) :: r) (ifB (Nat.ble s k) ((s,x) :: (k,v) :: r) ((k,v) :: aU r s x))
def mem:List Nat→Nat→Bool
 | [],_=>false
 | x :: l,k=>ifB (x == k) true (mem l k)
def vZ {α:Type}:List (Nat × α)→List Nat→List (Nat × α)
 | [],_=>[]
 | (k,v) :: r,l=>ifB (mem l k) (vZ r l) ((k,v) :: vZ r l)
def aY {α:Type}:List (Nat × α)→Nat→List (Nat × α)
 | [],_=>[]
 | (k,v) :: r,s=>ifB (k == s) (aY r s) ((k,v) :: aY r s)
def pI:List (Nat × (Nat × Nat))→Nat→List (Nat × (Nat × Nat))
 | [],_=>[]
 | (k,(b,o)) :: r,s=>ifB (b == s) (aY (pI r s) k) ((k,(b,o)) :: pI r s)
def jK (l:List (Nat × (Nat × Nat))) (s:Nat):Bool:=bT (aB l s) (l.all fun p=>bT (aB l p.1) true fun q=>!(q.1 == s)) fun _=>false
structure Env where
 slots:List (Nat × Cell)
 locs:List (Nat × (Nat × Nat))
 boxes:List (Nat × List Cell)
 defers:List (FuncId × List D)
 deriving Inhabited
def Env.bare (e:Env):Env:={slots:=[],locs:=[],boxes:=[],defers:=e.defers}
structure Ty where
 t:Nat
 sz:Nat
 deriving Inhabited
inductive AOpd where
 | tmp (s:Nat)
 | mv (s:Nat)
 | const (d:D)
 deriving Inhabited
inductive AOp where
 | mov (x:AOpd)
 | pick (c a b:AOpd)
 | alloc (z:List D)
 | box (x:AOpd)
 | galloc (t:Nat) (z:List D)
 | gbox (t:Nat) (x:AOpd)
 | rangeS (x:AOpd)
 | nextS (x:AOpd)
 | build (z:List D) (parts:List (Nat × Nat × AOpd))
 | buildSlice (k:RowK) (parts:List AOpd)
 | load (k:Option Nat) (mv:Bool) (x:AOpd)
 | loadL (k:Option Nat) (mv:Bool) (x:AOpd)
 | store (k:Nat) (x y:AOpd)
 | loadA (k:Nat) (x:AOpd)
 | storeA (k:Nat) (x y:AOpd)
 | nilCheck (x:AOpd)
 | bin (op:BinOp) (x y:AOpd)
 | binB (op:BinOp) (x y:AOpd)
 | un (op:UnOp) (x:AOpd)
 | toInt (k:IntKind) (x:AOpd)
 | toStr (x:AOpd)
 | runeStr (x:AOpd)
 | bytesToStr (x:AOpd)
 | strToBytes (k:RowK) (x:AOpd)
 | mkIface (t:TypeId) (x:AOpd)
 | mkFunc (fn:Fn) (first caps:List AOpd)
 | slice (sz:Nat) (x:AOpd) (lo hi:Option AOpd)
 | sliceS (x:AOpd) (lo hi:Option AOpd)
 | fieldAddr (off:Nat) (k:Option Nat) (x:AOpd)
 | field (off:Nat) (k:Option Nat) (x:AOpd)
 | indexAddr (sz:Nat) (x i:AOpd)
 | index (x i:AOpd)
 | extract (x:AOpd) (i:Nat)
 | len (x:AOpd)
 | lenS (x:AOpd)
 | append (k:RowK) (by_:Nat) (x y:AOpd)
 | appendS (k:RowK) (by_:Nat) (x y:AOpd)
 | isNil (op:BinOp) (x:AOpd)
 | isNilP (op:BinOp) (x:AOpd)
 | assertT (t:Nat) (z:D) (x:AOpd)
 | isNilS (op:BinOp) (x:AOpd)
 | isNilM (op:BinOp) (x:AOpd)
 | slice3 (sz:Nat) (x:AOpd) (lo:Option AOpd) (hi max:AOpd)
 | storeP (k:Nat) (x y:AOpd)
 | allocN (s:Nat) (z:List D)
 | boxN (s:Nat) (x:AOpd)
 | loadB (b:Nat) (k:Option Nat) (x:AOpd)
 | loadE (k:Option Nat) (x:AOpd)
 | loadP (k:Option Nat) (x:AOpd)
 | loadG (k:Option Nat) (x:AOpd)
 | storeB (b k:Nat) (x y:AOpd)
 | callW (ws:List Nat) (f:FuncId) (args:List AOpd)
 | callvW (ws:List Nat) (x:AOpd) (args:List AOpd)
 | mm (mx:Bool) (x y:AOpd)
 | indexAddrP (n sz:Nat) (x i:AOpd)
 | indexA (n sz:Nat) (x i:AOpd)
 | eqA (op:BinOp) (ks:List Nat) (x y:AOpd)
 | makeA (k:RowK) (by_:Nat) (z:List D) (len cap:AOpd)
 | buildA (k:RowK) (parts:List AOpd)
 | appendA (k:RowK) (by_:Nat) (x y:AOpd)
 | appendW (ws:List Nat) (k:RowK) (by_:Nat) (x y:AOpd)
 | copyA (sz:Nat) (x y:AOpd)
 | clearA (sz:Nat) (z:List D) (x:AOpd)
 | makeMap
 | cloneM (x:AOpd)
 | growZ (k:RowK) (by_:Nat) (z:List D) (x n:AOpd)
 | capZ (x:AOpd)
 | assertP (t:Nat) (x:AOpd)
 | lookup (ks:Bool) (z:D) (ok:Bool) (x i:AOpd)
 | update (ks:Bool) (x i y:AOpd)
 | lenM (x:AOpd)
 | delete (ks:Bool) (x i:AOpd)
 | entry (ks:Bool) (z:D) (x i:AOpd)
 | entryStore (x s y:AOpd)
 | call (f:FuncId) (args:List AOpd)
 | callv (x:AOpd) (args:List AOpd)
 | deferv (x:AOpd) (args:List AOpd)
 | panic (x:AOpd)
 deriving Inhabited
structure AOper where
 dst:Option Nat
 op:AOp
 guard:Option (Nat × Bool)
 deriving Inhabited
inductive FTgt where
 | slot (s:Nat)
 | box (b:Nat)
 | obj (s:Nat)
  | promote (s:Nat)
 deriving Inhabited
inductive ACode where
 | skip
 | region (ops:List AOper) (draw:Option (List Nat)) (clr:List Nat)
 | seq (a b:ACode)
 | cond (c:AOpd) (t e:ACode)
 | block (id:Nat) (body:ACode)
 | loop (body:ACode)
 | exit (id:Nat)
 | ret
 | scope (body:ACode)
 | stuck
 | frz (ts:List FTgt) (body:ACode)
 | rangeF (g:AOpd) (ps:List Nat) (assign body:ACode)
 | label (l:Nat)
 | goto (l:Nat)
 | scopeJ (l:Nat) (body rest:ACode)
 deriving Inhabited
inductive LJump where
 | exit (id:Nat)
 | ret
 deriving Inhabited
inductive LSt where
 | ready
 | busy
 | done (x:LJump)
 | over
 deriving Inhabited
structure LRec where
 slots:List (Nat × Cell)
 params:List Nat
 assign:ACode
 body:ACode
 st:LSt
 deriving Inhabited
inductive Oth where
 | it (s:List UInt8) (pos:Nat)
 | map (es:List (D × D × Nat)) (clock:Nat)
 | loop (r:LRec)
 | dfr
 deriving Inhabited
structure Store where
 objs:List (Nat × List Cell)
 tys:List (Nat × Ty)
 oth:List (Nat × Oth)
 next:Nat
 deriving Inhabited
inductive ARes where
 | tmp (s:Nat)
 | cell (s:Nat) (k:Option Nat)
 | cellA (s:Nat) (k:Nat)
 deriving Inhabited
structure AFun where
 nargs:Nat
 ntmps:Nat
 res:List ARes
 body:ACode
 gc:Bool
 deriving Inhabited
inductive AExit where
 | normal
 | exit (id:Nat)
 | ret
 | panic (d:D)
 | goto (l:Nat)
 deriving Inhabited
inductive Out where
 | ret (c:Cell)
 | panic (d:D)
 deriving Inhabited
def D.cells:D→List D
 | .agg cs=>cs
 | d=>[d]
def D.one:D→Bool
 | .agg _=>false
 | .undef=>false
 | .tup _=>false
 | .junk=>false
 | _=>true
def D.ok:D→Bool
 | .undef=>false
 | .tup _=>false
 | .junk=>false
 | _=>true
def D.bool?:D→Option Bool
 | .bool b=>some b
 | _=>none
def D.int?:D→Option (IntKind × Int)
 | .int k n=>some (k,n)
 | _=>none
def D.nat?:D→Option Nat
 | .int _ n=>ifB (decide (0≤n)) (some n.toNat) none
 | _=>none
def D.str?:D→Option (List UInt8)
 | .str s=>some s
 | _=>none
def D.tup?:D→Option (List D)
 | .tup ds=>some ds
 | _=>none
def dS:Nat:=1099511627776
def isY (f:Nat):Bool:=Nat.ble dS f
def D.fn?:D→Option (FuncId × List D × List D)
 | .fn (.func f) a b=>ifB (isY f) none (some (f,a,b))
 | .yld id=>some (dS + id,[],[])
 | _=>none
def D.fnF?:D→Option (FuncId × List D × List D)
 | .fn (.func f) a b=>ifB (isY f) none (some (f,a,b))
 | _=>none
def D.agg?:D→Option (List D)
 | .agg cs=>some cs
 | _=>none
def D.row?:D→Option (RowK × List D)
 | .list sz es=>some (sz,es)
 | _=>none
def eL:D→Option (List D)
 | .nils=>some []
 | .empt=>some []
 | .list _ es=>some es
 | _=>none
def uX (k:RowK) (ds:List D):D:=ifB k.ag (.agg ds) (ds.headD .undef)
def mD (k:RowK):Nat→List D→List D
 | 0,_=>[]
 | n + 1,ds=>uX k (ds.take k.sz) :: mD k n (ds.drop k.sz)
def uT (k:RowK) (cs:List Cell) (off len:Nat):List D:=mD k len ((cs.map fun c=>c.d).drop (off * k.sz))
def eB (os:List (Nat × List Cell)):D→Option (List D)
 | .arr k id off len=>aC (aB os id) fun cs=>ifB ((k.ag || k.sz == 1) && decide ((off + len) * k.sz≤cs.length)) (some (uT k cs off len)) none
 | d=>eL d
def lenOf:D→Option Nat
 | .nils=>some 0
 | .list _ es=>some es.length
 | .arr _ _ _ len=>some len
 | .empt=>some 0
 | _=>none
def bE (sz:RowK):List D→D
 | []=>.nils
 | x :: es=>.list sz (x :: es)
def part (k:Option Nat) (cs:List D) (off:Nat):Option D :=
 match k with
 | none=>nth cs off
 | some n=>ifB (decide (off + n≤cs.length)) (some (.agg ((cs.drop off).take n))) none
def Cell.of (d:D):Cell:=⟨false,d⟩
def opd (e:Env):AOpd→Option Cell
 | .tmp s=>aC (aB e.slots s) fun c=>some ⟨false,c.d⟩
 | .mv s=>aB e.slots s
 | .const d=>some ⟨false,d⟩
def jC (e:Env):List AOpd→Option (List D)
 | []=>some []
 | x :: l=>aC (opd e x) fun c=>aC (jC e l) fun ds=>some (c.d :: ds)
def AOpd.drop (e:Env):AOpd→Env
 | .mv s=>bT (aB e.slots s) e fun c=>{e with slots:=aU e.slots s ⟨false,c.d⟩}
 | _=>e
inductive Ptr where
 | loc (b off:Nat)
 | ptr (id off:Nat)
 | eptr (d:D)
 deriving Inhabited
def pK:D→Option Ptr
 | .ptr id off=>some (.ptr id off)
 | .eptr d=>some (.eptr d)
 | _=>none
def eI (e:Env):AOpd→Option Ptr
 | .tmp s=>bT (aB e.locs s) (aC (aB e.slots s) fun c=>pK c.d) fun p=>some (.loc p.1 p.2)
 | .mv s=>bT (aB e.locs s) (aC (aB e.slots s) fun c=>pK c.d) fun p=>some (.loc p.1 p.2)
 | .const d=>pK d
inductive Val where
 | c (c:Cell)
 | l (b off:Nat)
 deriving Inhabited
def putCells:List Cell→Nat→List Cell→List Cell
 | cs,_,[]=>cs
 | [],_,_=>[]
 | _ :: cs,0,x :: new=>x :: putCells cs 0 new
 | c :: cs,n + 1,new=>c :: putCells cs n new
def rR:List D→Nat→List D→List D
 | cs,_,[]=>cs
 | [],_,_=>[]
 | _ :: cs,0,x :: new=>x :: rR cs 0 new
 | c :: cs,n + 1,new=>c :: rR cs n new
def Ff:List D→List (Nat × Nat × D)→Option (List D)
 | cs,[]=>some cs
 | cs,(off,n,d) :: r=>ifB (d.ok && d.cells.length == n && decide (off + n≤cs.length)) (Ff (rR cs off d.cells) r) none
def oR (e:Env):List (Nat × Nat × AOpd)→Option (List (Nat × Nat × D))
 | []=>some []
 | (off,n,x) :: r=>aC (opd e x) fun c=>aC (oR e r) fun l=>some ((off,n,c.d) :: l)
def bI (sz:Nat):List D→Bool
 | []=>true
 | d :: r=>d.ok && d.cells.length == sz && bI sz r
def iM:List Cell→Nat→Nat→Option (List D)
 | _,0,0=>some []
 | [],_,_=>none
 | c :: cs,0,n + 1=>aC (iM cs 0 n) fun l=>some (c.d :: l)
 | _ :: cs,o + 1,n=>iM cs o n
def cA (cs:List Cell) (k:Option Nat) (off:Nat):Option Cell :=
 match k with
 | none=>nth cs off
 | some n=>aC (iM cs off n) fun l=>some ⟨false,.agg l⟩
def eV:List Cell→Nat→List Cell
 | [],_=>[]
 | c :: cs,0=>⟨false,c.d⟩ :: cs
 | c :: cs,n + 1=>c :: eV cs n
def fD:List Cell→Bool
 | []=>false
 | c :: r=>match c.d with
  | .list _ _=>c.own
  | _=>fD r
def fU:List Cell→List Cell
 | []=>[]
 | c :: r=>match c.d with
  | .list _ _=>⟨false,c.d⟩ :: r
  | _=>c :: fU r
def kS (o:Bool):List D→List Cell
 | []=>[]
 | d :: r=>match d with
  | .list _ _=>⟨o,d⟩ :: r.map Cell.of
  | _=>⟨false,d⟩ :: kS o r
def kE (op:BinOp) (k:IntKind) (a b:Int):Option D :=
 match op with
 | .add=>some (.int k (k.wrap (a + b)))
 | .sub=>some (.int k (k.wrap (a - b)))
 | .mul=>some (.int k (k.wrap (a * b)))
 | .quo=>ifB (b == 0) none (some (.int k (k.wrap (a.tdiv b))))
 | .rem=>ifB (b == 0) none (some (.int k (a.tmod b)))
 | .eql=>some (.bool (a == b))
 | .neq=>some (.bool (a != b))
 | .lss=>some (.bool (decide (a < b)))
 | .leq=>some (.bool (decide (a≤b)))
 | .gtr=>some (.bool (decide (a > b)))
 | .geq=>some (.bool (decide (a ≥ b)))
 | _=>none
def bG:Nat:=1099511627776
def oJ (op:BinOp) (a b:List UInt8):Option D :=
 match op with
 | .add=>ifB (decide (a.length + b.length≤281474976710656)) (some (.str (a ++ b))) none
 | .eql=>some (.bool (a == b))
 | .neq=>some (.bool (!(a == b)))
 | .lss=>some (.bool (Op.bytesLess a b))
 | .leq=>some (.bool (Op.bytesLess a b || a == b))
 | .gtr=>some (.bool (!(Op.bytesLess a b || a == b)))
 | .geq=>some (.bool (!Op.bytesLess a b))
 | _=>none
def xN (op:BinOp) (a b:Bool):Option D :=
 match op with
 | .eql=>some (.bool (a == b))
 | .neq=>some (.bool (!(a == b)))
 | _=>none
def gQ:IntKind→IntKind→Bool
 | .i8,.i8 | .i16,.i16 | .i32,.i32 | .i64,.i64 | .u8,.u8 | .u16,.u16 | .u32,.u32 | .u64,.u64=>true
 | _,_=>false
def zf1 (op:BinOp):D→D→Option D
 | .int k a,.int k' b=>ifB (gQ k k') (kE op k a b) none
 | .str a,.str b=>oJ op a b
 | _,_=>none
def zek (op:BinOp):D→D→Option D
 | .bool a,.bool b=>xN op a b
 | _,_=>none
def D.isNil?:D→Option Bool
 | .niliface=>some true
 | .iface _ _=>some false
 | _=>none
def D.isNilP?:D→Option Bool
 | .nilp=>some true
 | .ptr _ _=>some false
 | .eptr _=>some false
 | _=>none
def tU (t:Nat) (z:D):D→Option D
 | .iface t' d=>some (.tup [ifB (t' == t) d z,.bool (t' == t)])
 | .niliface=>some (.tup [z,.bool false])
 | _=>none
def tZ (op:BinOp) (b:Bool):Option D:=match op with
 | .eql=>some (.bool b)
 | .neq=>some (.bool (!b))
 | _=>none
def cT:List UInt8→List D
 | []=>[]
 | b :: r=>.int .u8 b.toNat :: cT r
def mmD (mx:Bool):D→D→Option D
 | .int k a,.int k' b=>ifB (gQ k k') (some (.int k (ifB mx (ifB (decide (a < b)) b a) (ifB (decide (b < a)) b a)))) none
 | _,_=>none
def unD:UnOp→D→Option D
 | .not,.bool b=>some (.bool (!b))
 | .neg,.int k n=>some (.int k (k.wrap (0 - n)))
 | _,_=>none
def jS (sz:Nat) (x:D) (lo:Nat) (hi:Option Nat):Option D :=
 match x with
 | .nils=>ifB (decide (lo≤hi.getD 0) && decide (hi.getD 0≤0)) (some .nils) none
 | .list k es=>ifB (decide (lo≤hi.getD es.length) && decide (hi.getD es.length≤es.length) && k.sz == sz) (some (.list k ((es.drop lo).take (hi.getD es.length - lo)))) none
 | .empt=>ifB (decide (lo≤hi.getD 0) && decide (hi.getD 0≤0)) (some .empt) none
 | .arr k id off len=>ifB (decide (lo≤hi.getD len) && decide (hi.getD len≤len) && k.sz == sz) (some (.arr k id (off + lo) (hi.getD len - lo))) none
 | _=>none
def Ea (sz:Nat) (x:D) (lo hi max:Nat):Option D :=
 ifB (hi == max && decide (lo≤hi)) (match x with
  | .nils=>ifB (hi == 0) (some .nils) none
  | .empt=>ifB (hi == 0) (some .empt) none
  | .list k es=>ifB (decide (hi≤es.length) && k.sz == sz && !(k.el == 5)) (some (ifB (lo == hi) .empt (.list k ((es.drop lo).take (hi - lo))))) none
  | .arr _ _ _ len=>ifB (decide (hi≤len) && lo == hi) (some .empt) none
  | _=>none) none
def dC (sz:Nat) (x:D) (n:Nat):Option D:=match x with
 | .list k es=>ifB (k.sz == sz) (aC (nth es n) fun d=>some (.eptr d)) none
 | .arr k id off len=>ifB (k.sz == sz && decide (n < len)) (some (.ptr id ((off + n) * sz))) none
 | _=>none
def D.isNilS?:D→Option Bool
 | .nils=>some true
 | .list _ (_ :: _)=>some false
 | .arr _ _ _ _=>some false
 | _=>none
def D.isNilM?:D→Option Bool
 | .nilmap=>some true
 | .map _=>some false
 | _=>none
def Xq:D→D→Option Bool
 | .int k a,.int k' b=>ifB (gQ k k') (some (a == b)) none
 | .str a,.str b=>some (a == b)
 | .bool a,.bool b=>some (a == b)
 | _,_=>none
def zeq:Nat→D→Bool
 | 0,.int .i64 _=>true
 | 1,.str _=>true
 | 2,.bool _=>true
 | _,_=>false
def nC:List Nat→List D→Bool
 | [],[]=>true
 | k :: r,d :: s=>zeq k d && nC r s
 | _,_=>false
def zfk:D→D→Bool
 | .int _ a,.int _ b=>a == b
 | .str a,.str b=>a == b
 | .bool a,.bool b=>a == b
 | _,_=>false
def Am:List D→List D→Bool
 | a :: r,b :: s=>zfk a b && Am r s
 | _,_=>true
/-! ### Maps -/
def fP (k:D):List (D × D × Nat)→Option (Option (D × Nat × Nat))
 | []=>some none
 | (k',v,b) :: r=>aC (Xq k k') fun is=>ifB is (some (some (v,b,0))) (aC (fP k r) fun x=>some (bT x none fun p=>some (p.1,p.2.1,p.2.2 + 1)))
def zaz (b:Nat) (v:D):List (D × D × Nat)→List (D × D × Nat)
 | []=>[]
 | (k,v',b') :: r=>ifB (b' == b) ((k,v,b') :: r) ((k,v',b') :: zaz b v r)
def rL (ks:Bool):D→Bool
 | .int _ _=>!ks
 | .str _=>ks
 | _=>false
def rC (ot:List (Nat × Oth)):D→Option (List (D × D × Nat))
 | .nilmap=>some []
 | .map id=>aC (aB ot id) fun x=>match x with
  | .map es _=>some es
  | _=>none
 | _=>none
def pJ (ot:List (Nat × Oth)):D→Option (Nat × List (D × D × Nat) × Nat)
 | .map id=>aC (aB ot id) fun x=>match x with
  | .map es c=>some (id,es,c)
  | _=>none
 | _=>none
def qF:List D→Option (List UInt8)
 | []=>some []
 | .int .u8 n :: r=>ifB (decide (0≤n) && decide (n < 256)) (aC (qF r) fun s=>some (UInt8.ofNat n.toNat :: s)) none
 | _ :: _=>none
def zia (s:List UInt8) (lo:Nat) (hi:Option Nat):Option D :=
 ifB (decide (lo≤hi.getD s.length) && decide (hi.getD s.length≤s.length)) (some (.str ((s.drop lo).take (hi.getD s.length - lo)))) none
def qN (e:Env):Option AOpd→Option Nat
 | some l=>aC (opd e l) fun c=>c.d.nat?
 | none=>some 0
def xE (e:Env):Option AOpd→Option (Option Nat)
 | some h=>aC (opd e h) fun c=>aC c.d.nat? fun n=>some (some n)
 | none=>some none
def aK (op:AOp) (e:Env) (σ:Store):Option Val :=
 match op with
 | .mov x=>aC (opd e x) fun c=>some (.c c)
 | .pick c a b=>aC (opd e c) fun c=>aC c.d.bool? fun t=>aC (ifB t (opd e a) (opd e b)) fun c=>some (.c ⟨false,c.d⟩)
 | .build z parts=>aC (oR e parts) fun ps=>aC (Ff z ps) fun cs=>some (.c ⟨false,.agg cs⟩)
 | .load k mv x=>aC (eI e x) fun p=>match p with
  | .loc b off=>aC (aB e.boxes b) fun cs=>aC (cA cs k off) fun c=>some (.c ⟨mv && c.own,c.d⟩)
  | .ptr id off=>aC (aB σ.objs id) fun cs=>aC (cA cs k off) fun c=>some (.c ⟨mv && c.own,c.d⟩)
  | .eptr d=>match k with
   | none=>ifB d.one (some (.c ⟨false,d⟩)) none
   | some n=>aC d.agg? fun cs=>ifB (cs.length == n) (some (.c ⟨false,d⟩)) none
 | .loadL k mv x=>aC (eI e x) fun p=>match p with
  | .loc b off=>aC (aB e.boxes b) fun cs=>aC (cA cs k off) fun c=>some (.c ⟨mv && c.own,c.d⟩)
  | .ptr _ _=>none
  | .eptr d=>match k with
   | none=>ifB d.one (some (.c ⟨false,d⟩)) none
   | some n=>aC d.agg? fun cs=>ifB (cs.length == n) (some (.c ⟨false,d⟩)) none
 | .loadB b k x=>aC (eI e x) fun p=>match p with
  | .loc b' off=>ifB (b' == b) (aC (aB e.boxes b) fun cs=>aC (cA cs k off) fun c=>some (.c ⟨false,c.d⟩)) none
  | _=>none
 | .loadE k x=>aC (eI e x) fun p=>match p with
  | .eptr d=>match k with
   | none=>ifB d.one (some (.c ⟨false,d⟩)) none
   | some n=>aC d.agg? fun cs=>ifB (cs.length == n) (some (.c ⟨false,d⟩)) none
  | _=>none
 | .loadG k x=>aC (eI e x) fun p=>match p with
  | .loc _ _=>none
  | .ptr id off=>aC (aB σ.objs id) fun cs=>aC (cA cs k off) fun c=>some (.c ⟨false,c.d⟩)
  | .eptr d=>match k with
   | none=>ifB d.one (some (.c ⟨false,d⟩)) none
   | some n=>aC d.agg? fun cs=>ifB (cs.length == n) (some (.c ⟨false,d⟩)) none
 | .loadP k x=>aC (eI e x) fun p=>match p with
  | .ptr id off=>aC (aB σ.objs id) fun cs=>aC (cA cs k off) fun c=>some (.c ⟨false,c.d⟩)
  | _=>none
 | .nilCheck x=>aC (eI e x) fun p=>match p with
  | .loc b off=>some (.l b off)
  | .ptr id off=>some (.c ⟨false,.ptr id off⟩)
  | .eptr d=>some (.c ⟨false,.eptr d⟩)
 | .bin op x y=>aC (opd e x) fun a=>aC (opd e y) fun b=>aC (zf1 op a.d b.d) fun d=>some (.c ⟨false,d⟩)
 | .binB op x y=>aC (opd e x) fun a=>aC (opd e y) fun b=>aC (zek op a.d b.d) fun d=>some (.c ⟨false,d⟩)
 | .un op x=>aC (opd e x) fun a=>aC (unD op a.d) fun d=>some (.c ⟨false,d⟩)
 | .toInt k x=>aC (opd e x) fun a=>aC a.d.int? fun n=>some (.c ⟨false,.int k (k.wrap n.2)⟩)
 | .toStr x=>aC (opd e x) fun a=>aC a.d.str? fun s=>some (.c ⟨false,.str s⟩)
 | .runeStr x=>aC (opd e x) fun a=>aC a.d.int? fun n=>some (.c ⟨false,.str (Utf8.encode n.2).data.toList⟩)
 | .bytesToStr x=>aC (opd e x) fun c=>aC (eL c.d) fun es=>aC (qF es) fun s=>some (.c ⟨false,.str s⟩)
 | .mkIface t x=>aC (opd e x) fun c=>some (.c ⟨false,.iface t c.d⟩)
 | .mkFunc fn first caps=>aC (jC e first) fun a=>aC (jC e caps) fun b=>some (.c ⟨false,.fn fn a b⟩)
 | .slice sz x lo hi=>aC (opd e x) fun c=>aC (qN e lo) fun l=>aC (xE e hi) fun h=>aC (jS sz c.d l h) fun d=>some (.c ⟨false,d⟩)
 | .sliceS x lo hi=>aC (opd e x) fun c=>aC c.d.str? fun s=>aC (qN e lo) fun l=>aC (xE e hi) fun h=>aC (zia s l h) fun d=>some (.c ⟨false,d⟩)
 | .fieldAddr off k x=>aC (eI e x) fun p=>match p with
  | .loc b o=>some (.l b (o + off))
  | .ptr id o=>some (.c ⟨false,.ptr id (o + off)⟩)
  | .eptr d=>aC d.agg? fun cs=>aC (part k cs off) fun d=>some (.c ⟨false,.eptr d⟩)
 | .field off k x=>aC (opd e x) fun c=>aC c.d.agg? fun cs=>aC (part k cs off) fun d=>some (.c ⟨false,d⟩)
 | .indexAddr sz x i=>aC (opd e x) fun c=>aC (opd e i) fun i=>aC i.d.nat? fun n=>aC (dC sz c.d n) fun d=>some (.c ⟨false,d⟩)
 | .indexAddrP n sz x i=>aC (eI e x) fun p=>aC (opd e i) fun i=>aC i.d.nat? fun m=>ifB (decide (m < n)) (match p with
  | .loc b o=>some (.l b (o + m * sz))
  | .ptr id o=>some (.c ⟨false,.ptr id (o + m * sz)⟩)
  | .eptr _=>none) none
 | .indexA n sz x i=>aC (opd e x) fun c=>aC c.d.agg? fun cs=>aC (opd e i) fun i=>aC i.d.nat? fun m=>ifB (decide (m < n) && sz == 1) (aC (nth cs m) fun d=>some (.c ⟨false,d⟩)) none
 | .eqA op ks x y=>aC (opd e x) fun a=>aC (opd e y) fun b=>aC a.d.agg? fun as=>aC b.d.agg? fun bs=>ifB (nC ks as && nC ks bs) (aC (tZ op (Am as bs)) fun d=>some (.c ⟨false,d⟩)) none
 | .isNilS op x=>aC (opd e x) fun c=>aC c.d.isNilS? fun b=>aC (tZ op b) fun d=>some (.c ⟨false,d⟩)
 | .isNilM op x=>aC (opd e x) fun c=>aC c.d.isNilM? fun b=>aC (tZ op b) fun d=>some (.c ⟨false,d⟩)
 | .lookup ks z ok x i=>aC (opd e x) fun c=>aC (opd e i) fun k=>aC (rC σ.oth c.d) fun es=>ifB (rL ks k.d) (aC (fP k.d es) fun r=>some (.c ⟨false,bT r (ifB ok (.tup [z,.bool false]) z) fun v=>ifB ok (.tup [v.1,.bool true]) v.1⟩)) none
 | .lenM x=>aC (opd e x) fun c=>aC (rC σ.oth c.d) fun es=>some (.c ⟨false,.int .i64 es.length⟩)
 | .index x i=>aC (opd e x) fun c=>aC c.d.str? fun s=>aC (opd e i) fun i=>aC i.d.nat? fun n =>
  aC (nth s n) fun b=>some (.c ⟨false,.int .u8 b.toNat⟩)
 | .extract x i=>aC (opd e x) fun c=>aC c.d.tup? fun ds=>aC (nth ds i) fun d=>some (.c ⟨false,d⟩)
 | .mm mx x y=>aC (opd e x) fun a=>aC (opd e y) fun b=>aC (mmD mx a.d b.d) fun d=>some (.c ⟨false,d⟩)
 | .len x=>aC (opd e x) fun c=>aC (lenOf c.d) fun n=>some (.c ⟨false,.int .i64 n⟩)
 | .lenS x=>aC (opd e x) fun c=>aC c.d.str? fun s=>some (.c ⟨false,.int .i64 s.length⟩)
 | .isNil op x=>aC (opd e x) fun c=>aC c.d.isNil? fun b=>aC (tZ op b) fun d=>some (.c ⟨false,d⟩)
 | .assertT t z x=>aC (opd e x) fun c=>aC (tU t z c.d) fun d=>some (.c ⟨false,d⟩)
 | .isNilP op x=>aC (opd e x) fun c=>aC c.d.isNilP? fun b=>aC (tZ op b) fun d=>some (.c ⟨false,d⟩)
 | _=>none
def iI (op:AOp) (e:Env):Env :=
 match op with
 | .mov x=>x.drop e
 | .load _ true x=>bT (eI e x) e fun p=>match p with
  | .loc b off=>bT (aB e.boxes b) e fun cs=>{e with boxes:=aU e.boxes b (eV cs off)}
  | _=>e
 | .loadL _ true x=>bT (eI e x) e fun p=>match p with
  | .loc b off=>bT (aB e.boxes b) e fun cs=>{e with boxes:=aU e.boxes b (eV cs off)}
  | _=>e
 | _=>e
def iC (op:AOp) (e:Env) (σ:Store):Store :=
 match op with
 | .load _ true x=>bT (eI e x) σ fun p=>match p with
  | .ptr id off=>bT (aB σ.objs id) σ fun cs=>{σ with objs:=aU σ.objs id (eV cs off)}
  | _=>σ
 | _=>σ
def Env.put (e:Env) (dst:Option Nat) (c:Cell):Env :=
 match dst with
 | some s=>{e with slots:=aU e.slots s c,locs:=aY e.locs s}
 | none=>e
def Env.putV (e:Env) (dst:Option Nat):Val→Env
 | .c c=>e.put dst c
 | .l b off=>match dst with
  | some s=>{e with slots:=aY e.slots s,locs:=aU e.locs s (b,off)}
  | none=>e
def Env.box (e:Env) (s:Nat) (cs:List Cell):Env :=
 {e with slots:=aY e.slots s,locs:=aU (pI e.locs s) s (s,0),boxes:=aU e.boxes s cs}
def kK (sz:RowK) (x:Cell):Bool :=
 match x.d with
 | .nils=>true
 | .empt=>true
 | .list sz' _=>x.own && sz'.same sz
 | _=>false
def kX (sz:RowK):D→List D→D
 | .nils,ys=>bE sz ys
 | .empt,[]=>.empt
 | .empt,y :: ys=>.list sz (y :: ys)
 | .list _ xs,ys=>.list sz (xs ++ ys)
 | d,_=>d
def cK (sz:RowK) (by_:Nat) (x:Cell) (ys:List D):Option Cell :=
 aC (eL x.d) fun xs =>
  ifB (kK sz x && bI sz.sz ys && decide ((xs.length + ys.length) * by_≤bG) && decide (xs.length + ys.length≤bG)) (some ⟨true,kX sz x.d ys⟩) none
def dE (c:Cell):List Cell:=ifB c.d.one [c] (c.d.cells.map Cell.of)
def nU (c:Cell) (k off:Nat) (cs:List Cell):Bool:=c.d.ok && c.d.cells.length == k && decide (off + k≤cs.length)
def aN (σ:Store) (k:RowK) (cs:List Cell):Store:={objs:=(σ.next,cs) :: σ.objs,tys:=(σ.next,⟨k.el,k.sz⟩) :: σ.tys,oth:=σ.oth,next:=σ.next + 2}
def cellsOf:List D→List Cell
 | []=>[]
 | d :: r=>d.cells.map Cell.of ++ cellsOf r
def rG (z:List D):Nat→List Cell
 | 0=>[]
 | n + 1=>z.map Cell.of ++ rG z n
def bP (σ:Store) (k:RowK) (by_:Nat) (x:D) (ys:List D):Option (D × Store) :=
 ifB (bI k.sz ys) (match x with
  | .nils=>ifB ys.isEmpty (some (.nils,σ)) (ifB (decide (ys.length * by_≤bG) && decide (ys.length≤bG)) (some (.arr k σ.next 0 ys.length,aN σ k (cellsOf ys))) none)
  | .empt=>ifB ys.isEmpty (some (.empt,σ)) (ifB (decide (ys.length * by_≤bG) && decide (ys.length≤bG)) (some (.arr k σ.next 0 ys.length,aN σ k (cellsOf ys))) none)
  | .arr k' id off n=>aC (aB σ.objs id) fun cs=>aC (aB σ.tys id) fun ty =>
   ifB (k'.same k && ty.t == k.el && ty.sz == k.sz && off == 0 && decide (n * k.sz≤cs.length) && decide ((n + ys.length) * by_≤bG) && decide (n + ys.length≤bG))
    (some (.arr k σ.next 0 (n + ys.length),aN {σ with objs:=aY σ.objs id} k ((cs.take (n * k.sz)).map (fun c=>Cell.of c.d) ++ cellsOf ys))) none
  | _=>none) none
def zgd (σ:Store) (sz:Nat) (x:D) (ys:List D):Option (Nat × Store):=match x with
 | .nils=>some (0,σ)
 | .empt=>some (0,σ)
 | .arr k id off len=>aC (aB σ.objs id) fun cs=>ifB (k.sz == sz && bI sz ys && decide ((off + len) * sz≤cs.length))
   (some (min len ys.length,{σ with objs:=aU σ.objs id (putCells cs (off * sz) (cellsOf (ys.take len)))})) none
 | _=>none
def Zo (σ:Store) (sz:Nat) (z:List D) (x:D):Option Store:=match x with
 | .nils=>some σ
 | .empt=>some σ
 | .arr k id off len=>aC (aB σ.objs id) fun cs=>ifB (k.sz == sz && z.length == sz && decide ((off + len) * sz≤cs.length))
   (some {σ with objs:=aU σ.objs id (putCells cs (off * sz) (rG z len))}) none
 | _=>none
def Zz (b:Nat):List (D × D × Nat)→Bool
 | []=>false
 | (_,_,b') :: r=>ifB (b' == b) true (Zz b r)
/-! ### Freezing: arrays become lists -/
abbrev hU:=List (Nat × List Cell)
def oQ (f:D→hU→Option (D × hU)):List D→hU→Option (List D × hU)
 | [],os=>some ([],os)
 | d :: r,os=>aC (f d os) fun x=>aC (oQ f r x.2) fun y=>some (x.1 :: y.1,y.2)
def bR:Nat→D→hU→Option (D × hU)
 | 0,_,_=>none
 | n + 1,d,os=>match d with
  | .arr k id off len=>aC (aB os id) fun cs=>ifB ((k.ag || k.sz == 1) && decide ((off + len) * k.sz≤cs.length)) (aC (oQ (bR n) (uT k cs off len) (aY os id)) fun r=>some (.list k r.1,r.2)) none
  | .agg ds=>aC (oQ (bR n) ds os) fun r=>some (.agg r.1,r.2)
  | .tup ds=>aC (oQ (bR n) ds os) fun r=>some (.tup r.1,r.2)
  | .iface t d=>aC (bR n d os) fun r=>some (.iface t r.1,r.2)
  | d=>some (d,os)
def Cell.keeps (c:Cell):Bool:=match c.d with
 | .list _ _=>c.own
 | _=>false
def lV:List Cell→hU→Option (List Cell × hU)
 | [],os=>some ([],os)
 | c :: r,os=>aC (bR 40 c.d os) fun x=>aC (lV r x.2) fun y=>some (⟨c.keeps,x.1⟩ :: y.1,y.2)
def lL (t:FTgt) (e:Env) (σ:Store):Option (Env × Store):=match t with
 | .slot s=>aC (aB e.slots s) fun c=>aC (bR 40 c.d σ.objs) fun r=>some ({e with slots:=aU e.slots s ⟨c.keeps,r.1⟩},{σ with objs:=r.2})
 | .box b=>aC (aB e.boxes b) fun cs=>aC (lV cs σ.objs) fun r=>some ({e with boxes:=aU e.boxes b r.1},{σ with objs:=r.2})
 | .obj s=>aC (aB e.slots s) fun p=>match p.d with
  | .ptr id 0=>aC (aB σ.objs id) fun cs=>aC (lV cs (aY σ.objs id)) fun r=>some (e,{σ with objs:=aU r.2 id r.1})
  | _=>none
 | .promote s=>aC (aB e.boxes s) fun cs=>aC (aB e.locs s) fun p=>ifB (p.1 == s && p.2 == 0)
  (some ({e with slots:=aU e.slots s ⟨false,.ptr σ.next 0⟩,locs:=pI (aY e.locs s) s,boxes:=aY e.boxes s},{σ with objs:=(σ.next,cs.map fun c=>Cell.of c.d) :: σ.objs,tys:=aY σ.tys σ.next,next:=σ.next + 1})) none
def kO:List FTgt→Env→Store→Option (Env × Store)
 | [],e,σ=>some (e,σ)
 | t :: r,e,σ=>aC (lL t e σ) fun x=>kO r x.1 x.2
def eU (op:AOp) (e:Env) (σ:Store):Option (D × Store) :=
 match op with
 | .galloc t z=>some (.ptr σ.next 0,{objs:=(σ.next,z.map Cell.of) :: σ.objs,tys:=(σ.next,⟨t,0⟩) :: σ.tys,oth:=σ.oth,next:=σ.next + 1})
 | .gbox t x=>aC (opd e x) fun c=>ifB c.d.ok (some (.ptr σ.next 0,{objs:=(σ.next,c.d.cells.map Cell.of) :: σ.objs,tys:=(σ.next,⟨t,0⟩) :: σ.tys,oth:=σ.oth,next:=σ.next + 1})) none
 | .storeP k x y=>aC (eI e x) fun p=>aC (opd e y) fun c=>match p with
  | .ptr id off=>aC (aB σ.objs id) fun cs=>ifB (nU ⟨false,c.d⟩ k off cs) (some (.undef,{σ with objs:=aU σ.objs id (putCells cs off (dE ⟨false,c.d⟩))})) none
  | _=>none
 | .makeA k by_ z len cap=>aC (opd e len) fun l=>aC l.d.nat? fun l=>aC (opd e cap) fun c=>aC c.d.nat? fun c =>
  ifB (l == c && decide (l * by_≤bG) && decide (l≤bG)) (some (.arr k σ.next 0 l,aN σ k (rG z l))) none
 | .buildA k parts=>aC (jC e parts) fun ds=>ifB (bI k.sz ds && decide (ds.length * k.sz≤16777216)) (some (.arr k σ.next 0 ds.length,aN σ k (cellsOf ds))) none
 | .appendA k by_ x y=>aC (opd e x) fun c=>aC (opd e y) fun d=>aC (eB σ.objs d.d) fun ys=>bP σ k by_ c.d ys
 | .appendW _ k by_ x y=>aC (opd e x) fun c=>aC (opd e y) fun d=>aC (eB σ.objs d.d) fun ys=>bP σ k by_ c.d ys
 | .copyA sz x y=>aC (opd e x) fun c=>aC (opd e y) fun d=>aC (eB σ.objs d.d) fun ys=>aC (zgd σ sz c.d ys) fun r=>some (.int .i64 r.1,r.2)
 | .clearA sz z x=>aC (opd e x) fun c=>aC (Zo σ sz z c.d) fun σ'=>some (.tup [],σ')
 | .makeMap=>some (.map σ.next,{σ with oth:=(σ.next,.map [] 0) :: σ.oth,next:=σ.next + 1})
 | .update ks x i y=>aC (opd e x) fun c=>aC (opd e i) fun k=>aC (opd e y) fun v=>aC (pJ σ.oth c.d) fun m=>ifB (rL ks k.d && v.d.ok) (aC (fP k.d m.2.1) fun r =>
   some (.undef,{σ with oth:=aU σ.oth m.1 (bT r (.map (m.2.1 ++ [(k.d,v.d,m.2.2)]) (m.2.2 + 1)) fun p=>.map (m.2.1.set p.2.2 (k.d,v.d,p.2.1)) m.2.2)})) none
 | .delete ks x i=>aC (opd e x) fun c=>aC (opd e i) fun k=>aC (pJ σ.oth c.d) fun m=>ifB (rL ks k.d) (aC (fP k.d m.2.1) fun r =>
   some (.tup [],{σ with oth:=aU σ.oth m.1 (.map (bT r m.2.1 fun p=>m.2.1.eraseIdx p.2.2) m.2.2)})) none
 | .entry ks z x i=>aC (opd e x) fun c=>aC (opd e i) fun k=>aC (pJ σ.oth c.d) fun m=>ifB (rL ks k.d) (aC (fP k.d m.2.1) fun r =>
   some (bT r (.tup [z,.int .i64 m.2.2]) (fun p=>.tup [p.1,.int .i64 p.2.1]),{σ with oth:=aU σ.oth m.1 (bT r (.map (m.2.1 ++ [(k.d,z,m.2.2)]) (m.2.2 + 1)) fun _=>.map m.2.1 m.2.2)})) none
 | .entryStore x s y=>aC (opd e x) fun c=>aC (opd e s) fun b=>aC b.d.nat? fun b=>aC (opd e y) fun v=>aC (pJ σ.oth c.d) fun m=>ifB (v.d.ok && Zz b m.2.1)
   (some (.undef,{σ with oth:=aU σ.oth m.1 (.map (zaz b v.d m.2.1) m.2.2)})) none
 | _=>none
def bF (dst:Option Nat) (op:AOp) (e:Env) (σ:Store):Option (Env × Store):=aC (eU op e σ) fun r=>some (e.put dst ⟨false,r.1⟩,r.2)
def aS (dst:Option Nat) (op:AOp) (e:Env) (σ:Store):Option (Env × Store) :=
 match op with
 | .alloc z=>aC dst fun s=>some (e.box s (z.map Cell.of),σ)
 | .box x=>aC dst fun s=>aC (opd e x) fun c=>ifB c.d.ok (some (e.box s (c.d.cells.map Cell.of),σ)) none
 | .galloc t z=>bF dst (.galloc t z) e σ
 | .gbox t x=>bF dst (.gbox t x) e σ
 | .rangeS x=>aC (opd e x) fun c=>aC c.d.str? fun s=>some (e.put dst ⟨false,.ptr σ.next 0⟩,{σ with oth:=(σ.next,.it s 0) :: σ.oth,next:=σ.next + 1})
 | .nextS x=>aC (eI e x) fun p=>match p with
  | .ptr id 0=>aC (aB σ.oth id) fun it=>match it with
   | .it s pos=>ifB (decide (pos < s.length))
    (some (e.put dst ⟨false,.tup [.bool true,.int .i64 pos,.int .i32 (Utf8.decode ⟨⟨s⟩⟩ pos).1]⟩,{σ with oth:=aU σ.oth id (.it s (pos + (Utf8.decode ⟨⟨s⟩⟩ pos).2))}))
    (some (e.put dst ⟨false,.tup [.bool false]⟩,σ))
   | _=>none
  | _=>none
 | .buildSlice sz parts=>aC (jC e parts) fun ds =>
  ifB (bI sz.sz ds && decide (ds.length * sz.sz≤16777216)) (some (e.put dst ⟨true,.list sz ds⟩,σ)) none
 | .strToBytes k x=>aC (opd e x) fun c=>aC c.d.str? fun s=>ifB (decide (s.length≤bG)) (some (e.put dst ⟨false,.list k (cT s)⟩,σ)) none
 | .store k x y=>aC (eI e x) fun p=>aC (opd e y) fun c=>match p with
  | .loc b off=>aC (aB e.boxes b) fun cs=>ifB (nU c k off cs)
    (some (Env.put {y.drop e with boxes:=aU e.boxes b (putCells cs off (dE c))} dst ⟨false,.undef⟩,σ)) none
  | .ptr id off=>aC (aB σ.objs id) fun cs=>ifB (nU c k off cs)
    (some ((y.drop e).put dst ⟨false,.undef⟩,{σ with objs:=aU σ.objs id (putCells cs off (dE c))})) none
  | .eptr _=>none
 | .loadA k x=>aC (eI e x) fun p=>match p with
  | .loc b 0=>aC (aB e.boxes b) fun cs=>ifB (cs.length == k) (some (Env.put {e with boxes:=aU e.boxes b (fU cs)} dst ⟨fD cs,.agg (cs.map fun c=>c.d)⟩,σ)) none
  | _=>none
 | .storeA k x y=>aC (eI e x) fun p=>aC (opd e y) fun c=>match p with
  | .loc b 0=>aC (aB e.boxes b) fun cs=>aC c.d.agg? fun ds=>ifB (cs.length == k && ds.length == k) (some (Env.put {y.drop e with boxes:=aU e.boxes b (kS c.own ds)} dst ⟨false,.undef⟩,σ)) none
  | _=>none
 | .append sz by_ x y=>aC (opd e x) fun c=>aC (opd e y) fun d=>aC (eL d.d) fun ys=>aC (cK sz by_ c ys) fun r=>some ((x.drop e).put dst r,σ)
 | .appendS k by_ x y=>aC (opd e x) fun c=>aC (opd e y) fun d=>aC d.d.str? fun s=>aC (cK k by_ c (cT s)) fun r=>some ((x.drop e).put dst r,σ)
 | .slice3 sz x lo hi max=>aC (opd e x) fun c=>aC (qN e lo) fun l=>aC (opd e hi) fun h=>aC h.d.nat? fun h=>aC (opd e max) fun m=>aC m.d.nat? fun m=>aC (Ea sz c.d l h m) fun d=>some (e.put dst ⟨true,d⟩,σ)
 | .storeP k x y=>bF dst (.storeP k x y) e σ
 | .allocN s z=>ifB (jK e.locs s) (some (Env.putV {e with boxes:=aU e.boxes s (z.map Cell.of)} dst (.l s 0),σ)) none
 | .boxN s x=>aC (opd e x) fun c=>ifB (jK e.locs s && c.d.ok) (some (Env.putV {e with boxes:=aU e.boxes s (c.d.cells.map Cell.of)} dst (.l s 0),σ)) none
 | .storeB b k x y=>aC (eI e x) fun p=>aC (opd e y) fun c=>match p with
  | .loc b' off=>ifB (b' == b) (aC (aB e.boxes b) fun cs=>ifB (nU c k off cs)
    (some (Env.put {y.drop e with boxes:=aU e.boxes b (putCells cs off (dE c))} dst ⟨false,.undef⟩,σ)) none) none
  | _=>none
 | .makeA k by_ z len cap=>bF dst (.makeA k by_ z len cap) e σ
 | .buildA k parts=>bF dst (.buildA k parts) e σ
 | .appendA k by_ x y=>bF dst (.appendA k by_ x y) e σ
 | .appendW ws k by_ x y=>bF dst (.appendW ws k by_ x y) e σ
 | .copyA sz x y=>bF dst (.copyA sz x y) e σ
 | .clearA sz z x=>bF dst (.clearA sz z x) e σ
 | .makeMap=>bF dst .makeMap e σ
 | .growZ k by_ z x n=>aC (opd e x) fun c=>match c.d with
  | .nils=>aC (opd e n) fun m=>match m.d with
   | .int .i64 (.ofNat m)=>ifB (decide (0 < m) && decide (m * by_≤bG) && decide (m≤bG)) (some (e.put dst ⟨false,.arr k σ.next 0 m⟩,aN σ k (rG z m))) none
   | _=>none
  | _=>none
 | .capZ x=>aC (opd e x) fun c=>match c.d with
  | .nils=>some (e.put dst ⟨false,.int .i64 0⟩,σ)
  | _=>none
 | .cloneM x=>aC (opd e x) fun c=>match c.d with
  | .iface t (.map id)=>aC (aB σ.oth id) fun x=>match x with
   | .map es cl=>some (e.put dst ⟨false,.iface t (.map σ.next)⟩,{σ with oth:=(σ.next,.map es cl) :: σ.oth,next:=σ.next + 1})
   | _=>none
  | _=>none
 | .assertP t x=>aC (opd e x) fun c=>match c.d with
  | .iface t' d=>ifB (t' == t) (some (e.put dst ⟨false,d⟩,σ)) none
  | _=>none
 | .update ks x i y=>bF dst (.update ks x i y) e σ
 | .delete ks x i=>bF dst (.delete ks x i) e σ
 | .entry ks z x i=>bF dst (.entry ks z x i) e σ
 | .entryStore x s y=>bF dst (.entryStore x s y) e σ
 | .deferv x args=>aC (opd e x) fun c=>aC c.d.fnF? fun f=>aC (jC e args) fun as =>
  some (Env.put {e with defers:=(f.1,f.2.1 ++ as ++ f.2.2) :: e.defers} dst ⟨false,.undef⟩,σ)
 | op=>aC (aK op e σ) fun v=>some ((iI op e).putV dst v,iC op e σ)
abbrev aM:=FuncId→List D→Store→Option (Out × Store)
def Oj:D→Bool
 | .undef=>true
 | _=>false
def nJ (g:Option (Nat × Bool)) (e:Env):Option Bool :=
 match g with
 | none=>some true
 | some (s,want)=>aC (aB e.slots s) fun c=>bT c.d.bool? (ifB (Oj c.d) (some false) none) fun b=>some (b == want)
inductive OpsOut where
 | normal (e:Env) (σ:Store)
 | panic (d:D) (e:Env) (σ:Store)
 deriving Inhabited
inductive Kind where
 | op
 | call
 | panic
def mZ (op:AOp) (e:Env):Option (FuncId × List D) :=
 match op with
 | .call f args=>aC (jC e args) fun as=>some (f,as)
 | .callv x args=>aC (opd e x) fun c=>aC c.d.fn? fun f=>aC (jC e args) fun as=>some (f.1,f.2.1 ++ as ++ f.2.2)
 | .callW _ f args=>aC (jC e args) fun as=>some (f,as)
 | .callvW _ x args=>aC (opd e x) fun c=>aC c.d.fn? fun f=>aC (jC e args) fun as=>some (f.1,f.2.1 ++ as ++ f.2.2)
 | _=>none
def gR:AOp→Option (List Nat)
 | .callW ws _ _=>some ws
 | .callvW ws _ _=>some ws
 | .appendW ws _ _ _ _=>some ws
 | _=>none
mutual
def D.same:D→D→Bool
 | .undef,.undef=>true
 | .bool a,.bool b=>a == b
 | .int k a,.int k' b=>gQ k k' && a == b
 | .str a,.str b=>a == b
 | .nils,.nils=>true
 | .list k a,.list k' b=>k.el == k'.el && k.sz == k'.sz && k.ag == k'.ag && rH a b
 | .agg a,.agg b=>rH a b
 | .tup a,.tup b=>rH a b
 | .nilp,.nilp=>true
 | .ptr a b,.ptr c d=>a == c && b == d
 | .eptr a,.eptr b=>D.same a b
 | .fn f a b,.fn g c d=>decide (f=g) && rH a c && rH b d
 | .nilfn,.nilfn=>true
 | .iface t a,.iface u b=>t == u && D.same a b
 | .niliface,.niliface=>true
 | .junk,.junk=>true
 | .arr k a b c,.arr k' a' b' c'=>k.el == k'.el && k.sz == k'.sz && k.ag == k'.ag && a == a' && b == b' && c == c'
 | .empt,.empt=>true
 | .map a,.map b=>a == b
 | .nilmap,.nilmap=>true
 | .yld a,.yld b=>a == b
 | _,_=>false
def rH:List D→List D→Bool
 | [],[]=>true
 | a :: r,b :: s=>D.same a b && rH r s
 | _,_=>false
end
def vO:List Cell→List Cell→Bool
 | [],[]=>true
 | a :: r,b :: s=>a.own == b.own && D.same a.d b.d && vO r s
 | _,_=>false
def vP:List (D × D × Nat)→List (D × D × Nat)→Bool
 | [],[]=>true
 | (a,b,c) :: r,(a',b',c') :: s=>D.same a a' && D.same b b' && c == c' && vP r s
 | _,_=>false
def Xs:Option (List Cell)→Option (List Cell)→Bool
 | some a,some b=>vO a b
 | _,_=>false
def uZ:Option Oth→Option Oth→Bool
 | some (.map a c),some (.map b d)=>vP a b && c == d
 | some (.it a c),some (.it b d)=>a == b && c == d
 | some (.loop _),_=>true
 | some .dfr,_=>true
 | _,_=>false
def iL (e:Env) (σ σ':Store) (s:Nat):Bool:=bT (aB e.slots s) true fun c=>match c.d with
 | .ptr id _=>bT (aB σ.objs id) true fun cs=>Xs (some cs) (aB σ'.objs id)
 | .map id=>bT (aB σ.oth id) true fun x=>uZ (some x) (aB σ'.oth id)
 | _=>true
def tK (b:Option (List Nat)) (e:Env) (σ σ':Store):Bool:=bT b true fun ws=>ws.all (iL e σ σ')
def AOp.kind:AOp→Kind
 | .call _ _=>.call
 | .callv _ _=>.call
 | .callW _ _ _=>.call
 | .callvW _ _ _=>.call
 | .panic _=>.panic
 | _=>.op
def uK (op:AOp) (e:Env):Option D :=
 match op with
 | .panic x=>aC (opd e x) fun c=>match c.d with
  | .iface t d=>some (.iface t d)
  | _=>none
 | _=>none
inductive Step where
 | next (e:Env) (σ:Store)
 | call (f:FuncId) (as:List D)
 | panic (d:D)
def fG (o:AOper) (e:Env) (σ:Store):Option Step :=
 aC (nJ o.guard e) fun w=>ifB w
  (match o.op.kind with
   | .op=>aC (aS o.dst o.op e σ) fun r=>some (.next r.1 r.2)
   | .call=>aC (mZ o.op e) fun r=>some (.call r.1 r.2)
   | .panic=>aC (uK o.op e) fun d=>some (.panic d))
  (some (.next (e.put o.dst ⟨false,.undef⟩) σ))
def dH (C:aM):List AOper→Env→Store→Option OpsOut
 | [],e,σ=>some (.normal e σ)
 | o :: rest,e,σ=>aC (fG o e σ) fun s=>match s with
  | .next e' σ'=>ifB (tK (gR o.op) e σ σ') (dH C rest e' σ') none
  | .call f as=>aC (C f as σ) fun r=>ifB (tK (gR o.op) e σ r.2) (match r.1 with
   | .ret c=>dH C rest (e.put o.dst c) r.2
   | .panic d=>some (.panic d e r.2)) none
  | .panic d=>some (.panic d e σ)
def yI (e:Env) (clr:List Nat):Env:={e with slots:=vZ e.slots clr,locs:=vZ e.locs clr,boxes:=vZ e.boxes clr}
def dL (body:Env→Store→Option (AExit × Env × Store)):Nat→Env→Store→Option (AExit × Env × Store)
 | 0,_,_=>none
 | n + 1,e,σ=>match body e σ with
  | some (.normal,e',σ')=>dL body n e' σ'
  | r=>r
def zF:List (Nat × Cell)→List (Nat × Cell)
 | []=>[]
 | (s,c) :: r=>(s,⟨false,c.d⟩) :: zF r
def oS:List Nat→List D→List (Nat × Cell)→List (Nat × Cell)
 | p :: ps,d :: ds,l=>oS ps ds (aU l p ⟨false,d⟩)
 | _,_,l=>l
def mK (σ:Store) (l:Nat):Option LRec:=aC (aB σ.oth l) fun x=>match x with
 | .loop r=>some r
 | _=>none
def enterLoop (ro:Option Nat) (r:LRec) (e:Env) (σ:Store):Option (Nat × Env × Store) :=
 match ro with
 | none=>some (σ.next + 1,{e with defers:=(dS + σ.next,[]) :: e.defers},{σ with oth:=(σ.next + 1,.loop r) :: (σ.next,.dfr) :: σ.oth,next:=σ.next + 2})
 | some l=>aC (mK σ l) fun _=>some (σ.next,e,{σ with oth:=(σ.next,.loop r) :: σ.oth,next:=σ.next + 1})
def endLoop (l:Nat) (e:Env) (σ:Store):Option (AExit × Env × Store) :=
 aC (mK σ l) fun r=>match r.st with
  | .ready=>some (.normal,e,{σ with oth:=aY σ.oth l})
  | .done (.exit i)=>some (.exit i,e,{σ with oth:=aY σ.oth l})
  | .done .ret=>some (.ret,e,{σ with oth:=aY σ.oth l})
  | .busy=>none
  | .over=>none
def wW (l:Nat) (f:Env→Store→Option (AExit × Env × Store)):Nat→Option (AExit × Env × Store)→Option (AExit × Env × Store)
 | 0,r=>match r with
  | some (.goto _,_,_)=>none
  | r=>r
 | m + 1,r=>match r with
  | some (.goto l',e,σ)=>ifB (l' == l) (wW l f m (f e σ)) none
  | r=>r
def exec (C:aM) (n:Nat) (ro:Option Nat):ACode→Env→Store→Option (AExit × Env × Store)
 | .skip,e,σ=>some (.normal,e,σ)
 | .region ops perm clr,e,σ=>match dH C ops e σ with
  | some (.normal e' σ')=>some (.normal,yI e' clr,σ')
  | some (.panic d e' σ')=>some (.panic d,bT perm e' (fun _=>e'.bare),σ')
  | none=>none
 | .seq a b,e,σ=>match exec C n ro a e σ with
  | some (.normal,e',σ')=>exec C n ro b e' σ'
  | r=>r
 | .cond c t f,e,σ=>aC (opd e c) fun c=>aC c.d.bool? fun b=>ifB b (exec C n ro t e σ) (exec C n ro f e σ)
 | .block id body,e,σ=>match exec C n ro body e σ with
  | some (.exit id',e',σ')=>ifB (id' == id) (some (.normal,e',σ')) (some (.exit id',e',σ'))
  | r=>r
 | .loop body,e,σ=>dL (exec C n ro body) n e σ
 | .exit id,e,σ=>some (.exit id,e,σ)
 | .ret,e,σ=>some (.ret,e,σ)
 | .scope body,e,σ=>match exec C n ro body e σ with
  | some (.goto _,_,_)=>none
  | r=>r
 | .scopeJ l body rest,e,σ=>wW l (exec C n ro rest) n (exec C n ro body e σ)
 | .label _,e,σ=>some (.normal,e,σ)
 | .goto l,e,σ=>some (.goto l,e,σ)
 | .stuck,_,_=>none
 | .frz ts body,e,σ=>aC (kO ts e σ) fun x=>exec C n ro body x.1 x.2
 | .rangeF g ps assign body,e,σ=>aC (opd e g) fun c=>aC c.d.fnF? fun f =>
  aC (enterLoop ro ⟨zF e.slots,ps,assign,body,.ready⟩ e σ) fun x=>aC (C f.1 (f.2.1 ++ [.yld x.1] ++ f.2.2) x.2.2) fun o=>match o.1 with
   | .ret _=>endLoop x.1 x.2.1 o.2
   | .panic _=>none
def pV:Nat→List D→List (Nat × Cell)
 | _,[]=>[]
 | i,d :: r=>(i,⟨false,d⟩) :: pV (i + 1) r
def eT (args:List D):Env:={slots:=pV 0 args,locs:=[],boxes:=[],defers:=[]}
abbrev mN:=FuncId→List D→Option D→Store→Option (Option D × Store)
def cR (R:mN) (C:aM):Option D→List (FuncId × List D)→Store→Option (Option D × Store)
 | m,[],σ=>some (m,σ)
 | m,(f,as) :: r,σ=>ifB (isY f) (aC (aB σ.oth (f - dS)) fun x=>match x with
  | .dfr=>cR R C m r {σ with oth:=aY σ.oth (f - dS)}
  | _=>none) (match R f as m σ with
  | some x=>cR R C x.1 r x.2
  | none=>aC (C f as σ) fun o=>match o.1 with
   | .ret _=>cR R C m r o.2
   | .panic _=>none)
def nZ (e:Env) (σ:Store):ARes→Option Cell
 | .tmp s=>aB e.slots s
 | .cell s k=>aC (eI e (.tmp s)) fun p=>match p with
  | .loc b off=>aC (aB e.boxes b) fun cs=>cA cs k off
  | .ptr id off=>aC (aB σ.objs id) fun cs=>aC (cA cs k off) fun c=>some ⟨false,c.d⟩
  | .eptr _=>none
 | .cellA s k=>aC (eI e (.tmp s)) fun p=>match p with
  | .loc b 0=>aC (aB e.boxes b) fun cs=>ifB (cs.length == k) (some ⟨fD cs,.agg (cs.map fun c=>c.d)⟩) none
  | _=>none
def lR (e:Env) (σ:Store):List ARes→Option (List D)
 | []=>some []
 | r :: l=>aC (nZ e σ r) fun c=>aC (lR e σ l) fun ds=>some (c.d :: ds)
def jW (e:Env) (σ:Store):List ARes→Option Cell
 | [r]=>nZ e σ r
 | l=>aC (lR e σ l) fun ds=>some ⟨false,.tup ds⟩
def Store.trunc (σ:Store) (m:Nat):Store:={objs:=σ.objs.filter fun p=>p.1 < m,tys:=σ.tys.filter fun p=>p.1 < m,oth:=σ.oth.filter fun p=>p.1 < m,next:=σ.next}
def nB (R:mN) (C:aM) (quiet:Bool) (af:AFun) (m:Nat):AExit × Env × Store→Option (Out × Store)
 | (x,e,σ)=>ifB (quiet && !e.defers.isEmpty) none (match x with
  | .normal | .ret=>aC (cR R C none e.defers σ) fun r=>match r.1 with
   | none=>aC (jW e r.2 af.res) fun c=>some (.ret c,ifB af.gc (r.2.trunc m) r.2)
   | some _=>none
  | .panic d=>aC (cR R C (some d) e.defers σ) fun r=>match r.1 with
   | none=>aC (jW e r.2 af.res) fun c=>some (.ret c,ifB af.gc (r.2.trunc m) r.2)
   | some d'=>some (.panic d',ifB af.gc (r.2.trunc m) r.2)
  | .exit _=>none
  | .goto _=>none)
def nG (σ:Store) (l:Nat) (r:LRec) (s:LSt):Store:={σ with oth:=aU σ.oth l (.loop {r with st:=s})}
def LSt.isReady:LSt→Bool
 | .ready=>true
 | _=>false
def Nl (C:aM) (n l:Nat):Option (AExit × Env × Store)→Option (Out × Store)
 | some (x,_,σ)=>aC (mK σ l) fun r=>match x with
  | .normal=>some (.ret ⟨false,.bool true⟩,nG σ l r .ready)
  | .exit i=>some (.ret ⟨false,.bool false⟩,nG σ l r (.done (.exit i)))
  | .ret=>some (.ret ⟨false,.bool false⟩,nG σ l r (.done .ret))
  | .panic _=>none
  | .goto _=>none
 | none=>none
def Nk (C:aM) (n l:Nat) (body:ACode):Option (AExit × Env × Store)→Option (Out × Store)
 | some (.normal,e,σ)=>aC (mK σ l) fun r=>ifB r.st.isReady (Nl C n l (exec C n (some l) body e (nG σ l r .busy))) none
 | _=>none
def Uc (C:aM) (n l:Nat) (args:List D) (σ:Store):Option (Out × Store) :=
 aC (mK σ l) fun r=>ifB (args.length == r.params.length && r.st.isReady)
  (Nk C n l r.body (exec C n (some l) r.assign {slots:=oS r.params args r.slots,locs:=[],boxes:=[],defers:=[]} σ)) none
section
variable (Γ:FuncId→Option AFun) (R:mN) (X:aM)
def kM:Nat→Bool→aM
 | 0,_,_,_,_=>none
 | n + 1,quiet,f,args,σ=>match Γ f with
  | some af=>ifB (args.length == af.nargs)
    (match exec (kM n false) n none af.body (eT args) σ with
     | some r=>nB R (kM n true) quiet af σ.next r
     | none=>none) none
  | none=>ifB quiet none (ifB (isY f) (Uc (kM n false) n (f - dS) args σ) (X f args σ))
abbrev run (n:Nat):aM:=kM Γ R X n false
end
/-! ### Short words for operations -/
def mt (s t:Nat):AOper:=⟨some s,.mov (.tmp t),none⟩
def mw (s t:Nat):AOper:=⟨some s,.mov (.mv t),none⟩
def mo (s:Nat) (x:AOp):AOper:=⟨some s,x,none⟩
end Go.Mx
