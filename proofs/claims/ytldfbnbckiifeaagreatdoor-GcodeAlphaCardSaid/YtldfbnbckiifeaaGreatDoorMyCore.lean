/-
 A small deterministic machine over plain data,to which the walks of a translated program are brought back: its values,its code,and the function that runs it. Nothing here speaks of a world.
-/
import GoSem.Core.Code
import GoSem.Core.View
import GoSem.Op.String
import GoSem.Core.Utf8
set_option linter.unusedSimpArgs false
set_option linter.unusedVariables false
set_option linter.unusedSectionVars false
set_option linter.defProp false
namespace Go
def aA:=@Option.some.injEq
def aB:=@And.intro
def aC:=@Bool.and_eq_true
def aE:=@Bool.false_eq_true
def aF:=@List.length_append
def aG:=@List.length_cons
def aH:=@List.length_nil
def aI:=@List.mem_cons_of_mem
def aJ:=@List.length_map
def aK:=@List.not_mem_nil
def aL:=@List.cons.injEq
def aM:=@Nat.le_refl
def aN:=@Nat.zero_add
def aO:=@List.map_cons
def aP:=@Nat.lt_of_lt_of_le
def aQ:=@List.mem_cons_self
def aR:=@List.length_eq_zero_iff
def aS:=@List.mem_cons
def aT:=@Option.isSome_iff_exists
def aU:=@List.map_append
def aV:=@List.take_length
def aW:=@List.cons_append
def aX:=@List.getElem_mem
def aY:=@Bool.and_self
def aZ:=@List.map_nil
def bE:=@List.flatMap_cons
def bF:=@List.mem_map
def bG:=@List.nil_append
def bH:=@List.mem_of_mem_take
def bI:=@List.length_take
def bJ:=@List.mem_append
def bL:=@List.eq_nil_of_length_eq_zero
def bM:=@List.all_eq_true
def bN:=@Option.map_some
def bO:=@List.mem_singleton
def bP:=@List.append_nil
def bR:=@List.append_assoc
def bT:=@List.getElem_append_right
def bU:=@List.length_reverse
def bV:=@List.map_congr_left
def bW:=@beq_self_eq_true
def bX:=@Bool.true_and
def bY:=@Bool.or_false
def bZ:=@Bool.not_true
def cC:=@List.length_singleton
def cD:=@List.map_map
def cE:=@decide_eq_true_eq
end Go
namespace Go.Mx
open Go
structure RowK where
 el:Nat
 sz:Nat
 ag:Bool
 deriving Inhabited
def RowK.same (a b:RowK):Bool:=a.el == b.el && a.sz == b.sz
inductive D where
 | undef
 | bool (b:Bool)
 | int (k:IntKind) (n:Int)
 | str (s:List UInt8)
 | nils
 | list (k:RowK) (es:List D)
 | agg (cs:List D)
 | tup (ds:List D)
 | nilp
 | ptr (id off:Nat)
 | eptr (d:D)
 | fn (f:Fn) (first caps:List D)
 | nilfn
 | iface (t:TypeId) (d:D)
 | niliface
 | junk
  | arr (k:RowK) (id off len:Nat)
  | empt
 | map (id:Nat)
 | nilmap
  | yld (id:Nat)
 deriving Inhabited
structure Cell where
 own:Bool
 d:D
 deriving Inhabited
def eZ {α β:Type} (x:Option α) (n:β) (f:α→β):β:=match x with
 | none=>n
 | some a=>f a
def ifB {β:Type} (b:Bool) (x y:β):β:=match b with
 | true=>x
 | false=>y
theorem fR {α β:Type} (n:β) (f:α→β):eZ none n f=n:=rfl
theorem dK {α β:Type} (a:α) (n:β) (f:α→β):eZ (some a) n f=f a:=rfl
theorem dJ {β:Type} (x y:β):ifB true x y=x:=rfl
theorem dH {β:Type} (x y:β):ifB false x y=y:=rfl
@[congr] theorem zgxb {α β:Type} {x y:Option α} (n:β) (f:α→β) (h:x=y):eZ x n f=eZ y n f:=by rw [h]
@[congr] theorem zi6b {β:Type} {a b:Bool} (x y:β) (h:a=b):ifB a x y=ifB b x y:=by rw [h]
abbrev dG {α β:Type} (x:Option α) (f:α→Option β):Option β:=eZ x none f
def dE {α:Type}:List (Nat × α)→Nat→Option α
 | [],_=>none
 | (k,v) :: r,s=>ifB (k == s) (some v) (dE r s)
def nth {α:Type}:List α→Nat→Option α
 | [],_=>none
 | x :: _,0=>some x
 | _ :: l,n + 1=>nth l n
def dZ {α:Type}:List (Nat × α)→Nat→α→List (Nat × α)
 | [],s,x=>[(s,x)]
 | (k,v) :: r,s,x=>ifB (k == s) ((k,x) :: r) (ifB (Nat.ble s k) ((s,x) :: (k,v) :: r) ((k,v) :: dZ r s x))
def mem:List Nat→Nat→Bool
 | [],_=>false
 | x :: l,k=>ifB (x == k) true (mem l k)
def yT {α:Type}:List (Nat × α)→List Nat→List (Nat × α)
 | [],_=>[]
 | (k,v) :: r,l=>ifB (mem l k) (yT r l) ((k,v) :: yT r l)
def eE {α:Type}:List (Nat × α)→Nat→List (Nat × α)
 | [],_=>[]
 | (k,v) :: r,s=>ifB (k == s) (eE r s) ((k,v) :: eE r s)
def rY:List (Nat × (Nat × Nat))→Nat→List (Nat × (Nat × Nat))
 | [],_=>[]
 | (k,(b,o)) :: r,s=>ifB (b == s) (eE (rY r s) k) ((k,(b,o)) :: rY r s)
def mI (l:List (Nat × (Nat × Nat))) (s:Nat):Bool:=eZ (dE l s) (l.all fun p=>eZ (dE l p.1) true fun q=>!(q.1 == s)) fun _=>false
structure Env where
 slots:List (Nat × Cell)
 locs:List (Nat × (Nat × Nat))
 boxes:List (Nat × List Cell)
 defers:List (FuncId × List D)
 deriving Inhabited
def Env.bare (e:Env):Env:={slots:=[],locs:=[],boxes:=[],defers:=e.defers}
structure Ty where
 t:Nat
 sz:Nat
 deriving Inhabited
inductive AOpd where
 | tmp (s:Nat)
 | mv (s:Nat)
 | const (d:D)
 deriving Inhabited
inductive AOp where
 | mov (x:AOpd)
 | pick (c a b:AOpd)
 | alloc (z:List D)
 | box (x:AOpd)
 | galloc (t:Nat) (z:List D)
 | gbox (t:Nat) (x:AOpd)
 | rangeS (x:AOpd)
 | nextS (x:AOpd)
 | build (z:List D) (parts:List (Nat × Nat × AOpd))
 | buildSlice (k:RowK) (parts:List AOpd)
 | load (k:Option Nat) (mv:Bool) (x:AOpd)
 | loadL (k:Option Nat) (mv:Bool) (x:AOpd)
 | store (k:Nat) (x y:AOpd)
 | loadA (k:Nat) (x:AOpd)
 | storeA (k:Nat) (x y:AOpd)
 | nilCheck (x:AOpd)
 | bin (op:BinOp) (x y:AOpd)
 | binB (op:BinOp) (x y:AOpd)
 | un (op:UnOp) (x:AOpd)
 | toInt (k:IntKind) (x:AOpd)
 | toStr (x:AOpd)
 | runeStr (x:AOpd)
 | bytesToStr (x:AOpd)
 | strToBytes (k:RowK) (x:AOpd)
 | mkIface (t:TypeId) (x:AOpd)
 | mkFunc (fn:Fn) (first caps:List AOpd)
 | slice (sz:Nat) (x:AOpd) (lo hi:Option AOpd)
 | sliceS (x:AOpd) (lo hi:Option AOpd)
 | fieldAddr (off:Nat) (k:Option Nat) (x:AOpd)
 | field (off:Nat) (k:Option Nat) (x:AOpd)
 | indexAddr (sz:Nat) (x i:AOpd)
 | index (x i:AOpd)
 | extract (x:AOpd) (i:Nat)
 | len (x:AOpd)
 | lenS (x:AOpd)
 | append (k:RowK) (by_:Nat) (x y:AOpd)
 | appendS (k:RowK) (by_:Nat) (x y:AOpd)
 | isNil (op:BinOp) (x:AOpd)
 | isNilP (op:BinOp) (x:AOpd)
 | assertT (t:Nat) (z:D) (x:AOpd)
 | isNilS (op:BinOp) (x:AOpd)
 | isNilM (op:BinOp) (x:AOpd)
 | slice3 (sz:Nat) (x:AOpd) (lo:Option AOpd) (hi max:AOpd)
 | storeP (k:Nat) (x y:AOpd)
 | allocN (s:Nat) (z:List D)
 | boxN (s:Nat) (x:AOpd)
 | loadB (b:Nat) (k:Option Nat) (x:AOpd)
 | loadE (k:Option Nat) (x:AOpd)
 | loadP (k:Option Nat) (x:AOpd)
 | loadG (k:Option Nat) (x:AOpd)
 | storeB (b k:Nat) (x y:AOpd)
 | callW (ws:List Nat) (f:FuncId) (args:List AOpd)
 | callvW (ws:List Nat) (x:AOpd) (args:List AOpd)
 | mm (mx:Bool) (x y:AOpd)
 | indexAddrP (n sz:Nat) (x i:AOpd)
 | indexA (n sz:Nat) (x i:AOpd)
 | eqA (op:BinOp) (ks:List Nat) (x y:AOpd)
 | makeA (k:RowK) (by_:Nat) (z:List D) (len cap:AOpd)
 | buildA (k:RowK) (parts:List AOpd)
 | appendA (k:RowK) (by_:Nat) (x y:AOpd)
 | appendW (ws:List Nat) (k:RowK) (by_:Nat) (x y:AOpd)
 | copyA (sz:Nat) (x y:AOpd)
 | clearA (sz:Nat) (z:List D) (x:AOpd)
 | makeMap
 | cloneM (x:AOpd)
 | growZ (k:RowK) (by_:Nat) (z:List D) (x n:AOpd)
 | capZ (x:AOpd)
 | assertP (t:Nat) (x:AOpd)
 | lookup (ks:Bool) (z:D) (ok:Bool) (x i:AOpd)
 | update (ks:Bool) (x i y:AOpd)
 | lenM (x:AOpd)
 | delete (ks:Bool) (x i:AOpd)
 | entry (ks:Bool) (z:D) (x i:AOpd)
 | entryStore (x s y:AOpd)
 | call (f:FuncId) (args:List AOpd)
 | callv (x:AOpd) (args:List AOpd)
 | deferv (x:AOpd) (args:List AOpd)
 | panic (x:AOpd)
 deriving Inhabited
structure AOper where
 dst:Option Nat
 op:AOp
 guard:Option (Nat × Bool)
 deriving Inhabited
inductive FTgt where
 | slot (s:Nat)
 | box (b:Nat)
 | obj (s:Nat)
  | promote (s:Nat)
 deriving Inhabited
inductive ACode where
 | skip
 | region (ops:List AOper) (draw:Option (List Nat)) (clr:List Nat)
 | seq (a b:ACode)
 | cond (c:AOpd) (t e:ACode)
 | block (id:Nat) (body:ACode)
 | loop (body:ACode)
 | exit (id:Nat)
 | ret
 | scope (body:ACode)
 | stuck
 | frz (ts:List FTgt) (body:ACode)
 | rangeF (g:AOpd) (ps:List Nat) (assign body:ACode)
 | label (l:Nat)
 | goto (l:Nat)
 | scopeJ (l:Nat) (body rest:ACode)
 deriving Inhabited
inductive LJump where
 | exit (id:Nat)
 | ret
 deriving Inhabited
inductive LSt where
 | ready
 | busy
 | done (x:LJump)
 | over
 deriving Inhabited
structure LRec where
 slots:List (Nat × Cell)
 params:List Nat
 assign:ACode
 body:ACode
 st:LSt
 deriving Inhabited
inductive Oth where
 | it (s:List UInt8) (pos:Nat)
 | map (es:List (D × D × Nat)) (clock:Nat)
 | loop (r:LRec)
 | dfr
 deriving Inhabited
structure Store where
 objs:List (Nat × List Cell)
 tys:List (Nat × Ty)
 oth:List (Nat × Oth)
 next:Nat
 deriving Inhabited
inductive ARes where
 | tmp (s:Nat)
 | cell (s:Nat) (k:Option Nat)
 | cellA (s:Nat) (k:Nat)
 deriving Inhabited
structure AFun where
 nargs:Nat
 ntmps:Nat
 res:List ARes
 body:ACode
 gc:Bool
 deriving Inhabited
inductive AExit where
 | normal
 | exit (id:Nat)
 | ret
 | panic (d:D)
 | goto (l:Nat)
 deriving Inhabited
inductive Out where
 | ret (c:Cell)
 | panic (d:D)
 deriving Inhabited
def D.cells:D→List D
 | .agg cs=>cs
 | d=>[d]
def D.one:D→Bool
 | .agg _=>false
 | .undef=>false
 | .tup _=>false
 | .junk=>false
 | _=>true
def D.ok:D→Bool
 | .undef=>false
 | .tup _=>false
 | .junk=>false
 | _=>true
def D.bool?:D→Option Bool
 | .bool b=>some b
 | _=>none
def D.int?:D→Option (IntKind × Int)
 | .int k n=>some (k,n)
 | _=>none
def D.nat?:D→Option Nat
 | .int _ n=>ifB (decide (0≤n)) (some n.toNat) none
 | _=>none
def D.str?:D→Option (List UInt8)
 | .str s=>some s
 | _=>none
def D.tup?:D→Option (List D)
 | .tup ds=>some ds
 | _=>none
def iG:Nat:=1099511627776
def isY (f:Nat):Bool:=Nat.ble iG f
def D.fn?:D→Option (FuncId × List D × List D)
 | .fn (.func f) a b=>ifB (isY f) none (some (f,a,b))
 | .yld id=>some (iG + id,[],[])
 | _=>none
def D.fnF?:D→Option (FuncId × List D × List D)
 | .fn (.func f) a b=>ifB (isY f) none (some (f,a,b))
 | _=>none
def D.agg?:D→Option (List D)
 | .agg cs=>some cs
 | _=>none
def D.row?:D→Option (RowK × List D)
 | .list sz es=>some (sz,es)
 | _=>none
def jM:D→Option (List D)
 | .nils=>some []
 | .empt=>some []
 | .list _ es=>some es
 | _=>none
def xO (k:RowK) (ds:List D):D:=ifB k.ag (.agg ds) (ds.headD .undef)
def pB (k:RowK):Nat→List D→List D
 | 0,_=>[]
 | n + 1,ds=>xO k (ds.take k.sz) :: pB k n (ds.drop k.sz)
def xK (k:RowK) (cs:List Cell) (off len:Nat):List D:=pB k len ((cs.map fun c=>c.d).drop (off * k.sz))
def iR (os:List (Nat × List Cell)):D→Option (List D)
 | .arr k id off len=>dG (dE os id) fun cs=>ifB ((k.ag || k.sz == 1) && decide ((off + len) * k.sz≤cs.length)) (some (xK k cs off len)) none
 | d=>jM d
def lenOf:D→Option Nat
 | .nils=>some 0
 | .list _ es=>some es.length
 | .arr _ _ _ len=>some len
 | .empt=>some 0
 | _=>none
def eJ (sz:RowK):List D→D
 | []=>.nils
 | x :: es=>.list sz (x :: es)
def part (k:Option Nat) (cs:List D) (off:Nat):Option D :=
 match k with
 | none=>nth cs off
 | some n=>ifB (decide (off + n≤cs.length)) (some (.agg ((cs.drop off).take n))) none
def Cell.of (d:D):Cell:=⟨false,d⟩
def opd (e:Env):AOpd→Option Cell
 | .tmp s=>dG (dE e.slots s) fun c=>some ⟨false,c.d⟩
 | .mv s=>dE e.slots s
 | .const d=>some ⟨false,d⟩
def lZ (e:Env):List AOpd→Option (List D)
 | []=>some []
 | x :: l=>dG (opd e x) fun c=>dG (lZ e l) fun ds=>some (c.d :: ds)
def AOpd.drop (e:Env):AOpd→Env
 | .mv s=>eZ (dE e.slots s) e fun c=>{e with slots:=dZ e.slots s ⟨false,c.d⟩}
 | _=>e
inductive Ptr where
 | loc (b off:Nat)
 | ptr (id off:Nat)
 | eptr (d:D)
 deriving Inhabited
def sB:D→Option Ptr
 | .ptr id off=>some (.ptr id off)
 | .eptr d=>some (.eptr d)
 | _=>none
def iW (e:Env):AOpd→Option Ptr
 | .tmp s=>eZ (dE e.locs s) (dG (dE e.slots s) fun c=>sB c.d) fun p=>some (.loc p.1 p.2)
 | .mv s=>eZ (dE e.locs s) (dG (dE e.slots s) fun c=>sB c.d) fun p=>some (.loc p.1 p.2)
 | .const d=>sB d
inductive Val where
 | c (c:Cell)
 | l (b off:Nat)
 deriving Inhabited
def putCells:List Cell→Nat→List Cell→List Cell
 | cs,_,[]=>cs
 | [],_,_=>[]
 | _ :: cs,0,x :: new=>x :: putCells cs 0 new
 | c :: cs,n + 1,new=>c :: putCells cs n new
def uN:List D→Nat→List D→List D
 | cs,_,[]=>cs
 | [],_,_=>[]
 | _ :: cs,0,x :: new=>x :: uN cs 0 new
 | c :: cs,n + 1,new=>c :: uN cs n new
def It:List D→List (Nat × Nat × D)→Option (List D)
 | cs,[]=>some cs
 | cs,(off,n,d) :: r=>ifB (d.ok && d.cells.length == n && decide (off + n≤cs.length)) (It (uN cs off d.cells) r) none
def rN (e:Env):List (Nat × Nat × AOpd)→Option (List (Nat × Nat × D))
 | []=>some []
 | (off,n,x) :: r=>dG (opd e x) fun c=>dG (rN e r) fun l=>some ((off,n,c.d) :: l)
def eM (sz:Nat):List D→Bool
 | []=>true
 | d :: r=>d.ok && d.cells.length == sz && eM sz r
def lJ:List Cell→Nat→Nat→Option (List D)
 | _,0,0=>some []
 | [],_,_=>none
 | c :: cs,0,n + 1=>dG (lJ cs 0 n) fun l=>some (c.d :: l)
 | _ :: cs,o + 1,n=>lJ cs o n
def fN (cs:List Cell) (k:Option Nat) (off:Nat):Option Cell :=
 match k with
 | none=>nth cs off
 | some n=>dG (lJ cs off n) fun l=>some ⟨false,.agg l⟩
def jF:List Cell→Nat→List Cell
 | [],_=>[]
 | c :: cs,0=>⟨false,c.d⟩ :: cs
 | c :: cs,n + 1=>c :: jF cs n
def jN:List Cell→Bool
 | []=>false
 | c :: r=>match c.d with
  | .list _ _=>c.own
  | _=>jN r
def kC:List Cell→List Cell
 | []=>[]
 | c :: r=>match c.d with
  | .list _ _=>⟨false,c.d⟩ :: r
  | _=>c :: kC r
def nM (o:Bool):List D→List Cell
 | []=>[]
 | d :: r=>match d with
  | .list _ _=>⟨o,d⟩ :: r.map Cell.of
  | _=>⟨false,d⟩ :: nM o r
def nA (op:BinOp) (k:IntKind) (a b:Int):Option D :=
 match op with
 | .add=>some (.int k (k.wrap (a + b)))
 | .sub=>some (.int k (k.wrap (a - b)))
 | .mul=>some (.int k (k.wrap (a * b)))
 | .quo=>ifB (b == 0) none (some (.int k (k.wrap (a.tdiv b))))
 | .rem=>ifB (b == 0) none (some (.int k (a.tmod b)))
 | .eql=>some (.bool (a == b))
 | .neq=>some (.bool (a != b))
 | .lss=>some (.bool (decide (a < b)))
 | .leq=>some (.bool (decide (a≤b)))
 | .gtr=>some (.bool (decide (a > b)))
 | .geq=>some (.bool (decide (a ≥ b)))
 | _=>none
def eL:Nat:=1099511627776
def rD (op:BinOp) (a b:List UInt8):Option D :=
 match op with
 | .add=>ifB (decide (a.length + b.length≤281474976710656)) (some (.str (a ++ b))) none
 | .eql=>some (.bool (a == b))
 | .neq=>some (.bool (!(a == b)))
 | .lss=>some (.bool (Op.bytesLess a b))
 | .leq=>some (.bool (Op.bytesLess a b || a == b))
 | .gtr=>some (.bool (!(Op.bytesLess a b || a == b)))
 | .geq=>some (.bool (!Op.bytesLess a b))
 | _=>none
def Ah (op:BinOp) (a b:Bool):Option D :=
 match op with
 | .eql=>some (.bool (a == b))
 | .neq=>some (.bool (!(a == b)))
 | _=>none
def kN:IntKind→IntKind→Bool
 | .i8,.i8 | .i16,.i16 | .i32,.i32 | .i64,.i64 | .u8,.u8 | .u16,.u16 | .u32,.u32 | .u64,.u64=>true
 | _,_=>false
def zii (op:BinOp):D→D→Option D
 | .int k a,.int k' b=>ifB (kN k k') (nA op k a b) none
 | .str a,.str b=>rD op a b
 | _,_=>none
def zg1 (op:BinOp):D→D→Option D
 | .bool a,.bool b=>Ah op a b
 | _,_=>none
def D.isNil?:D→Option Bool
 | .niliface=>some true
 | .iface _ _=>some false
 | _=>none
def D.isNilP?:D→Option Bool
 | .nilp=>some true
 | .ptr _ _=>some false
 | .eptr _=>some false
 | _=>none
def wH (t:Nat) (z:D):D→Option D
 | .iface t' d=>some (.tup [ifB (t' == t) d z,.bool (t' == t)])
 | .niliface=>some (.tup [z,.bool false])
 | _=>none
def wN (op:BinOp) (b:Bool):Option D:=match op with
 | .eql=>some (.bool b)
 | .neq=>some (.bool (!b))
 | _=>none
def rE:List UInt8→List D
 | []=>[]
 | b :: r=>.int .u8 b.toNat :: rE r
def mmD (mx:Bool):D→D→Option D
 | .int k a,.int k' b=>ifB (kN k k') (some (.int k (ifB mx (ifB (decide (a < b)) b a) (ifB (decide (b < a)) b a)))) none
 | _,_=>none
def unD:UnOp→D→Option D
 | .not,.bool b=>some (.bool (!b))
 | .neg,.int k n=>some (.int k (k.wrap (0 - n)))
 | _,_=>none
def rI (sz:Nat) (x:D) (lo:Nat) (hi:Option Nat):Option D :=
 match x with
 | .nils=>ifB (decide (lo≤hi.getD 0) && decide (hi.getD 0≤0)) (some .nils) none
 | .list k es=>ifB (decide (lo≤hi.getD es.length) && decide (hi.getD es.length≤es.length) && k.sz == sz) (some (.list k ((es.drop lo).take (hi.getD es.length - lo)))) none
 | .empt=>ifB (decide (lo≤hi.getD 0) && decide (hi.getD 0≤0)) (some .empt) none
 | .arr k id off len=>ifB (decide (lo≤hi.getD len) && decide (hi.getD len≤len) && k.sz == sz) (some (.arr k id (off + lo) (hi.getD len - lo))) none
 | _=>none
def Ho (sz:Nat) (x:D) (lo hi max:Nat):Option D :=
 ifB (hi == max && decide (lo≤hi)) (match x with
  | .nils=>ifB (hi == 0) (some .nils) none
  | .empt=>ifB (hi == 0) (some .empt) none
  | .list k es=>ifB (decide (hi≤es.length) && k.sz == sz && !(k.el == 5)) (some (ifB (lo == hi) .empt (.list k ((es.drop lo).take (hi - lo))))) none
  | .arr _ _ _ len=>ifB (decide (hi≤len) && lo == hi) (some .empt) none
  | _=>none) none
def iD (sz:Nat) (x:D) (n:Nat):Option D:=match x with
 | .list k es=>ifB (k.sz == sz) (dG (nth es n) fun d=>some (.eptr d)) none
 | .arr k id off len=>ifB (k.sz == sz && decide (n < len)) (some (.ptr id ((off + n) * sz))) none
 | _=>none
def D.isNilS?:D→Option Bool
 | .nils=>some true
 | .list _ (_ :: _)=>some false
 | .arr _ _ _ _=>some false
 | _=>none
def D.isNilM?:D→Option Bool
 | .nilmap=>some true
 | .map _=>some false
 | _=>none
def zaq:D→D→Option Bool
 | .int k a,.int k' b=>ifB (kN k k') (some (a == b)) none
 | .str a,.str b=>some (a == b)
 | .bool a,.bool b=>some (a == b)
 | _,_=>none
def zg5:Nat→D→Bool
 | 0,.int .i64 _=>true
 | 1,.str _=>true
 | 2,.bool _=>true
 | _,_=>false
def qD:List Nat→List D→Bool
 | [],[]=>true
 | k :: r,d :: s=>zg5 k d && qD r s
 | _,_=>false
def zh0:D→D→Bool
 | .int _ a,.int _ b=>a == b
 | .str a,.str b=>a == b
 | .bool a,.bool b=>a == b
 | _,_=>false
def Ei:List D→List D→Bool
 | a :: r,b :: s=>zh0 a b && Ei r s
 | _,_=>true
/-! ### Maps -/
def jX (k:D):List (D × D × Nat)→Option (Option (D × Nat × Nat))
 | []=>some none
 | (k',v,b) :: r=>dG (zaq k k') fun is=>ifB is (some (some (v,b,0))) (dG (jX k r) fun x=>some (eZ x none fun p=>some (p.1,p.2.1,p.2.2 + 1)))
def zdd (b:Nat) (v:D):List (D × D × Nat)→List (D × D × Nat)
 | []=>[]
 | (k,v',b') :: r=>ifB (b' == b) ((k,v,b') :: r) ((k,v',b') :: zdd b v r)
def uI (ks:Bool):D→Bool
 | .int _ _=>!ks
 | .str _=>ks
 | _=>false
def tZ (ot:List (Nat × Oth)):D→Option (List (D × D × Nat))
 | .nilmap=>some []
 | .map id=>dG (dE ot id) fun x=>match x with
  | .map es _=>some es
  | _=>none
 | _=>none
def rZ (ot:List (Nat × Oth)):D→Option (Nat × List (D × D × Nat) × Nat)
 | .map id=>dG (dE ot id) fun x=>match x with
  | .map es c=>some (id,es,c)
  | _=>none
 | _=>none
def wI:List D→Option (List UInt8)
 | []=>some []
 | .int .u8 n :: r=>ifB (decide (0≤n) && decide (n < 256)) (dG (wI r) fun s=>some (UInt8.ofNat n.toNat :: s)) none
 | _ :: _=>none
def zky (s:List UInt8) (lo:Nat) (hi:Option Nat):Option D :=
 ifB (decide (lo≤hi.getD s.length) && decide (hi.getD s.length≤s.length)) (some (.str ((s.drop lo).take (hi.getD s.length - lo)))) none
def tH (e:Env):Option AOpd→Option Nat
 | some l=>dG (opd e l) fun c=>c.d.nat?
 | none=>some 0
def zZ (e:Env):Option AOpd→Option (Option Nat)
 | some h=>dG (opd e h) fun c=>dG c.d.nat? fun n=>some (some n)
 | none=>some none
def dO (op:AOp) (e:Env) (σ:Store):Option Val :=
 match op with
 | .mov x=>dG (opd e x) fun c=>some (.c c)
 | .pick c a b=>dG (opd e c) fun c=>dG c.d.bool? fun t=>dG (ifB t (opd e a) (opd e b)) fun c=>some (.c ⟨false,c.d⟩)
 | .build z parts=>dG (rN e parts) fun ps=>dG (It z ps) fun cs=>some (.c ⟨false,.agg cs⟩)
 | .load k mv x=>dG (iW e x) fun p=>match p with
  | .loc b off=>dG (dE e.boxes b) fun cs=>dG (fN cs k off) fun c=>some (.c ⟨mv && c.own,c.d⟩)
  | .ptr id off=>dG (dE σ.objs id) fun cs=>dG (fN cs k off) fun c=>some (.c ⟨mv && c.own,c.d⟩)
  | .eptr d=>match k with
   | none=>ifB d.one (some (.c ⟨false,d⟩)) none
   | some n=>dG d.agg? fun cs=>ifB (cs.length == n) (some (.c ⟨false,d⟩)) none
 | .loadL k mv x=>dG (iW e x) fun p=>match p with
  | .loc b off=>dG (dE e.boxes b) fun cs=>dG (fN cs k off) fun c=>some (.c ⟨mv && c.own,c.d⟩)
  | .ptr _ _=>none
  | .eptr d=>match k with
   | none=>ifB d.one (some (.c ⟨false,d⟩)) none
   | some n=>dG d.agg? fun cs=>ifB (cs.length == n) (some (.c ⟨false,d⟩)) none
 | .loadB b k x=>dG (iW e x) fun p=>match p with
  | .loc b' off=>ifB (b' == b) (dG (dE e.boxes b) fun cs=>dG (fN cs k off) fun c=>some (.c ⟨false,c.d⟩)) none
  | _=>none
 | .loadE k x=>dG (iW e x) fun p=>match p with
  | .eptr d=>match k with
   | none=>ifB d.one (some (.c ⟨false,d⟩)) none
   | some n=>dG d.agg? fun cs=>ifB (cs.length == n) (some (.c ⟨false,d⟩)) none
  | _=>none
 | .loadG k x=>dG (iW e x) fun p=>match p with
  | .loc _ _=>none
  | .ptr id off=>dG (dE σ.objs id) fun cs=>dG (fN cs k off) fun c=>some (.c ⟨false,c.d⟩)
  | .eptr d=>match k with
   | none=>ifB d.one (some (.c ⟨false,d⟩)) none
   | some n=>dG d.agg? fun cs=>ifB (cs.length == n) (some (.c ⟨false,d⟩)) none
 | .loadP k x=>dG (iW e x) fun p=>match p with
  | .ptr id off=>dG (dE σ.objs id) fun cs=>dG (fN cs k off) fun c=>some (.c ⟨false,c.d⟩)
  | _=>none
 | .nilCheck x=>dG (iW e x) fun p=>match p with
  | .loc b off=>some (.l b off)
  | .ptr id off=>some (.c ⟨false,.ptr id off⟩)
  | .eptr d=>some (.c ⟨false,.eptr d⟩)
 | .bin op x y=>dG (opd e x) fun a=>dG (opd e y) fun b=>dG (zii op a.d b.d) fun d=>some (.c ⟨false,d⟩)
 | .binB op x y=>dG (opd e x) fun a=>dG (opd e y) fun b=>dG (zg1 op a.d b.d) fun d=>some (.c ⟨false,d⟩)
 | .un op x=>dG (opd e x) fun a=>dG (unD op a.d) fun d=>some (.c ⟨false,d⟩)
 | .toInt k x=>dG (opd e x) fun a=>dG a.d.int? fun n=>some (.c ⟨false,.int k (k.wrap n.2)⟩)
 | .toStr x=>dG (opd e x) fun a=>dG a.d.str? fun s=>some (.c ⟨false,.str s⟩)
 | .runeStr x=>dG (opd e x) fun a=>dG a.d.int? fun n=>some (.c ⟨false,.str (Utf8.encode n.2).data.toList⟩)
 | .bytesToStr x=>dG (opd e x) fun c=>dG (jM c.d) fun es=>dG (wI es) fun s=>some (.c ⟨false,.str s⟩)
 | .mkIface t x=>dG (opd e x) fun c=>some (.c ⟨false,.iface t c.d⟩)
 | .mkFunc fn first caps=>dG (lZ e first) fun a=>dG (lZ e caps) fun b=>some (.c ⟨false,.fn fn a b⟩)
 | .slice sz x lo hi=>dG (opd e x) fun c=>dG (tH e lo) fun l=>dG (zZ e hi) fun h=>dG (rI sz c.d l h) fun d=>some (.c ⟨false,d⟩)
 | .sliceS x lo hi=>dG (opd e x) fun c=>dG c.d.str? fun s=>dG (tH e lo) fun l=>dG (zZ e hi) fun h=>dG (zky s l h) fun d=>some (.c ⟨false,d⟩)
 | .fieldAddr off k x=>dG (iW e x) fun p=>match p with
  | .loc b o=>some (.l b (o + off))
  | .ptr id o=>some (.c ⟨false,.ptr id (o + off)⟩)
  | .eptr d=>dG d.agg? fun cs=>dG (part k cs off) fun d=>some (.c ⟨false,.eptr d⟩)
 | .field off k x=>dG (opd e x) fun c=>dG c.d.agg? fun cs=>dG (part k cs off) fun d=>some (.c ⟨false,d⟩)
 | .indexAddr sz x i=>dG (opd e x) fun c=>dG (opd e i) fun i=>dG i.d.nat? fun n=>dG (iD sz c.d n) fun d=>some (.c ⟨false,d⟩)
 | .indexAddrP n sz x i=>dG (iW e x) fun p=>dG (opd e i) fun i=>dG i.d.nat? fun m=>ifB (decide (m < n)) (match p with
  | .loc b o=>some (.l b (o + m * sz))
  | .ptr id o=>some (.c ⟨false,.ptr id (o + m * sz)⟩)
  | .eptr _=>none) none
 | .indexA n sz x i=>dG (opd e x) fun c=>dG c.d.agg? fun cs=>dG (opd e i) fun i=>dG i.d.nat? fun m=>ifB (decide (m < n) && sz == 1) (dG (nth cs m) fun d=>some (.c ⟨false,d⟩)) none
 | .eqA op ks x y=>dG (opd e x) fun a=>dG (opd e y) fun b=>dG a.d.agg? fun as=>dG b.d.agg? fun bs=>ifB (qD ks as && qD ks bs) (dG (wN op (Ei as bs)) fun d=>some (.c ⟨false,d⟩)) none
 | .isNilS op x=>dG (opd e x) fun c=>dG c.d.isNilS? fun b=>dG (wN op b) fun d=>some (.c ⟨false,d⟩)
 | .isNilM op x=>dG (opd e x) fun c=>dG c.d.isNilM? fun b=>dG (wN op b) fun d=>some (.c ⟨false,d⟩)
 | .lookup ks z ok x i=>dG (opd e x) fun c=>dG (opd e i) fun k=>dG (tZ σ.oth c.d) fun es=>ifB (uI ks k.d) (dG (jX k.d es) fun r=>some (.c ⟨false,eZ r (ifB ok (.tup [z,.bool false]) z) fun v=>ifB ok (.tup [v.1,.bool true]) v.1⟩)) none
 | .lenM x=>dG (opd e x) fun c=>dG (tZ σ.oth c.d) fun es=>some (.c ⟨false,.int .i64 es.length⟩)
 | .index x i=>dG (opd e x) fun c=>dG c.d.str? fun s=>dG (opd e i) fun i=>dG i.d.nat? fun n =>
  dG (nth s n) fun b=>some (.c ⟨false,.int .u8 b.toNat⟩)
 | .extract x i=>dG (opd e x) fun c=>dG c.d.tup? fun ds=>dG (nth ds i) fun d=>some (.c ⟨false,d⟩)
 | .mm mx x y=>dG (opd e x) fun a=>dG (opd e y) fun b=>dG (mmD mx a.d b.d) fun d=>some (.c ⟨false,d⟩)
 | .len x=>dG (opd e x) fun c=>dG (lenOf c.d) fun n=>some (.c ⟨false,.int .i64 n⟩)
 | .lenS x=>dG (opd e x) fun c=>dG c.d.str? fun s=>some (.c ⟨false,.int .i64 s.length⟩)
 | .isNil op x=>dG (opd e x) fun c=>dG c.d.isNil? fun b=>dG (wN op b) fun d=>some (.c ⟨false,d⟩)
 | .assertT t z x=>dG (opd e x) fun c=>dG (wH t z c.d) fun d=>some (.c ⟨false,d⟩)
 | .isNilP op x=>dG (opd e x) fun c=>dG c.d.isNilP? fun b=>dG (wN op b) fun d=>some (.c ⟨false,d⟩)
 | _=>none
def lE (op:AOp) (e:Env):Env :=
 match op with
 | .mov x=>x.drop e
 | .load _ true x=>eZ (iW e x) e fun p=>match p with
  | .loc b off=>eZ (dE e.boxes b) e fun cs=>{e with boxes:=dZ e.boxes b (jF cs off)}
  | _=>e
 | .loadL _ true x=>eZ (iW e x) e fun p=>match p with
  | .loc b off=>eZ (dE e.boxes b) e fun cs=>{e with boxes:=dZ e.boxes b (jF cs off)}
  | _=>e
 | _=>e
def kX (op:AOp) (e:Env) (σ:Store):Store :=
 match op with
 | .load _ true x=>eZ (iW e x) σ fun p=>match p with
  | .ptr id off=>eZ (dE σ.objs id) σ fun cs=>{σ with objs:=dZ σ.objs id (jF cs off)}
  | _=>σ
 | _=>σ
def Env.put (e:Env) (dst:Option Nat) (c:Cell):Env :=
 match dst with
 | some s=>{e with slots:=dZ e.slots s c,locs:=eE e.locs s}
 | none=>e
def Env.putV (e:Env) (dst:Option Nat):Val→Env
 | .c c=>e.put dst c
 | .l b off=>match dst with
  | some s=>{e with slots:=eE e.slots s,locs:=dZ e.locs s (b,off)}
  | none=>e
def Env.box (e:Env) (s:Nat) (cs:List Cell):Env :=
 {e with slots:=eE e.slots s,locs:=dZ (rY e.locs s) s (s,0),boxes:=dZ e.boxes s cs}
def pM (sz:RowK) (x:Cell):Bool :=
 match x.d with
 | .nils=>true
 | .empt=>true
 | .list sz' _=>x.own && sz'.same sz
 | _=>false
def pG (sz:RowK):D→List D→D
 | .nils,ys=>eJ sz ys
 | .empt,[]=>.empt
 | .empt,y :: ys=>.list sz (y :: ys)
 | .list _ xs,ys=>.list sz (xs ++ ys)
 | d,_=>d
def gC (sz:RowK) (by_:Nat) (x:Cell) (ys:List D):Option Cell :=
 dG (jM x.d) fun xs =>
  ifB (pM sz x && eM sz.sz ys && decide ((xs.length + ys.length) * by_≤eL) && decide (xs.length + ys.length≤eL)) (some ⟨true,pG sz x.d ys⟩) none
def gG (c:Cell):List Cell:=ifB c.d.one [c] (c.d.cells.map Cell.of)
def qX (c:Cell) (k off:Nat) (cs:List Cell):Bool:=c.d.ok && c.d.cells.length == k && decide (off + k≤cs.length)
def dR (σ:Store) (k:RowK) (cs:List Cell):Store:={objs:=(σ.next,cs) :: σ.objs,tys:=(σ.next,⟨k.el,k.sz⟩) :: σ.tys,oth:=σ.oth,next:=σ.next + 2}
def cellsOf:List D→List Cell
 | []=>[]
 | d :: r=>d.cells.map Cell.of ++ cellsOf r
def uC (z:List D):Nat→List Cell
 | 0=>[]
 | n + 1=>z.map Cell.of ++ uC z n
def eV (σ:Store) (k:RowK) (by_:Nat) (x:D) (ys:List D):Option (D × Store) :=
 ifB (eM k.sz ys) (match x with
  | .nils=>ifB ys.isEmpty (some (.nils,σ)) (ifB (decide (ys.length * by_≤eL) && decide (ys.length≤eL)) (some (.arr k σ.next 0 ys.length,dR σ k (cellsOf ys))) none)
  | .empt=>ifB ys.isEmpty (some (.empt,σ)) (ifB (decide (ys.length * by_≤eL) && decide (ys.length≤eL)) (some (.arr k σ.next 0 ys.length,dR σ k (cellsOf ys))) none)
  | .arr k' id off n=>dG (dE σ.objs id) fun cs=>dG (dE σ.tys id) fun ty =>
   ifB (k'.same k && ty.t == k.el && ty.sz == k.sz && off == 0 && decide (n * k.sz≤cs.length) && decide ((n + ys.length) * by_≤eL) && decide (n + ys.length≤eL))
    (some (.arr k σ.next 0 (n + ys.length),dR {σ with objs:=eE σ.objs id} k ((cs.take (n * k.sz)).map (fun c=>Cell.of c.d) ++ cellsOf ys))) none
  | _=>none) none
def ziw (σ:Store) (sz:Nat) (x:D) (ys:List D):Option (Nat × Store):=match x with
 | .nils=>some (0,σ)
 | .empt=>some (0,σ)
 | .arr k id off len=>dG (dE σ.objs id) fun cs=>ifB (k.sz == sz && eM sz ys && decide ((off + len) * sz≤cs.length))
   (some (min len ys.length,{σ with objs:=dZ σ.objs id (putCells cs (off * sz) (cellsOf (ys.take len)))})) none
 | _=>none
def zca (σ:Store) (sz:Nat) (z:List D) (x:D):Option Store:=match x with
 | .nils=>some σ
 | .empt=>some σ
 | .arr k id off len=>dG (dE σ.objs id) fun cs=>ifB (k.sz == sz && z.length == sz && decide ((off + len) * sz≤cs.length))
   (some {σ with objs:=dZ σ.objs id (putCells cs (off * sz) (uC z len))}) none
 | _=>none
def zcn (b:Nat):List (D × D × Nat)→Bool
 | []=>false
 | (_,_,b') :: r=>ifB (b' == b) true (zcn b r)
/-! ### Freezing: arrays become lists -/
abbrev kV:=List (Nat × List Cell)
def rM (f:D→kV→Option (D × kV)):List D→kV→Option (List D × kV)
 | [],os=>some ([],os)
 | d :: r,os=>dG (f d os) fun x=>dG (rM f r x.2) fun y=>some (x.1 :: y.1,y.2)
def eX:Nat→D→kV→Option (D × kV)
 | 0,_,_=>none
 | n + 1,d,os=>match d with
  | .arr k id off len=>dG (dE os id) fun cs=>ifB ((k.ag || k.sz == 1) && decide ((off + len) * k.sz≤cs.length)) (dG (rM (eX n) (xK k cs off len) (eE os id)) fun r=>some (.list k r.1,r.2)) none
  | .agg ds=>dG (rM (eX n) ds os) fun r=>some (.agg r.1,r.2)
  | .tup ds=>dG (rM (eX n) ds os) fun r=>some (.tup r.1,r.2)
  | .iface t d=>dG (eX n d os) fun r=>some (.iface t r.1,r.2)
  | d=>some (d,os)
def Cell.keeps (c:Cell):Bool:=match c.d with
 | .list _ _=>c.own
 | _=>false
def oS:List Cell→kV→Option (List Cell × kV)
 | [],os=>some ([],os)
 | c :: r,os=>dG (eX 40 c.d os) fun x=>dG (oS r x.2) fun y=>some (⟨c.keeps,x.1⟩ :: y.1,y.2)
def oH (t:FTgt) (e:Env) (σ:Store):Option (Env × Store):=match t with
 | .slot s=>dG (dE e.slots s) fun c=>dG (eX 40 c.d σ.objs) fun r=>some ({e with slots:=dZ e.slots s ⟨c.keeps,r.1⟩},{σ with objs:=r.2})
 | .box b=>dG (dE e.boxes b) fun cs=>dG (oS cs σ.objs) fun r=>some ({e with boxes:=dZ e.boxes b r.1},{σ with objs:=r.2})
 | .obj s=>dG (dE e.slots s) fun p=>match p.d with
  | .ptr id 0=>dG (dE σ.objs id) fun cs=>dG (oS cs (eE σ.objs id)) fun r=>some (e,{σ with objs:=dZ r.2 id r.1})
  | _=>none
 | .promote s=>dG (dE e.boxes s) fun cs=>dG (dE e.locs s) fun p=>ifB (p.1 == s && p.2 == 0)
  (some ({e with slots:=dZ e.slots s ⟨false,.ptr σ.next 0⟩,locs:=rY (eE e.locs s) s,boxes:=eE e.boxes s},{σ with objs:=(σ.next,cs.map fun c=>Cell.of c.d) :: σ.objs,tys:=eE σ.tys σ.next,next:=σ.next + 1})) none
def nG:List FTgt→Env→Store→Option (Env × Store)
 | [],e,σ=>some (e,σ)
 | t :: r,e,σ=>dG (oH t e σ) fun x=>nG r x.1 x.2
def jK (op:AOp) (e:Env) (σ:Store):Option (D × Store) :=
 match op with
 | .galloc t z=>some (.ptr σ.next 0,{objs:=(σ.next,z.map Cell.of) :: σ.objs,tys:=(σ.next,⟨t,0⟩) :: σ.tys,oth:=σ.oth,next:=σ.next + 1})
 | .gbox t x=>dG (opd e x) fun c=>ifB c.d.ok (some (.ptr σ.next 0,{objs:=(σ.next,c.d.cells.map Cell.of) :: σ.objs,tys:=(σ.next,⟨t,0⟩) :: σ.tys,oth:=σ.oth,next:=σ.next + 1})) none
 | .storeP k x y=>dG (iW e x) fun p=>dG (opd e y) fun c=>match p with
  | .ptr id off=>dG (dE σ.objs id) fun cs=>ifB (qX ⟨false,c.d⟩ k off cs) (some (.undef,{σ with objs:=dZ σ.objs id (putCells cs off (gG ⟨false,c.d⟩))})) none
  | _=>none
 | .makeA k by_ z len cap=>dG (opd e len) fun l=>dG l.d.nat? fun l=>dG (opd e cap) fun c=>dG c.d.nat? fun c =>
  ifB (l == c && decide (l * by_≤eL) && decide (l≤eL)) (some (.arr k σ.next 0 l,dR σ k (uC z l))) none
 | .buildA k parts=>dG (lZ e parts) fun ds=>ifB (eM k.sz ds && decide (ds.length * k.sz≤16777216)) (some (.arr k σ.next 0 ds.length,dR σ k (cellsOf ds))) none
 | .appendA k by_ x y=>dG (opd e x) fun c=>dG (opd e y) fun d=>dG (iR σ.objs d.d) fun ys=>eV σ k by_ c.d ys
 | .appendW _ k by_ x y=>dG (opd e x) fun c=>dG (opd e y) fun d=>dG (iR σ.objs d.d) fun ys=>eV σ k by_ c.d ys
 | .copyA sz x y=>dG (opd e x) fun c=>dG (opd e y) fun d=>dG (iR σ.objs d.d) fun ys=>dG (ziw σ sz c.d ys) fun r=>some (.int .i64 r.1,r.2)
 | .clearA sz z x=>dG (opd e x) fun c=>dG (zca σ sz z c.d) fun σ'=>some (.tup [],σ')
 | .makeMap=>some (.map σ.next,{σ with oth:=(σ.next,.map [] 0) :: σ.oth,next:=σ.next + 1})
 | .update ks x i y=>dG (opd e x) fun c=>dG (opd e i) fun k=>dG (opd e y) fun v=>dG (rZ σ.oth c.d) fun m=>ifB (uI ks k.d && v.d.ok) (dG (jX k.d m.2.1) fun r =>
   some (.undef,{σ with oth:=dZ σ.oth m.1 (eZ r (.map (m.2.1 ++ [(k.d,v.d,m.2.2)]) (m.2.2 + 1)) fun p=>.map (m.2.1.set p.2.2 (k.d,v.d,p.2.1)) m.2.2)})) none
 | .delete ks x i=>dG (opd e x) fun c=>dG (opd e i) fun k=>dG (rZ σ.oth c.d) fun m=>ifB (uI ks k.d) (dG (jX k.d m.2.1) fun r =>
   some (.tup [],{σ with oth:=dZ σ.oth m.1 (.map (eZ r m.2.1 fun p=>m.2.1.eraseIdx p.2.2) m.2.2)})) none
 | .entry ks z x i=>dG (opd e x) fun c=>dG (opd e i) fun k=>dG (rZ σ.oth c.d) fun m=>ifB (uI ks k.d) (dG (jX k.d m.2.1) fun r =>
   some (eZ r (.tup [z,.int .i64 m.2.2]) (fun p=>.tup [p.1,.int .i64 p.2.1]),{σ with oth:=dZ σ.oth m.1 (eZ r (.map (m.2.1 ++ [(k.d,z,m.2.2)]) (m.2.2 + 1)) fun _=>.map m.2.1 m.2.2)})) none
 | .entryStore x s y=>dG (opd e x) fun c=>dG (opd e s) fun b=>dG b.d.nat? fun b=>dG (opd e y) fun v=>dG (rZ σ.oth c.d) fun m=>ifB (v.d.ok && zcn b m.2.1)
   (some (.undef,{σ with oth:=dZ σ.oth m.1 (.map (zdd b v.d m.2.1) m.2.2)})) none
 | _=>none
def eI (dst:Option Nat) (op:AOp) (e:Env) (σ:Store):Option (Env × Store):=dG (jK op e σ) fun r=>some (e.put dst ⟨false,r.1⟩,r.2)
def dX (dst:Option Nat) (op:AOp) (e:Env) (σ:Store):Option (Env × Store) :=
 match op with
 | .alloc z=>dG dst fun s=>some (e.box s (z.map Cell.of),σ)
 | .box x=>dG dst fun s=>dG (opd e x) fun c=>ifB c.d.ok (some (e.box s (c.d.cells.map Cell.of),σ)) none
 | .galloc t z=>eI dst (.galloc t z) e σ
 | .gbox t x=>eI dst (.gbox t x) e σ
 | .rangeS x=>dG (opd e x) fun c=>dG c.d.str? fun s=>some (e.put dst ⟨false,.ptr σ.next 0⟩,{σ with oth:=(σ.next,.it s 0) :: σ.oth,next:=σ.next + 1})
 | .nextS x=>dG (iW e x) fun p=>match p with
  | .ptr id 0=>dG (dE σ.oth id) fun it=>match it with
   | .it s pos=>ifB (decide (pos < s.length))
    (some (e.put dst ⟨false,.tup [.bool true,.int .i64 pos,.int .i32 (Utf8.decode ⟨⟨s⟩⟩ pos).1]⟩,{σ with oth:=dZ σ.oth id (.it s (pos + (Utf8.decode ⟨⟨s⟩⟩ pos).2))}))
    (some (e.put dst ⟨false,.tup [.bool false]⟩,σ))
   | _=>none
  | _=>none
 | .buildSlice sz parts=>dG (lZ e parts) fun ds =>
  ifB (eM sz.sz ds && decide (ds.length * sz.sz≤16777216)) (some (e.put dst ⟨true,.list sz ds⟩,σ)) none
 | .strToBytes k x=>dG (opd e x) fun c=>dG c.d.str? fun s=>ifB (decide (s.length≤eL)) (some (e.put dst ⟨false,.list k (rE s)⟩,σ)) none
 | .store k x y=>dG (iW e x) fun p=>dG (opd e y) fun c=>match p with
  | .loc b off=>dG (dE e.boxes b) fun cs=>ifB (qX c k off cs)
    (some (Env.put {y.drop e with boxes:=dZ e.boxes b (putCells cs off (gG c))} dst ⟨false,.undef⟩,σ)) none
  | .ptr id off=>dG (dE σ.objs id) fun cs=>ifB (qX c k off cs)
    (some ((y.drop e).put dst ⟨false,.undef⟩,{σ with objs:=dZ σ.objs id (putCells cs off (gG c))})) none
  | .eptr _=>none
 | .loadA k x=>dG (iW e x) fun p=>match p with
  | .loc b 0=>dG (dE e.boxes b) fun cs=>ifB (cs.length == k) (some (Env.put {e with boxes:=dZ e.boxes b (kC cs)} dst ⟨jN cs,.agg (cs.map fun c=>c.d)⟩,σ)) none
  | _=>none
 | .storeA k x y=>dG (iW e x) fun p=>dG (opd e y) fun c=>match p with
  | .loc b 0=>dG (dE e.boxes b) fun cs=>dG c.d.agg? fun ds=>ifB (cs.length == k && ds.length == k) (some (Env.put {y.drop e with boxes:=dZ e.boxes b (nM c.own ds)} dst ⟨false,.undef⟩,σ)) none
  | _=>none
 | .append sz by_ x y=>dG (opd e x) fun c=>dG (opd e y) fun d=>dG (jM d.d) fun ys=>dG (gC sz by_ c ys) fun r=>some ((x.drop e).put dst r,σ)
 | .appendS k by_ x y=>dG (opd e x) fun c=>dG (opd e y) fun d=>dG d.d.str? fun s=>dG (gC k by_ c (rE s)) fun r=>some ((x.drop e).put dst r,σ)
 | .slice3 sz x lo hi max=>dG (opd e x) fun c=>dG (tH e lo) fun l=>dG (opd e hi) fun h=>dG h.d.nat? fun h=>dG (opd e max) fun m=>dG m.d.nat? fun m=>dG (Ho sz c.d l h m) fun d=>some (e.put dst ⟨true,d⟩,σ)
 | .storeP k x y=>eI dst (.storeP k x y) e σ
 | .allocN s z=>ifB (mI e.locs s) (some (Env.putV {e with boxes:=dZ e.boxes s (z.map Cell.of)} dst (.l s 0),σ)) none
 | .boxN s x=>dG (opd e x) fun c=>ifB (mI e.locs s && c.d.ok) (some (Env.putV {e with boxes:=dZ e.boxes s (c.d.cells.map Cell.of)} dst (.l s 0),σ)) none
 | .storeB b k x y=>dG (iW e x) fun p=>dG (opd e y) fun c=>match p with
  | .loc b' off=>ifB (b' == b) (dG (dE e.boxes b) fun cs=>ifB (qX c k off cs)
    (some (Env.put {y.drop e with boxes:=dZ e.boxes b (putCells cs off (gG c))} dst ⟨false,.undef⟩,σ)) none) none
  | _=>none
 | .makeA k by_ z len cap=>eI dst (.makeA k by_ z len cap) e σ
 | .buildA k parts=>eI dst (.buildA k parts) e σ
 | .appendA k by_ x y=>eI dst (.appendA k by_ x y) e σ
 | .appendW ws k by_ x y=>eI dst (.appendW ws k by_ x y) e σ
 | .copyA sz x y=>eI dst (.copyA sz x y) e σ
 | .clearA sz z x=>eI dst (.clearA sz z x) e σ
 | .makeMap=>eI dst .makeMap e σ
 | .growZ k by_ z x n=>dG (opd e x) fun c=>match c.d with
  | .nils=>dG (opd e n) fun m=>match m.d with
   | .int .i64 (.ofNat m)=>ifB (decide (0 < m) && decide (m * by_≤eL) && decide (m≤eL)) (some (e.put dst ⟨false,.arr k σ.next 0 m⟩,dR σ k (uC z m))) none
   | _=>none
  | _=>none
 | .capZ x=>dG (opd e x) fun c=>match c.d with
  | .nils=>some (e.put dst ⟨false,.int .i64 0⟩,σ)
  | _=>none
 | .cloneM x=>dG (opd e x) fun c=>match c.d with
  | .iface t (.map id)=>dG (dE σ.oth id) fun x=>match x with
   | .map es cl=>some (e.put dst ⟨false,.iface t (.map σ.next)⟩,{σ with oth:=(σ.next,.map es cl) :: σ.oth,next:=σ.next + 1})
   | _=>none
  | _=>none
 | .assertP t x=>dG (opd e x) fun c=>match c.d with
  | .iface t' d=>ifB (t' == t) (some (e.put dst ⟨false,d⟩,σ)) none
  | _=>none
 | .update ks x i y=>eI dst (.update ks x i y) e σ
 | .delete ks x i=>eI dst (.delete ks x i) e σ
 | .entry ks z x i=>eI dst (.entry ks z x i) e σ
 | .entryStore x s y=>eI dst (.entryStore x s y) e σ
 | .deferv x args=>dG (opd e x) fun c=>dG c.d.fnF? fun f=>dG (lZ e args) fun as =>
  some (Env.put {e with defers:=(f.1,f.2.1 ++ as ++ f.2.2) :: e.defers} dst ⟨false,.undef⟩,σ)
 | op=>dG (dO op e σ) fun v=>some ((lE op e).putV dst v,kX op e σ)
abbrev dQ:=FuncId→List D→Store→Option (Out × Store)
def Rz:D→Bool
 | .undef=>true
 | _=>false
def qL (g:Option (Nat × Bool)) (e:Env):Option Bool :=
 match g with
 | none=>some true
 | some (s,want)=>dG (dE e.slots s) fun c=>eZ c.d.bool? (ifB (Rz c.d) (some false) none) fun b=>some (b == want)
inductive OpsOut where
 | normal (e:Env) (σ:Store)
 | panic (d:D) (e:Env) (σ:Store)
 deriving Inhabited
inductive Kind where
 | op
 | call
 | panic
def qA (op:AOp) (e:Env):Option (FuncId × List D) :=
 match op with
 | .call f args=>dG (lZ e args) fun as=>some (f,as)
 | .callv x args=>dG (opd e x) fun c=>dG c.d.fn? fun f=>dG (lZ e args) fun as=>some (f.1,f.2.1 ++ as ++ f.2.2)
 | .callW _ f args=>dG (lZ e args) fun as=>some (f,as)
 | .callvW _ x args=>dG (opd e x) fun c=>dG c.d.fn? fun f=>dG (lZ e args) fun as=>some (f.1,f.2.1 ++ as ++ f.2.2)
 | _=>none
def kP:AOp→Option (List Nat)
 | .callW ws _ _=>some ws
 | .callvW ws _ _=>some ws
 | .appendW ws _ _ _ _=>some ws
 | _=>none
mutual
def D.same:D→D→Bool
 | .undef,.undef=>true
 | .bool a,.bool b=>a == b
 | .int k a,.int k' b=>kN k k' && a == b
 | .str a,.str b=>a == b
 | .nils,.nils=>true
 | .list k a,.list k' b=>k.el == k'.el && k.sz == k'.sz && k.ag == k'.ag && uD a b
 | .agg a,.agg b=>uD a b
 | .tup a,.tup b=>uD a b
 | .nilp,.nilp=>true
 | .ptr a b,.ptr c d=>a == c && b == d
 | .eptr a,.eptr b=>D.same a b
 | .fn f a b,.fn g c d=>decide (f=g) && uD a c && uD b d
 | .nilfn,.nilfn=>true
 | .iface t a,.iface u b=>t == u && D.same a b
 | .niliface,.niliface=>true
 | .junk,.junk=>true
 | .arr k a b c,.arr k' a' b' c'=>k.el == k'.el && k.sz == k'.sz && k.ag == k'.ag && a == a' && b == b' && c == c'
 | .empt,.empt=>true
 | .map a,.map b=>a == b
 | .nilmap,.nilmap=>true
 | .yld a,.yld b=>a == b
 | _,_=>false
def uD:List D→List D→Bool
 | [],[]=>true
 | a :: r,b :: s=>D.same a b && uD r s
 | _,_=>false
end
def yI:List Cell→List Cell→Bool
 | [],[]=>true
 | a :: r,b :: s=>a.own == b.own && D.same a.d b.d && yI r s
 | _,_=>false
def yJ:List (D × D × Nat)→List (D × D × Nat)→Bool
 | [],[]=>true
 | (a,b,c) :: r,(a',b',c') :: s=>D.same a a' && D.same b b' && c == c' && yJ r s
 | _,_=>false
def zas:Option (List Cell)→Option (List Cell)→Bool
 | some a,some b=>yI a b
 | _,_=>false
def xQ:Option Oth→Option Oth→Bool
 | some (.map a c),some (.map b d)=>yJ a b && c == d
 | some (.it a c),some (.it b d)=>a == b && c == d
 | some (.loop _),_=>true
 | some .dfr,_=>true
 | _,_=>false
def lI (e:Env) (σ σ':Store) (s:Nat):Bool:=eZ (dE e.slots s) true fun c=>match c.d with
 | .ptr id _=>eZ (dE σ.objs id) true fun cs=>zas (some cs) (dE σ'.objs id)
 | .map id=>eZ (dE σ.oth id) true fun x=>xQ (some x) (dE σ'.oth id)
 | _=>true
def vZ (b:Option (List Nat)) (e:Env) (σ σ':Store):Bool:=eZ b true fun ws=>ws.all (lI e σ σ')
def AOp.kind:AOp→Kind
 | .call _ _=>.call
 | .callv _ _=>.call
 | .callW _ _ _=>.call
 | .callvW _ _ _=>.call
 | .panic _=>.panic
 | _=>.op
def xA (op:AOp) (e:Env):Option D :=
 match op with
 | .panic x=>dG (opd e x) fun c=>match c.d with
  | .iface t d=>some (.iface t d)
  | _=>none
 | _=>none
inductive Step where
 | next (e:Env) (σ:Store)
 | call (f:FuncId) (as:List D)
 | panic (d:D)
def jP (o:AOper) (e:Env) (σ:Store):Option Step :=
 dG (qL o.guard e) fun w=>ifB w
  (match o.op.kind with
   | .op=>dG (dX o.dst o.op e σ) fun r=>some (.next r.1 r.2)
   | .call=>dG (qA o.op e) fun r=>some (.call r.1 r.2)
   | .panic=>dG (xA o.op e) fun d=>some (.panic d))
  (some (.next (e.put o.dst ⟨false,.undef⟩) σ))
def gJ (C:dQ):List AOper→Env→Store→Option OpsOut
 | [],e,σ=>some (.normal e σ)
 | o :: rest,e,σ=>dG (jP o e σ) fun s=>match s with
  | .next e' σ'=>ifB (vZ (kP o.op) e σ σ') (gJ C rest e' σ') none
  | .call f as=>dG (C f as σ) fun r=>ifB (vZ (kP o.op) e σ r.2) (match r.1 with
   | .ret c=>gJ C rest (e.put o.dst c) r.2
   | .panic d=>some (.panic d e r.2)) none
  | .panic d=>some (.panic d e σ)
def Bd (e:Env) (clr:List Nat):Env:={e with slots:=yT e.slots clr,locs:=yT e.locs clr,boxes:=yT e.boxes clr}
def gU (body:Env→Store→Option (AExit × Env × Store)):Nat→Env→Store→Option (AExit × Env × Store)
 | 0,_,_=>none
 | n + 1,e,σ=>match body e σ with
  | some (.normal,e',σ')=>gU body n e' σ'
  | r=>r
def Da:List (Nat × Cell)→List (Nat × Cell)
 | []=>[]
 | (s,c) :: r=>(s,⟨false,c.d⟩) :: Da r
def rO:List Nat→List D→List (Nat × Cell)→List (Nat × Cell)
 | p :: ps,d :: ds,l=>rO ps ds (dZ l p ⟨false,d⟩)
 | _,_,l=>l
def pL (σ:Store) (l:Nat):Option LRec:=dG (dE σ.oth l) fun x=>match x with
 | .loop r=>some r
 | _=>none
def enterLoop (ro:Option Nat) (r:LRec) (e:Env) (σ:Store):Option (Nat × Env × Store) :=
 match ro with
 | none=>some (σ.next + 1,{e with defers:=(iG + σ.next,[]) :: e.defers},{σ with oth:=(σ.next + 1,.loop r) :: (σ.next,.dfr) :: σ.oth,next:=σ.next + 2})
 | some l=>dG (pL σ l) fun _=>some (σ.next,e,{σ with oth:=(σ.next,.loop r) :: σ.oth,next:=σ.next + 1})
def endLoop (l:Nat) (e:Env) (σ:Store):Option (AExit × Env × Store) :=
 dG (pL σ l) fun r=>match r.st with
  | .ready=>some (.normal,e,{σ with oth:=eE σ.oth l})
  | .done (.exit i)=>some (.exit i,e,{σ with oth:=eE σ.oth l})
  | .done .ret=>some (.ret,e,{σ with oth:=eE σ.oth l})
  | .busy=>none
  | .over=>none
def zP (l:Nat) (f:Env→Store→Option (AExit × Env × Store)):Nat→Option (AExit × Env × Store)→Option (AExit × Env × Store)
 | 0,r=>match r with
  | some (.goto _,_,_)=>none
  | r=>r
 | m + 1,r=>match r with
  | some (.goto l',e,σ)=>ifB (l' == l) (zP l f m (f e σ)) none
  | r=>r
def exec (C:dQ) (n:Nat) (ro:Option Nat):ACode→Env→Store→Option (AExit × Env × Store)
 | .skip,e,σ=>some (.normal,e,σ)
 | .region ops perm clr,e,σ=>match gJ C ops e σ with
  | some (.normal e' σ')=>some (.normal,Bd e' clr,σ')
  | some (.panic d e' σ')=>some (.panic d,eZ perm e' (fun _=>e'.bare),σ')
  | none=>none
 | .seq a b,e,σ=>match exec C n ro a e σ with
  | some (.normal,e',σ')=>exec C n ro b e' σ'
  | r=>r
 | .cond c t f,e,σ=>dG (opd e c) fun c=>dG c.d.bool? fun b=>ifB b (exec C n ro t e σ) (exec C n ro f e σ)
 | .block id body,e,σ=>match exec C n ro body e σ with
  | some (.exit id',e',σ')=>ifB (id' == id) (some (.normal,e',σ')) (some (.exit id',e',σ'))
  | r=>r
 | .loop body,e,σ=>gU (exec C n ro body) n e σ
 | .exit id,e,σ=>some (.exit id,e,σ)
 | .ret,e,σ=>some (.ret,e,σ)
 | .scope body,e,σ=>match exec C n ro body e σ with
  | some (.goto _,_,_)=>none
  | r=>r
 | .scopeJ l body rest,e,σ=>zP l (exec C n ro rest) n (exec C n ro body e σ)
 | .label _,e,σ=>some (.normal,e,σ)
 | .goto l,e,σ=>some (.goto l,e,σ)
 | .stuck,_,_=>none
 | .frz ts body,e,σ=>dG (nG ts e σ) fun x=>exec C n ro body x.1 x.2
 | .rangeF g ps assign body,e,σ=>dG (opd e g) fun c=>dG c.d.fnF? fun f =>
  dG (enterLoop ro ⟨Da e.slots,ps,assign,body,.ready⟩ e σ) fun x=>dG (C f.1 (f.2.1 ++ [.yld x.1] ++ f.2.2) x.2.2) fun o=>match o.1 with
   | .ret _=>endLoop x.1 x.2.1 o.2
   | .panic _=>none
def sP:Nat→List D→List (Nat × Cell)
 | _,[]=>[]
 | i,d :: r=>(i,⟨false,d⟩) :: sP (i + 1) r
def jE (args:List D):Env:={slots:=sP 0 args,locs:=[],boxes:=[],defers:=[]}
abbrev pP:=FuncId→List D→Option D→Store→Option (Option D × Store)
def fV (R:pP) (C:dQ):Option D→List (FuncId × List D)→Store→Option (Option D × Store)
 | m,[],σ=>some (m,σ)
 | m,(f,as) :: r,σ=>ifB (isY f) (dG (dE σ.oth (f - iG)) fun x=>match x with
  | .dfr=>fV R C m r {σ with oth:=eE σ.oth (f - iG)}
  | _=>none) (match R f as m σ with
  | some x=>fV R C x.1 r x.2
  | none=>dG (C f as σ) fun o=>match o.1 with
   | .ret _=>fV R C m r o.2
   | .panic _=>none)
def qZ (e:Env) (σ:Store):ARes→Option Cell
 | .tmp s=>dE e.slots s
 | .cell s k=>dG (iW e (.tmp s)) fun p=>match p with
  | .loc b off=>dG (dE e.boxes b) fun cs=>fN cs k off
  | .ptr id off=>dG (dE σ.objs id) fun cs=>dG (fN cs k off) fun c=>some ⟨false,c.d⟩
  | .eptr _=>none
 | .cellA s k=>dG (iW e (.tmp s)) fun p=>match p with
  | .loc b 0=>dG (dE e.boxes b) fun cs=>ifB (cs.length == k) (some ⟨jN cs,.agg (cs.map fun c=>c.d)⟩) none
  | _=>none
def oP (e:Env) (σ:Store):List ARes→Option (List D)
 | []=>some []
 | r :: l=>dG (qZ e σ r) fun c=>dG (oP e σ l) fun ds=>some (c.d :: ds)
def mU (e:Env) (σ:Store):List ARes→Option Cell
 | [r]=>qZ e σ r
 | l=>dG (oP e σ l) fun ds=>some ⟨false,.tup ds⟩
def Store.trunc (σ:Store) (m:Nat):Store:={objs:=σ.objs.filter fun p=>p.1 < m,tys:=σ.tys.filter fun p=>p.1 < m,oth:=σ.oth.filter fun p=>p.1 < m,next:=σ.next}
def qC (R:pP) (C:dQ) (quiet:Bool) (af:AFun) (m:Nat):AExit × Env × Store→Option (Out × Store)
 | (x,e,σ)=>ifB (quiet && !e.defers.isEmpty) none (match x with
  | .normal | .ret=>dG (fV R C none e.defers σ) fun r=>match r.1 with
   | none=>dG (mU e r.2 af.res) fun c=>some (.ret c,ifB af.gc (r.2.trunc m) r.2)
   | some _=>none
  | .panic d=>dG (fV R C (some d) e.defers σ) fun r=>match r.1 with
   | none=>dG (mU e r.2 af.res) fun c=>some (.ret c,ifB af.gc (r.2.trunc m) r.2)
   | some d'=>some (.panic d',ifB af.gc (r.2.trunc m) r.2)
  | .exit _=>none
  | .goto _=>none)
def qI (σ:Store) (l:Nat) (r:LRec) (s:LSt):Store:={σ with oth:=dZ σ.oth l (.loop {r with st:=s})}
def LSt.isReady:LSt→Bool
 | .ready=>true
 | _=>false
def Qw (C:dQ) (n l:Nat):Option (AExit × Env × Store)→Option (Out × Store)
 | some (x,_,σ)=>dG (pL σ l) fun r=>match x with
  | .normal=>some (.ret ⟨false,.bool true⟩,qI σ l r .ready)
  | .exit i=>some (.ret ⟨false,.bool false⟩,qI σ l r (.done (.exit i)))
  | .ret=>some (.ret ⟨false,.bool false⟩,qI σ l r (.done .ret))
  | .panic _=>none
  | .goto _=>none
 | none=>none
def Qv (C:dQ) (n l:Nat) (body:ACode):Option (AExit × Env × Store)→Option (Out × Store)
 | some (.normal,e,σ)=>dG (pL σ l) fun r=>ifB r.st.isReady (Qw C n l (exec C n (some l) body e (qI σ l r .busy))) none
 | _=>none
def Xl (C:dQ) (n l:Nat) (args:List D) (σ:Store):Option (Out × Store) :=
 dG (pL σ l) fun r=>ifB (args.length == r.params.length && r.st.isReady)
  (Qv C n l r.body (exec C n (some l) r.assign {slots:=rO r.params args r.slots,locs:=[],boxes:=[],defers:=[]} σ)) none
section
variable (Γ:FuncId→Option AFun) (R:pP) (X:dQ)
def nE:Nat→Bool→dQ
 | 0,_,_,_,_=>none
 | n + 1,quiet,f,args,σ=>match Γ f with
  | some af=>ifB (args.length == af.nargs)
    (match exec (nE n false) n none af.body (jE args) σ with
     | some r=>qC R (nE n true) quiet af σ.next r
     | none=>none) none
  | none=>ifB quiet none (ifB (isY f) (Xl (nE n false) n (f - iG) args σ) (X f args σ))
abbrev run (n:Nat):dQ:=nE Γ R X n false
end
/-! ### Short words for operations -/
def mt (s t:Nat):AOper:=⟨some s,.mov (.tmp t),none⟩
def mw (s t:Nat):AOper:=⟨some s,.mov (.mv t),none⟩
def mo (s:Nat) (x:AOp):AOper:=⟨some s,x,none⟩
end Go.Mx
