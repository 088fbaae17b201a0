/-
 A small deterministic machine over plain data,to which the walks of a translated program are brought back: its values,its code,and the function that runs it. Nothing here speaks of a world.
-/
import GoSem.Core.Code
import GoSem.Core.View
import GoSem.Op.String
import GoSem.Core.Utf8
set_option linter.unusedSimpArgs false
set_option linter.unusedVariables false
set_option linter.unusedSectionVars false
namespace Go.Mx
open Go
structure RowK where
 el:Nat
 sz:Nat
 ag:Bool
 deriving Inhabited
def RowK.same (a b:RowK):Bool:=a.el == b.el && a.sz == b.sz
inductive D where
 | undef
 | bool (b:Bool)
 | int (k:IntKind) (n:Int)
 | str (s:List UInt8)
 | nils
 | list (k:RowK) (es:List D)
 | agg (cs:List D)
 | tup (ds:List D)
 | nilp
 | ptr (id off:Nat)
 | eptr (d:D)
 | fn (f:Fn) (first caps:List D)
 | nilfn
 | iface (t:TypeId) (d:D)
 | niliface
 | junk
  | arr (k:RowK) (id off len:Nat)
  | empt
 | map (id:Nat)
 | nilmap
  | yld (id:Nat)
 deriving Inhabited
structure Cell where
 own:Bool
 d:D
 deriving Inhabited
def caseO {α β:Type} (x:Option α) (n:β) (f:α→β):β:=match x with
 | none=>n
 | some a=>f a
def ifB {β:Type} (b:Bool) (x y:β):β:=match b with
 | true=>x
 | false=>y
theorem za0 {α β:Type} (n:β) (f:α→β):caseO none n f=n:=rfl
theorem zab {α β:Type} (a:α) (n:β) (f:α→β):caseO (some a) n f=f a:=rfl
theorem zac {β:Type} (x y:β):ifB true x y=x:=rfl
theorem zad {β:Type} (x y:β):ifB false x y=y:=rfl
@[congr] theorem zqfb {α β:Type} {x y:Option α} (n:β) (f:α→β) (h:x=y):caseO x n f=caseO y n f:=by rw [h]
@[congr] theorem zqmb {β:Type} {a b:Bool} (x y:β) (h:a=b):ifB a x y=ifB b x y:=by rw [h]
abbrev bindO {α β:Type} (x:Option α) (f:α→Option β):Option β:=caseO x none f
def aget {α:Type}:List (Nat × α)→Nat→Option α
 | [],_=>none
 | (k,v) :: r,s=>ifB (k == s) (some v) (aget r s)
def nth {α:Type}:List α→Nat→Option α
 | [],_=>none
 | x :: _,0=>some x
 | _ :: l,n + 1=>nth l n
def aset {α:Type}:List (Nat × α)→Nat→α→List (Nat × α)
 | [],s,x=>[(s,x)]
 | (k,v) :: r,s,x=>ifB (k == s) ((k,x) :: r) (ifB (Nat.ble s k) ((s,x) :: (k,v) :: r) ((k,v) :: aset r s x))
def mem:List Nat→Nat→Bool
 | [],_=>false
 | x :: l,k=>ifB (x == k) true (mem l k)
def adel {α:Type}:List (Nat × α)→List Nat→List (Nat × α)
 | [],_=>[]
 | (k,v) :: r,l=>ifB (mem l k) (adel r l) ((k,v) :: adel r l)
def adel1 {α:Type}:List (Nat × α)→Nat→List (Nat × α)
 | [],_=>[]
 | (k,v) :: r,s=>ifB (k == s) (adel1 r s) ((k,v) :: adel1 r s)
def lkill:List (Nat × (Nat × Nat))→Nat→List (Nat × (Nat × Nat))
 | [],_=>[]
 | (k,(b,o)) :: r,s=>ifB (b == s) (adel1 (lkill r s) k) ((k,(b,o)) :: lkill r s)
def lfree (l:List (Nat × (Nat × Nat))) (s:Nat):Bool:=caseO (aget l s) (l.all fun p=>caseO (aget l p.1) true fun q=>!(q.1 == s)) fun _=>false
structure Env where
 slots:List (Nat × Cell)
 locs:List (Nat × (Nat × Nat))
 boxes:List (Nat × List Cell)
 defers:List (FuncId × List D)
 deriving Inhabited
def Env.bare (e:Env):Env:={slots:=[],locs:=[],boxes:=[],defers:=e.defers}
structure Ty where
 t:Nat
 sz:Nat
 deriving Inhabited
inductive AOpd where
 | tmp (s:Nat)
 | mv (s:Nat)
 | const (d:D)
 deriving Inhabited
inductive AOp where
 | mov (x:AOpd)
 | pick (c a b:AOpd)
 | alloc (z:List D)
 | box (x:AOpd)
 | galloc (t:Nat) (z:List D)
 | gbox (t:Nat) (x:AOpd)
 | rangeS (x:AOpd)
 | rangeM (x:AOpd)
 | entryM (x:AOpd)
 | nextS (x:AOpd)
 | build (z:List D) (parts:List (Nat × Nat × AOpd))
 | buildSlice (k:RowK) (parts:List AOpd)
 | load (k:Option Nat) (mv:Bool) (x:AOpd)
 | loadL (k:Option Nat) (mv:Bool) (x:AOpd)
 | store (k:Nat) (x y:AOpd)
 | loadA (k:Nat) (x:AOpd)
 | storeA (k:Nat) (x y:AOpd)
 | nilCheck (x:AOpd)
 | bin (op:BinOp) (x y:AOpd)
 | binB (op:BinOp) (x y:AOpd)
 | un (op:UnOp) (x:AOpd)
 | toInt (k:IntKind) (x:AOpd)
 | toStr (x:AOpd)
 | runeStr (x:AOpd)
 | bytesToStr (x:AOpd)
 | strToBytes (k:RowK) (x:AOpd)
 | mkIface (t:TypeId) (x:AOpd)
 | mkFunc (fn:Fn) (first caps:List AOpd)
 | slice (sz:Nat) (x:AOpd) (lo hi:Option AOpd)
 | sliceS (x:AOpd) (lo hi:Option AOpd)
 | fieldAddr (off:Nat) (k:Option Nat) (x:AOpd)
 | field (off:Nat) (k:Option Nat) (x:AOpd)
 | indexAddr (sz:Nat) (x i:AOpd)
 | index (x i:AOpd)
 | extract (x:AOpd) (i:Nat)
 | len (x:AOpd)
 | lenS (x:AOpd)
 | append (k:RowK) (by_:Nat) (x y:AOpd)
 | appendS (k:RowK) (by_:Nat) (x y:AOpd)
 | isNil (op:BinOp) (x:AOpd)
 | isNilP (op:BinOp) (x:AOpd)
 | assertT (t:Nat) (z:D) (x:AOpd)
 | isNilS (op:BinOp) (x:AOpd)
 | isNilM (op:BinOp) (x:AOpd)
  | loadO (k:Option Nat) (x:AOpd)
  | sliceT (sz:Nat) (x:AOpd) (lo:Option AOpd)
 | slice3 (sz:Nat) (x:AOpd) (lo:Option AOpd) (hi max:AOpd)
 | storeP (k:Nat) (x y:AOpd)
 | storeD (q:Bool) (s k:Nat) (x y:AOpd)
 | allocN (s:Nat) (z:List D)
 | boxN (s:Nat) (x:AOpd)
 | loadB (b:Nat) (k:Option Nat) (x:AOpd)
 | loadE (k:Option Nat) (x:AOpd)
 | loadP (k:Option Nat) (x:AOpd)
 | loadG (k:Option Nat) (x:AOpd)
 | storeB (b k:Nat) (x y:AOpd)
 | callW (ws:List Nat) (f:FuncId) (args:List AOpd)
 | callvW (ws:List Nat) (x:AOpd) (args:List AOpd)
 | mm (mx:Bool) (x y:AOpd)
 | indexAddrP (n sz:Nat) (x i:AOpd)
 | indexA (n sz:Nat) (x i:AOpd)
 | eqA (op:BinOp) (ks:List Nat) (x y:AOpd)
 | makeA (k:RowK) (by_:Nat) (z:List D) (len cap:AOpd)
 | buildA (k:RowK) (parts:List AOpd)
 | appendA (k:RowK) (by_:Nat) (x y:AOpd)
 | appendW (ws:List Nat) (k:RowK) (by_:Nat) (x y:AOpd)
 | copyA (sz:Nat) (x y:AOpd)
 | clearA (sz:Nat) (z:List D) (x:AOpd)
 | makeMap
 | cloneM (x:AOpd)
 | growZ (k:RowK) (by_:Nat) (z:List D) (x n:AOpd)
 | capZ (x:AOpd)
 | assertP (t:Nat) (x:AOpd)
 | lookup (ks:Bool) (z:D) (ok:Bool) (x i:AOpd)
 | update (ks:Bool) (x i y:AOpd)
 | lenM (x:AOpd)
 | delete (ks:Bool) (x i:AOpd)
 | entry (ks:Bool) (z:D) (x i:AOpd)
 | entryStore (x s y:AOpd)
 | call (f:FuncId) (args:List AOpd)
 | pcall (f:FuncId) (args:List AOpd)
 | callv (x:AOpd) (args:List AOpd)
 | deferv (x:AOpd) (args:List AOpd)
 | panic (x:AOpd)
 deriving Inhabited
structure AOper where
 dst:Option Nat
 op:AOp
 guard:Option (Nat × Bool)
 deriving Inhabited
inductive FTgt where
 | slot (s:Nat)
 | box (b:Nat)
 | obj (s:Nat)
  | promote (s:Nat)
 deriving Inhabited
inductive ACode where
 | skip
 | region (ops:List AOper) (draw:Option (List Nat)) (clr:List Nat)
 | seq (a b:ACode)
 | cond (c:AOpd) (t e:ACode)
 | block (id:Nat) (body:ACode)
 | loop (body:ACode)
 | exit (id:Nat)
 | ret
 | scope (body:ACode)
 | stuck
 | frz (ts:List FTgt) (body:ACode)
 | rangeF (g:AOpd) (ps:List Nat) (assign body:ACode)
 | label (l:Nat)
 | goto (l:Nat)
 | scopeJ (l:Nat) (body rest:ACode)
  | rangeM (it nx more out:Nat) (drop clr:List Nat) (body:ACode)
 deriving Inhabited
inductive LJump where
 | exit (id:Nat)
 | ret
 deriving Inhabited
inductive LSt where
 | ready
 | busy
 | done (x:LJump)
 | over
 deriving Inhabited
structure LRec where
 slots:List (Nat × Cell)
 params:List Nat
 assign:ACode
 body:ACode
 st:LSt
 deriving Inhabited
inductive Oth where
 | it (s:List UInt8) (pos:Nat)
 | map (es:List (D × D × Nat)) (clock:Nat)
 | loop (r:LRec)
 | dfr
  | mit (m since:Nat) (seen:List Nat) (stepped:Nat)
 deriving Inhabited
structure Store where
 objs:List (Nat × List Cell)
 tys:List (Nat × Ty)
 oth:List (Nat × Oth)
 next:Nat
 deriving Inhabited
inductive ARes where
 | tmp (s:Nat)
 | cell (s:Nat) (k:Option Nat)
 | cellA (s:Nat) (k:Nat)
 deriving Inhabited
structure AFun where
 nargs:Nat
 ntmps:Nat
 res:List ARes
 body:ACode
 gc:Bool
 deriving Inhabited
inductive AExit where
 | normal
 | exit (id:Nat)
 | ret
 | panic (d:D)
 | goto (l:Nat)
 deriving Inhabited
inductive Out where
 | ret (c:Cell)
 | panic (d:D)
 deriving Inhabited
def D.cells:D→List D
 | .agg cs=>cs
 | d=>[d]
def D.one:D→Bool
 | .agg _=>false
 | .undef=>false
 | .tup _=>false
 | .junk=>false
 | _=>true
def D.ok:D→Bool
 | .undef=>false
 | .tup _=>false
 | .junk=>false
 | _=>true
def D.bool?:D→Option Bool
 | .bool b=>some b
 | _=>none
def D.int?:D→Option (IntKind × Int)
 | .int k n=>some (k,n)
 | _=>none
def D.nat?:D→Option Nat
 | .int _ n=>ifB (decide (0≤n)) (some n.toNat) none
 | _=>none
def D.str?:D→Option (List UInt8)
 | .str s=>some s
 | _=>none
def D.tup?:D→Option (List D)
 | .tup ds=>some ds
 | _=>none
def yldBase:Nat:=1099511627776
def isY (f:Nat):Bool:=Nat.ble yldBase f
def D.fn?:D→Option (FuncId × List D × List D)
 | .fn (.func f) a b=>ifB (isY f) none (some (f,a,b))
 | .yld id=>some (yldBase + id,[],[])
 | _=>none
def D.fnF?:D→Option (FuncId × List D × List D)
 | .fn (.func f) a b=>ifB (isY f) none (some (f,a,b))
 | _=>none
def D.agg?:D→Option (List D)
 | .agg cs=>some cs
 | _=>none
def D.row?:D→Option (RowK × List D)
 | .list sz es=>some (sz,es)
 | _=>none
def asList:D→Option (List D)
 | .nils=>some []
 | .empt=>some []
 | .list _ es=>some es
 | _=>none
def packD (k:RowK) (ds:List D):D:=ifB k.ag (.agg ds) (ds.headD .undef)
def zdl (k:RowK):Nat→List D→List D
 | 0,_=>[]
 | n + 1,ds=>packD k (ds.take k.sz) :: zdl k n (ds.drop k.sz)
def elems (k:RowK) (cs:List Cell) (off len:Nat):List D:=zdl k len ((cs.map fun c=>c.d).drop (off * k.sz))
def listOf (os:List (Nat × List Cell)):D→Option (List D)
 | .arr k id off len=>bindO (aget os id) fun cs=>ifB ((k.ag || k.sz == 1) && decide ((off + len) * k.sz≤cs.length)) (some (elems k cs off len)) none
 | d=>asList d
def lenOf:D→Option Nat
 | .nils=>some 0
 | .list _ es=>some es.length
 | .arr _ _ _ len=>some len
 | .empt=>some 0
 | _=>none
def dlist (sz:RowK):List D→D
 | []=>.nils
 | x :: es=>.list sz (x :: es)
def part (k:Option Nat) (cs:List D) (off:Nat):Option D :=
 match k with
 | none=>nth cs off
 | some n=>ifB (decide (off + n≤cs.length)) (some (.agg ((cs.drop off).take n))) none
def Cell.of (d:D):Cell:=⟨false,d⟩
def opd (e:Env):AOpd→Option Cell
 | .tmp s=>bindO (aget e.slots s) fun c=>some ⟨false,c.d⟩
 | .mv s=>aget e.slots s
 | .const d=>some ⟨false,d⟩
def opds (e:Env):List AOpd→Option (List D)
 | []=>some []
 | x :: l=>bindO (opd e x) fun c=>bindO (opds e l) fun ds=>some (c.d :: ds)
def AOpd.drop (e:Env):AOpd→Env
 | .mv s=>caseO (aget e.slots s) e fun c=>{e with slots:=aset e.slots s ⟨false,c.d⟩}
 | _=>e
inductive Ptr where
 | loc (b off:Nat)
 | ptr (id off:Nat)
 | eptr (d:D)
 deriving Inhabited
def ptrOf:D→Option Ptr
 | .ptr id off=>some (.ptr id off)
 | .eptr d=>some (.eptr d)
 | _=>none
def addr (e:Env):AOpd→Option Ptr
 | .tmp s=>caseO (aget e.locs s) (bindO (aget e.slots s) fun c=>ptrOf c.d) fun p=>some (.loc p.1 p.2)
 | .mv s=>caseO (aget e.locs s) (bindO (aget e.slots s) fun c=>ptrOf c.d) fun p=>some (.loc p.1 p.2)
 | .const d=>ptrOf d
inductive Val where
 | c (c:Cell)
 | l (b off:Nat)
 deriving Inhabited
def zan:List Cell→Nat→List Cell→List Cell
 | cs,_,[]=>cs
 | [],_,_=>[]
 | _ :: cs,0,x :: new=>x :: zan cs 0 new
 | c :: cs,n + 1,new=>c :: zan cs n new
def putD:List D→Nat→List D→List D
 | cs,_,[]=>cs
 | [],_,_=>[]
 | _ :: cs,0,x :: new=>x :: putD cs 0 new
 | c :: cs,n + 1,new=>c :: putD cs n new
def fillD:List D→List (Nat × Nat × D)→Option (List D)
 | cs,[]=>some cs
 | cs,(off,n,d) :: r=>ifB (d.ok && d.cells.length == n && decide (off + n≤cs.length)) (fillD (putD cs off d.cells) r) none
def zcz (e:Env):List (Nat × Nat × AOpd)→Option (List (Nat × Nat × D))
 | []=>some []
 | (off,n,x) :: r=>bindO (opd e x) fun c=>bindO (zcz e r) fun l=>some ((off,n,c.d) :: l)
def zau (sz:Nat):List D→Bool
 | []=>true
 | d :: r=>d.ok && d.cells.length == sz && zau sz r
def takeC:List Cell→Nat→Nat→Option (List D)
 | _,0,0=>some []
 | [],_,_=>none
 | c :: cs,0,n + 1=>bindO (takeC cs 0 n) fun l=>some (c.d :: l)
 | _ :: cs,o + 1,n=>takeC cs o n
def zar (cs:List Cell) (k:Option Nat) (off:Nat):Option Cell :=
 match k with
 | none=>nth cs off
 | some n=>bindO (takeC cs off n) fun l=>some ⟨false,.agg l⟩
def zay:List Cell→Nat→List Cell
 | [],_=>[]
 | c :: cs,0=>⟨false,c.d⟩ :: cs
 | c :: cs,n + 1=>c :: zay cs n
def firstOwn:List Cell→Bool
 | []=>false
 | c :: r=>match c.d with
  | .list _ _=>c.own
  | _=>firstOwn r
def unownF:List Cell→List Cell
 | []=>[]
 | c :: r=>match c.d with
  | .list _ _=>⟨false,c.d⟩ :: r
  | _=>c :: unownF r
def layA (o:Bool):List D→List Cell
 | []=>[]
 | d :: r=>match d with
  | .list _ _=>⟨o,d⟩ :: r.map Cell.of
  | _=>⟨false,d⟩ :: layA o r
def zbg (op:BinOp) (k:IntKind) (a b:Int):Option D :=
 match op with
 | .add=>some (.int k (k.wrap (a + b)))
 | .sub=>some (.int k (k.wrap (a - b)))
 | .mul=>some (.int k (k.wrap (a * b)))
 | .quo=>ifB (b == 0) none (some (.int k (k.wrap (a.tdiv b))))
 | .rem=>ifB (b == 0) none (some (.int k (a.tmod b)))
 | .eql=>some (.bool (a == b))
 | .neq=>some (.bool (a != b))
 | .lss=>some (.bool (decide (a < b)))
 | .leq=>some (.bool (decide (a≤b)))
 | .gtr=>some (.bool (decide (a > b)))
 | .geq=>some (.bool (decide (a ≥ b)))
 | _=>none
def bound:Nat:=1099511627776
def zcj (op:BinOp) (a b:List UInt8):Option D :=
 match op with
 | .add=>ifB (decide (a.length + b.length≤281474976710656)) (some (.str (a ++ b))) none
 | .eql=>some (.bool (a == b))
 | .neq=>some (.bool (!(a == b)))
 | .lss=>some (.bool (Op.bytesLess a b))
 | .leq=>some (.bool (Op.bytesLess a b || a == b))
 | .gtr=>some (.bool (!(Op.bytesLess a b || a == b)))
 | .geq=>some (.bool (!Op.bytesLess a b))
 | _=>none
def zfa (op:BinOp) (a b:Bool):Option D :=
 match op with
 | .eql=>some (.bool (a == b))
 | .neq=>some (.bool (!(a == b)))
 | _=>none
def za1:IntKind→IntKind→Bool
 | .i8,.i8 | .i16,.i16 | .i32,.i32 | .i64,.i64 | .u8,.u8 | .u16,.u16 | .u32,.u32 | .u64,.u64=>true
 | _,_=>false
def binD (op:BinOp):D→D→Option D
 | .int k a,.int k' b=>ifB (za1 k k') (zbg op k a b) none
 | .str a,.str b=>zcj op a b
 | _,_=>none
def binBD (op:BinOp):D→D→Option D
 | .bool a,.bool b=>zfa op a b
 | _,_=>none
def D.isNil?:D→Option Bool
 | .niliface=>some true
 | .iface _ _=>some false
 | _=>none
def D.isNilP?:D→Option Bool
 | .nilp=>some true
 | .ptr _ _=>some false
 | .eptr _=>some false
 | _=>none
def ze8 (t:Nat) (z:D):D→Option D
 | .iface t' d=>some (.tup [ifB (t' == t) d z,.bool (t' == t)])
 | .niliface=>some (.tup [z,.bool false])
 | _=>none
def eqlB (op:BinOp) (b:Bool):Option D:=match op with
 | .eql=>some (.bool b)
 | .neq=>some (.bool (!b))
 | _=>none
def zez:List UInt8→List D
 | []=>[]
 | b :: r=>.int .u8 b.toNat :: zez r
def mmD (mx:Bool):D→D→Option D
 | .int k a,.int k' b=>ifB (za1 k k') (some (.int k (ifB mx (ifB (decide (a < b)) b a) (ifB (decide (b < a)) b a)))) none
 | _,_=>none
def unD:UnOp→D→Option D
 | .not,.bool b=>some (.bool (!b))
 | .neg,.int k n=>some (.int k (k.wrap (0 - n)))
 | _,_=>none
def za2 (sz:Nat) (x:D) (lo:Nat) (hi:Option Nat):Option D :=
 match x with
 | .nils=>ifB (decide (lo≤hi.getD 0) && decide (hi.getD 0≤0)) (some .nils) none
 | .list k es=>ifB (decide (lo≤hi.getD es.length) && decide (hi.getD es.length≤es.length) && k.sz == sz) (some (.list k ((es.drop lo).take (hi.getD es.length - lo)))) none
 | .empt=>ifB (decide (lo≤hi.getD 0) && decide (hi.getD 0≤0)) (some .empt) none
 | .arr k id off len=>ifB (decide (lo≤hi.getD len) && decide (hi.getD len≤len) && k.sz == sz) (some (.arr k id (off + lo) (hi.getD len - lo))) none
 | _=>none
def zle (sz:Nat) (x:D) (lo hi max:Nat):Option D :=
 ifB (hi == max && decide (lo≤hi)) (match x with
  | .nils=>ifB (hi == 0) (some .nils) none
  | .empt=>ifB (hi == 0) (some .empt) none
  | .list k es=>ifB (decide (hi≤es.length) && k.sz == sz && !(k.el == 5)) (some (ifB (lo == hi) .empt (.list k ((es.drop lo).take (hi - lo))))) none
  | .arr _ _ _ len=>ifB (decide (hi≤len) && lo == hi) (some .empt) none
  | _=>none) none
def zaw (sz:Nat) (x:D) (n:Nat):Option D:=match x with
 | .list k es=>ifB (k.sz == sz) (bindO (nth es n) fun d=>some (.eptr d)) none
 | .arr k id off len=>ifB (k.sz == sz && decide (n < len)) (some (.ptr id ((off + n) * sz))) none
 | _=>none
def D.isNilS?:D→Option Bool
 | .nils=>some true
 | .list _ (_ :: _)=>some false
 | .arr _ _ _ _=>some false
 | _=>none
def D.isNilM?:D→Option Bool
 | .nilmap=>some true
 | .map _=>some false
 | _=>none
def sameD:D→D→Option Bool
 | .int k a,.int k' b=>ifB (za1 k k') (some (a == b)) none
 | .str a,.str b=>some (a == b)
 | .bool a,.bool b=>some (a == b)
 | _,_=>none
def kindD:Nat→D→Bool
 | 0,.int .i64 _=>true
 | 1,.str _=>true
 | 2,.bool _=>true
 | _,_=>false
def zfx:List Nat→List D→Bool
 | [],[]=>true
 | k :: r,d :: s=>kindD k d && zfx r s
 | _,_=>false
def same1:D→D→Bool
 | .int _ a,.int _ b=>a == b
 | .str a,.str b=>a == b
 | .bool a,.bool b=>a == b
 | _,_=>false
def sameA:List D→List D→Bool
 | a :: r,b :: s=>same1 a b && sameA r s
 | _,_=>true
/-! ### Maps -/
def findM (k:D):List (D × D × Nat)→Option (Option (D × Nat × Nat))
 | []=>some none
 | (k',v,b) :: r=>bindO (sameD k k') fun is=>ifB is (some (some (v,b,0))) (bindO (findM k r) fun x=>some (caseO x none fun p=>some (p.1,p.2.1,p.2.2 + 1)))
def setM (b:Nat) (v:D):List (D × D × Nat)→List (D × D × Nat)
 | []=>[]
 | (k,v',b') :: r=>ifB (b' == b) ((k,v,b') :: r) ((k,v',b') :: setM b v r)
def keyD (ks:Bool):D→Bool
 | .int _ _=>!ks
 | .str _=>ks
 | _=>false
def mapOf (ot:List (Nat × Oth)):D→Option (List (D × D × Nat))
 | .nilmap=>some []
 | .map id=>bindO (aget ot id) fun x=>match x with
  | .map es _=>some es
  | _=>none
 | _=>none
def mapAt (ot:List (Nat × Oth)):D→Option (Nat × List (D × D × Nat) × Nat)
 | .map id=>bindO (aget ot id) fun x=>match x with
  | .map es c=>some (id,es,c)
  | _=>none
 | _=>none
/-! ### Ranges over maps -/
def entAt (b:Nat):List (D × D × Nat)→Option (D × D)
 | []=>none
 | (k,v,b') :: r=>ifB (b' == b) (some (k,v)) (entAt b r)
def leftM (seen:List Nat):List (D × D × Nat)→List (D × D × Nat)
 | []=>[]
 | x :: r=>ifB (mem seen x.2.2) (leftM seen r) (x :: leftM seen r)
def oldM (since:Nat):List (D × D × Nat)→Bool
 | []=>true
 | x :: r=>Nat.ble (x.2.2 + 1) since && oldM since r
structure MIt where
 id:Nat
 m:Nat
 since:Nat
 seen:List Nat
 stepped:Nat
 es:List (D × D × Nat)
 clock:Nat
def mitOf (ot:List (Nat × Oth)):Ptr→Option MIt
 | .ptr id 0=>bindO (aget ot id) fun x=>match x with
  | .mit m since seen st=>bindO (aget ot m) fun y=>match y with
   | .map es cl=>some ⟨id,m,since,seen,st,es,cl⟩
   | _=>none
  | _=>none
 | _=>none
def zg1:List D→Option (List UInt8)
 | []=>some []
 | .int .u8 n :: r=>ifB (decide (0≤n) && decide (n < 256)) (bindO (zg1 r) fun s=>some (UInt8.ofNat n.toNat :: s)) none
 | _ :: _=>none
def zx2 (s:List UInt8) (lo:Nat) (hi:Option Nat):Option D :=
 ifB (decide (lo≤hi.getD s.length) && decide (hi.getD s.length≤s.length)) (some (.str ((s.drop lo).take (hi.getD s.length - lo)))) none
def optLo (e:Env):Option AOpd→Option Nat
 | some l=>bindO (opd e l) fun c=>c.d.nat?
 | none=>some 0
def optHi (e:Env):Option AOpd→Option (Option Nat)
 | some h=>bindO (opd e h) fun c=>bindO c.d.nat? fun n=>some (some n)
 | none=>some none
def evalV (op:AOp) (e:Env) (σ:Store):Option Val :=
 match op with
 | .mov x=>bindO (opd e x) fun c=>some (.c c)
 | .pick c a b=>bindO (opd e c) fun c=>bindO c.d.bool? fun t=>bindO (ifB t (opd e a) (opd e b)) fun c=>some (.c ⟨false,c.d⟩)
 | .build z parts=>bindO (zcz e parts) fun ps=>bindO (fillD z ps) fun cs=>some (.c ⟨false,.agg cs⟩)
 | .load k mv x=>bindO (addr e x) fun p=>match p with
  | .loc b off=>bindO (aget e.boxes b) fun cs=>bindO (zar cs k off) fun c=>some (.c ⟨mv && c.own,c.d⟩)
  | .ptr id off=>bindO (aget σ.objs id) fun cs=>bindO (zar cs k off) fun c=>some (.c ⟨mv && c.own,c.d⟩)
  | .eptr d=>match k with
   | none=>ifB d.one (some (.c ⟨false,d⟩)) none
   | some n=>bindO d.agg? fun cs=>ifB (cs.length == n) (some (.c ⟨false,d⟩)) none
 | .loadL k mv x=>bindO (addr e x) fun p=>match p with
  | .loc b off=>bindO (aget e.boxes b) fun cs=>bindO (zar cs k off) fun c=>some (.c ⟨mv && c.own,c.d⟩)
  | .ptr _ _=>none
  | .eptr d=>match k with
   | none=>ifB d.one (some (.c ⟨false,d⟩)) none
   | some n=>bindO d.agg? fun cs=>ifB (cs.length == n) (some (.c ⟨false,d⟩)) none
 | .loadB b k x=>bindO (addr e x) fun p=>match p with
  | .loc b' off=>ifB (b' == b) (bindO (aget e.boxes b) fun cs=>bindO (zar cs k off) fun c=>some (.c ⟨false,c.d⟩)) none
  | _=>none
 | .loadE k x=>bindO (addr e x) fun p=>match p with
  | .eptr d=>match k with
   | none=>ifB d.one (some (.c ⟨false,d⟩)) none
   | some n=>bindO d.agg? fun cs=>ifB (cs.length == n) (some (.c ⟨false,d⟩)) none
  | _=>none
 | .loadG k x=>bindO (addr e x) fun p=>match p with
  | .loc _ _=>none
  | .ptr id off=>bindO (aget σ.objs id) fun cs=>bindO (zar cs k off) fun c=>some (.c ⟨false,c.d⟩)
  | .eptr d=>match k with
   | none=>ifB d.one (some (.c ⟨false,d⟩)) none
   | some n=>bindO d.agg? fun cs=>ifB (cs.length == n) (some (.c ⟨false,d⟩)) none
 | .loadP k x=>bindO (addr e x) fun p=>match p with
  | .ptr id off=>bindO (aget σ.objs id) fun cs=>bindO (zar cs k off) fun c=>some (.c ⟨false,c.d⟩)
  | _=>none
 | .nilCheck x=>bindO (addr e x) fun p=>match p with
  | .loc b off=>some (.l b off)
  | .ptr id off=>some (.c ⟨false,.ptr id off⟩)
  | .eptr d=>some (.c ⟨false,.eptr d⟩)
 | .bin op x y=>bindO (opd e x) fun a=>bindO (opd e y) fun b=>bindO (binD op a.d b.d) fun d=>some (.c ⟨false,d⟩)
 | .binB op x y=>bindO (opd e x) fun a=>bindO (opd e y) fun b=>bindO (binBD op a.d b.d) fun d=>some (.c ⟨false,d⟩)
 | .un op x=>bindO (opd e x) fun a=>bindO (unD op a.d) fun d=>some (.c ⟨false,d⟩)
 | .toInt k x=>bindO (opd e x) fun a=>bindO a.d.int? fun n=>some (.c ⟨false,.int k (k.wrap n.2)⟩)
 | .toStr x=>bindO (opd e x) fun a=>bindO a.d.str? fun s=>some (.c ⟨false,.str s⟩)
 | .runeStr x=>bindO (opd e x) fun a=>bindO a.d.int? fun n=>some (.c ⟨false,.str (Utf8.encode n.2).data.toList⟩)
 | .bytesToStr x=>bindO (opd e x) fun c=>bindO (asList c.d) fun es=>bindO (zg1 es) fun s=>some (.c ⟨false,.str s⟩)
 | .mkIface t x=>bindO (opd e x) fun c=>some (.c ⟨false,.iface t c.d⟩)
 | .mkFunc fn first caps=>bindO (opds e first) fun a=>bindO (opds e caps) fun b=>some (.c ⟨false,.fn fn a b⟩)
 | .slice sz x lo hi=>bindO (opd e x) fun c=>bindO (optLo e lo) fun l=>bindO (optHi e hi) fun h=>bindO (za2 sz c.d l h) fun d=>some (.c ⟨false,d⟩)
 | .sliceS x lo hi=>bindO (opd e x) fun c=>bindO c.d.str? fun s=>bindO (optLo e lo) fun l=>bindO (optHi e hi) fun h=>bindO (zx2 s l h) fun d=>some (.c ⟨false,d⟩)
 | .fieldAddr off k x=>bindO (addr e x) fun p=>match p with
  | .loc b o=>some (.l b (o + off))
  | .ptr id o=>some (.c ⟨false,.ptr id (o + off)⟩)
  | .eptr d=>bindO d.agg? fun cs=>bindO (part k cs off) fun d=>some (.c ⟨false,.eptr d⟩)
 | .field off k x=>bindO (opd e x) fun c=>bindO c.d.agg? fun cs=>bindO (part k cs off) fun d=>some (.c ⟨false,d⟩)
 | .indexAddr sz x i=>bindO (opd e x) fun c=>bindO (opd e i) fun i=>bindO i.d.nat? fun n=>bindO (zaw sz c.d n) fun d=>some (.c ⟨false,d⟩)
 | .indexAddrP n sz x i=>bindO (addr e x) fun p=>bindO (opd e i) fun i=>bindO i.d.nat? fun m=>ifB (decide (m < n)) (match p with
  | .loc b o=>some (.l b (o + m * sz))
  | .ptr id o=>some (.c ⟨false,.ptr id (o + m * sz)⟩)
  | .eptr _=>none) none
 | .indexA n sz x i=>bindO (opd e x) fun c=>bindO c.d.agg? fun cs=>bindO (opd e i) fun i=>bindO i.d.nat? fun m=>ifB (decide (m < n) && sz == 1) (bindO (nth cs m) fun d=>some (.c ⟨false,d⟩)) none
 | .eqA op ks x y=>bindO (opd e x) fun a=>bindO (opd e y) fun b=>bindO a.d.agg? fun as=>bindO b.d.agg? fun bs=>ifB (zfx ks as && zfx ks bs) (bindO (eqlB op (sameA as bs)) fun d=>some (.c ⟨false,d⟩)) none
 | .isNilS op x=>bindO (opd e x) fun c=>bindO c.d.isNilS? fun b=>bindO (eqlB op b) fun d=>some (.c ⟨false,d⟩)
 | .isNilM op x=>bindO (opd e x) fun c=>bindO c.d.isNilM? fun b=>bindO (eqlB op b) fun d=>some (.c ⟨false,d⟩)
 | .lookup ks z ok x i=>bindO (opd e x) fun c=>bindO (opd e i) fun k=>bindO (mapOf σ.oth c.d) fun es=>ifB (keyD ks k.d) (bindO (findM k.d es) fun r=>some (.c ⟨false,caseO r (ifB ok (.tup [z,.bool false]) z) fun v=>ifB ok (.tup [v.1,.bool true]) v.1⟩)) none
 | .lenM x=>bindO (opd e x) fun c=>bindO (mapOf σ.oth c.d) fun es=>some (.c ⟨false,.int .i64 es.length⟩)
 | .index x i=>bindO (opd e x) fun c=>bindO c.d.str? fun s=>bindO (opd e i) fun i=>bindO i.d.nat? fun n =>
  bindO (nth s n) fun b=>some (.c ⟨false,.int .u8 b.toNat⟩)
 | .extract x i=>bindO (opd e x) fun c=>bindO c.d.tup? fun ds=>bindO (nth ds i) fun d=>some (.c ⟨false,d⟩)
 | .mm mx x y=>bindO (opd e x) fun a=>bindO (opd e y) fun b=>bindO (mmD mx a.d b.d) fun d=>some (.c ⟨false,d⟩)
 | .len x=>bindO (opd e x) fun c=>bindO (lenOf c.d) fun n=>some (.c ⟨false,.int .i64 n⟩)
 | .lenS x=>bindO (opd e x) fun c=>bindO c.d.str? fun s=>some (.c ⟨false,.int .i64 s.length⟩)
 | .isNil op x=>bindO (opd e x) fun c=>bindO c.d.isNil? fun b=>bindO (eqlB op b) fun d=>some (.c ⟨false,d⟩)
 | .assertT t z x=>bindO (opd e x) fun c=>bindO (ze8 t z c.d) fun d=>some (.c ⟨false,d⟩)
 | .isNilP op x=>bindO (opd e x) fun c=>bindO c.d.isNilP? fun b=>bindO (eqlB op b) fun d=>some (.c ⟨false,d⟩)
 | _=>none
def zbd (op:AOp) (e:Env):Env :=
 match op with
 | .mov x=>x.drop e
 | .load _ true x=>caseO (addr e x) e fun p=>match p with
  | .loc b off=>caseO (aget e.boxes b) e fun cs=>{e with boxes:=aset e.boxes b (zay cs off)}
  | _=>e
 | .loadL _ true x=>caseO (addr e x) e fun p=>match p with
  | .loc b off=>caseO (aget e.boxes b) e fun cs=>{e with boxes:=aset e.boxes b (zay cs off)}
  | _=>e
 | _=>e
def zbi (op:AOp) (e:Env) (σ:Store):Store :=
 match op with
 | .load _ true x=>caseO (addr e x) σ fun p=>match p with
  | .ptr id off=>caseO (aget σ.objs id) σ fun cs=>{σ with objs:=aset σ.objs id (zay cs off)}
  | _=>σ
 | _=>σ
def Env.put (e:Env) (dst:Option Nat) (c:Cell):Env :=
 match dst with
 | some s=>{e with slots:=aset e.slots s c,locs:=adel1 e.locs s}
 | none=>e
def Env.putV (e:Env) (dst:Option Nat):Val→Env
 | .c c=>e.put dst c
 | .l b off=>match dst with
  | some s=>{e with slots:=adel1 e.slots s,locs:=aset e.locs s (b,off)}
  | none=>e
def Env.box (e:Env) (s:Nat) (cs:List Cell):Env :=
 {e with slots:=adel1 e.slots s,locs:=aset (lkill e.locs s) s (s,0),boxes:=aset e.boxes s cs}
def zdc (sz:RowK) (x:Cell):Bool :=
 match x.d with
 | .nils=>true
 | .empt=>true
 | .list sz' _=>x.own && sz'.same sz
 | _=>false
def zd8 (sz:RowK):D→List D→D
 | .nils,ys=>dlist sz ys
 | .empt,[]=>.empt
 | .empt,y :: ys=>.list sz (y :: ys)
 | .list _ xs,ys=>.list sz (xs ++ ys)
 | d,_=>d
def zbb (sz:RowK) (by_:Nat) (x:Cell) (ys:List D):Option Cell :=
 bindO (asList x.d) fun xs =>
  ifB (zdc sz x && zau sz.sz ys && decide ((xs.length + ys.length) * by_≤bound) && decide (xs.length + ys.length≤bound)) (some ⟨true,zd8 sz x.d ys⟩) none
def za7 (c:Cell):List Cell:=ifB c.d.one [c] (c.d.cells.map Cell.of)
def fits (c:Cell) (k off:Nat) (cs:List Cell):Bool:=c.d.ok && c.d.cells.length == k && decide (off + k≤cs.length)
def zav (σ:Store) (k:RowK) (cs:List Cell):Store:={objs:=(σ.next,cs) :: σ.objs,tys:=(σ.next,⟨k.el,k.sz⟩) :: σ.tys,oth:=σ.oth,next:=σ.next + 2}
def cellsOf:List D→List Cell
 | []=>[]
 | d :: r=>d.cells.map Cell.of ++ cellsOf r
def rowOf (z:List D):Nat→List Cell
 | 0=>[]
 | n + 1=>z.map Cell.of ++ rowOf z n
def zbr (σ:Store) (k:RowK) (by_:Nat) (x:D) (ys:List D):Option (D × Store) :=
 ifB (zau k.sz ys) (match x with
  | .nils=>ifB ys.isEmpty (some (.nils,σ)) (ifB (decide (ys.length * by_≤bound) && decide (ys.length≤bound)) (some (.arr k σ.next 0 ys.length,zav σ k (cellsOf ys))) none)
  | .empt=>ifB ys.isEmpty (some (.empt,σ)) (ifB (decide (ys.length * by_≤bound) && decide (ys.length≤bound)) (some (.arr k σ.next 0 ys.length,zav σ k (cellsOf ys))) none)
  | .arr k' id off n=>bindO (aget σ.objs id) fun cs=>bindO (aget σ.tys id) fun ty =>
   ifB (k'.same k && ty.t == k.el && ty.sz == k.sz && off == 0 && decide (n * k.sz≤cs.length) && decide ((n + ys.length) * by_≤bound) && decide (n + ys.length≤bound))
    (some (.arr k σ.next 0 (n + ys.length),zav {σ with objs:=adel1 σ.objs id} k ((cs.take (n * k.sz)).map (fun c=>Cell.of c.d) ++ cellsOf ys))) none
  | _=>none) none
def zvx (σ:Store) (sz:Nat) (x:D) (ys:List D):Option (Nat × Store):=match x with
 | .nils=>some (0,σ)
 | .empt=>some (0,σ)
 | .arr k id off len=>bindO (aget σ.objs id) fun cs=>ifB (k.sz == sz && zau sz ys && decide ((off + len) * sz≤cs.length))
   (some (min len ys.length,{σ with objs:=aset σ.objs id (zan cs (off * sz) (cellsOf (ys.take len)))})) none
 | _=>none
def zg2 (σ:Store) (sz:Nat) (z:List D) (x:D):Option Store:=match x with
 | .nils=>some σ
 | .empt=>some σ
 | .arr k id off len=>bindO (aget σ.objs id) fun cs=>ifB (k.sz == sz && z.length == sz && decide ((off + len) * sz≤cs.length))
   (some {σ with objs:=aset σ.objs id (zan cs (off * sz) (rowOf z len))}) none
 | _=>none
def hasM (b:Nat):List (D × D × Nat)→Bool
 | []=>false
 | (_,_,b') :: r=>ifB (b' == b) true (hasM b r)
/-! ### Freezing: arrays become lists -/
abbrev Objs:=List (Nat × List Cell)
def zdg (f:D→Objs→Option (D × Objs)):List D→Objs→Option (List D × Objs)
 | [],os=>some ([],os)
 | d :: r,os=>bindO (f d os) fun x=>bindO (zdg f r x.2) fun y=>some (x.1 :: y.1,y.2)
def zax:Nat→D→Objs→Option (D × Objs)
 | 0,_,_=>none
 | n + 1,d,os=>match d with
  | .arr k id off len=>bindO (aget os id) fun cs=>ifB ((k.ag || k.sz == 1) && decide ((off + len) * k.sz≤cs.length)) (bindO (zdg (zax n) (elems k cs off len) (adel1 os id)) fun r=>some (.list k r.1,r.2)) none
  | .agg ds=>bindO (zdg (zax n) ds os) fun r=>some (.agg r.1,r.2)
  | .tup ds=>bindO (zdg (zax n) ds os) fun r=>some (.tup r.1,r.2)
  | .iface t d=>bindO (zax n d os) fun r=>some (.iface t r.1,r.2)
  | d=>some (d,os)
def Cell.keeps (c:Cell):Bool:=match c.d with
 | .list _ _=>c.own
 | _=>false
def zcg:List Cell→Objs→Option (List Cell × Objs)
 | [],os=>some ([],os)
 | c :: r,os=>bindO (zax 40 c.d os) fun x=>bindO (zcg r x.2) fun y=>some (⟨c.keeps,x.1⟩ :: y.1,y.2)
def promS (L:List (Nat × (Nat × Nat))) (s id:Nat):List (Nat × (Nat × Nat))→List (Nat × Cell)→List (Nat × Cell)
 | [],sl=>sl
 | p :: r,sl=>promS L s id r (caseO (aget L p.1) sl fun q=>ifB (q.1 == s) (aset sl p.1 ⟨false,.ptr id q.2⟩) sl)
def zdf (t:FTgt) (e:Env) (σ:Store):Option (Env × Store):=match t with
 | .slot s=>bindO (aget e.slots s) fun c=>bindO (zax 40 c.d σ.objs) fun r=>some ({e with slots:=aset e.slots s ⟨c.keeps,r.1⟩},{σ with objs:=r.2})
 | .box b=>bindO (aget e.boxes b) fun cs=>bindO (zcg cs σ.objs) fun r=>some ({e with boxes:=aset e.boxes b r.1},{σ with objs:=r.2})
 | .obj s=>bindO (aget e.slots s) fun p=>match p.d with
  | .ptr id 0=>bindO (aget σ.objs id) fun cs=>bindO (zcg cs (adel1 σ.objs id)) fun r=>some (e,{σ with objs:=aset r.2 id r.1})
  | _=>none
 | .promote s=>bindO (aget e.boxes s) fun cs=>bindO (aget e.locs s) fun p=>ifB (p.1 == s && p.2 == 0)
  (some ({e with slots:=promS e.locs s σ.next e.locs e.slots,locs:=lkill (adel1 e.locs s) s,boxes:=adel1 e.boxes s},{σ with objs:=(σ.next,cs.map fun c=>Cell.of c.d) :: σ.objs,tys:=adel1 σ.tys σ.next,next:=σ.next + 1})) none
def zbo:List FTgt→Env→Store→Option (Env × Store)
 | [],e,σ=>some (e,σ)
 | t :: r,e,σ=>bindO (zdf t e σ) fun x=>zbo r x.1 x.2
def idOf:D→Option Nat
 | .ptr id _=>some id
 | .arr _ id _ _=>some id
 | _=>none
def memOp (op:AOp) (e:Env) (σ:Store):Option (D × Store) :=
 match op with
 | .galloc t z=>some (.ptr σ.next 0,{objs:=(σ.next,z.map Cell.of) :: σ.objs,tys:=(σ.next,⟨t,0⟩) :: σ.tys,oth:=σ.oth,next:=σ.next + 1})
 | .gbox t x=>bindO (opd e x) fun c=>ifB c.d.ok (some (.ptr σ.next 0,{objs:=(σ.next,c.d.cells.map Cell.of) :: σ.objs,tys:=(σ.next,⟨t,0⟩) :: σ.tys,oth:=σ.oth,next:=σ.next + 1})) none
 | .storeP k x y=>bindO (addr e x) fun p=>bindO (opd e y) fun c=>match p with
  | .ptr id off=>bindO (aget σ.objs id) fun cs=>ifB (fits ⟨false,c.d⟩ k off cs) (some (.undef,{σ with objs:=aset σ.objs id (zan cs off (za7 ⟨false,c.d⟩))})) none
  | _=>none
 | .storeD q s k x y=>bindO (addr e x) fun p=>bindO (opd e y) fun c=>bindO (aget e.slots s) fun z=>bindO (idOf z.d) fun id'=>match p with
  | .ptr id off=>ifB ((id' == id) == q) (bindO (aget σ.objs id) fun cs=>ifB (fits ⟨false,c.d⟩ k off cs) (some (.undef,{σ with objs:=aset σ.objs id (zan cs off (za7 ⟨false,c.d⟩))})) none) none
  | _=>none
 | .makeA k by_ z len cap=>bindO (opd e len) fun l=>bindO l.d.nat? fun l=>bindO (opd e cap) fun c=>bindO c.d.nat? fun c =>
  ifB (l == c && decide (l * by_≤bound) && decide (l≤bound)) (some (.arr k σ.next 0 l,zav σ k (rowOf z l))) none
 | .buildA k parts=>bindO (opds e parts) fun ds=>ifB (zau k.sz ds && decide (ds.length * k.sz≤16777216)) (some (.arr k σ.next 0 ds.length,zav σ k (cellsOf ds))) none
 | .appendA k by_ x y=>bindO (opd e x) fun c=>bindO (opd e y) fun d=>bindO (listOf σ.objs d.d) fun ys=>zbr σ k by_ c.d ys
 | .appendW _ k by_ x y=>bindO (opd e x) fun c=>bindO (opd e y) fun d=>bindO (listOf σ.objs d.d) fun ys=>zbr σ k by_ c.d ys
 | .copyA sz x y=>bindO (opd e x) fun c=>bindO (opd e y) fun d=>bindO (listOf σ.objs d.d) fun ys=>bindO (zvx σ sz c.d ys) fun r=>some (.int .i64 r.1,r.2)
 | .clearA sz z x=>bindO (opd e x) fun c=>bindO (zg2 σ sz z c.d) fun σ'=>some (.tup [],σ')
 | .makeMap=>some (.map σ.next,{σ with oth:=(σ.next,.map [] 0) :: σ.oth,next:=σ.next + 1})
 | .update ks x i y=>bindO (opd e x) fun c=>bindO (opd e i) fun k=>bindO (opd e y) fun v=>bindO (mapAt σ.oth c.d) fun m=>ifB (keyD ks k.d && v.d.ok) (bindO (findM k.d m.2.1) fun r =>
   some (.undef,{σ with oth:=aset σ.oth m.1 (caseO r (.map (m.2.1 ++ [(k.d,v.d,m.2.2)]) (m.2.2 + 1)) fun p=>.map (m.2.1.set p.2.2 (k.d,v.d,p.2.1)) m.2.2)})) none
 | .delete ks x i=>bindO (opd e x) fun c=>bindO (opd e i) fun k=>bindO (mapAt σ.oth c.d) fun m=>ifB (keyD ks k.d) (bindO (findM k.d m.2.1) fun r =>
   some (.tup [],{σ with oth:=aset σ.oth m.1 (.map (caseO r m.2.1 fun p=>m.2.1.eraseIdx p.2.2) m.2.2)})) none
 | .entry ks z x i=>bindO (opd e x) fun c=>bindO (opd e i) fun k=>bindO (mapAt σ.oth c.d) fun m=>ifB (keyD ks k.d) (bindO (findM k.d m.2.1) fun r =>
   some (caseO r (.tup [z,.int .i64 m.2.2]) (fun p=>.tup [p.1,.int .i64 p.2.1]),{σ with oth:=aset σ.oth m.1 (caseO r (.map (m.2.1 ++ [(k.d,z,m.2.2)]) (m.2.2 + 1)) fun _=>.map m.2.1 m.2.2)})) none
 | .entryStore x s y=>bindO (opd e x) fun c=>bindO (opd e s) fun b=>bindO b.d.nat? fun b=>bindO (opd e y) fun v=>bindO (mapAt σ.oth c.d) fun m=>ifB (v.d.ok && hasM b m.2.1)
   (some (.undef,{σ with oth:=aset σ.oth m.1 (.map (setM b v.d m.2.1) m.2.2)})) none
 | _=>none
def memE (dst:Option Nat) (op:AOp) (e:Env) (σ:Store):Option (Env × Store):=bindO (memOp op e σ) fun r=>some (e.put dst ⟨false,r.1⟩,r.2)
def znx:D→Bool
 | .list k _=>!(k.el == 5)
 | _=>true
def takeO (k:Option Nat) (x:AOpd) (e:Env) (σ:Store):Option (Cell × Store):=bindO (addr e x) fun p=>match p with
 | .ptr id off=>bindO (aget σ.objs id) fun cs=>bindO (zar cs k off) fun c=>some (c,{σ with objs:=aset σ.objs id (zay cs off)})
 | _=>none
def zag (dst:Option Nat) (op:AOp) (e:Env) (σ:Store):Option (Env × Store) :=
 match op with
 | .alloc z=>bindO dst fun s=>some (e.box s (z.map Cell.of),σ)
 | .box x=>bindO dst fun s=>bindO (opd e x) fun c=>ifB c.d.ok (some (e.box s (c.d.cells.map Cell.of),σ)) none
 | .galloc t z=>memE dst (.galloc t z) e σ
 | .gbox t x=>memE dst (.gbox t x) e σ
 | .rangeS x=>bindO (opd e x) fun c=>bindO c.d.str? fun s=>some (e.put dst ⟨false,.ptr σ.next 0⟩,{σ with oth:=(σ.next,.it s 0) :: σ.oth,next:=σ.next + 1})
 | .rangeM x=>bindO (opd e x) fun c=>match c.d with
  | .map id=>bindO (aget σ.oth id) fun m=>match m with
   | .map _ clock=>some (e.put dst ⟨false,.ptr σ.next 0⟩,{σ with oth:=(σ.next,.mit id clock [] clock) :: σ.oth,next:=σ.next + 1})
   | _=>none
  | _=>none
 | .entryM x=>bindO (addr e x) fun p=>bindO (mitOf σ.oth p) fun q=>ifB (q.clock == q.stepped) (match q.seen with
  | []=>none
  | b :: _=>bindO (entAt b q.es) fun kv=>some (e.put dst ⟨false,.tup [kv.1,kv.2]⟩,σ)) none
 | .nextS x=>bindO (addr e x) fun p=>match p with
  | .ptr id 0=>bindO (aget σ.oth id) fun it=>match it with
   | .it s pos=>ifB (decide (pos < s.length))
    (some (e.put dst ⟨false,.tup [.bool true,.int .i64 pos,.int .i32 (Utf8.decode ⟨⟨s⟩⟩ pos).1]⟩,{σ with oth:=aset σ.oth id (.it s (pos + (Utf8.decode ⟨⟨s⟩⟩ pos).2))}))
    (some (e.put dst ⟨false,.tup [.bool false]⟩,σ))
   | _=>none
  | _=>none
 | .buildSlice sz parts=>bindO (opds e parts) fun ds =>
  ifB (zau sz.sz ds && decide (ds.length * sz.sz≤16777216)) (some (e.put dst ⟨true,.list sz ds⟩,σ)) none
 | .strToBytes k x=>bindO (opd e x) fun c=>bindO c.d.str? fun s=>ifB (decide (s.length≤bound)) (some (e.put dst ⟨false,.list k (zez s)⟩,σ)) none
 | .store k x y=>bindO (addr e x) fun p=>bindO (opd e y) fun c=>match p with
  | .loc b off=>bindO (aget e.boxes b) fun cs=>ifB (fits c k off cs)
    (some (Env.put {y.drop e with boxes:=aset e.boxes b (zan cs off (za7 c))} dst ⟨false,.undef⟩,σ)) none
  | .ptr id off=>bindO (aget σ.objs id) fun cs=>ifB (fits c k off cs)
    (some ((y.drop e).put dst ⟨false,.undef⟩,{σ with objs:=aset σ.objs id (zan cs off (za7 c))})) none
  | .eptr _=>none
 | .loadA k x=>bindO (addr e x) fun p=>match p with
  | .loc b 0=>bindO (aget e.boxes b) fun cs=>ifB (cs.length == k) (some (Env.put {e with boxes:=aset e.boxes b (unownF cs)} dst ⟨firstOwn cs,.agg (cs.map fun c=>c.d)⟩,σ)) none
  | _=>none
 | .storeA k x y=>bindO (addr e x) fun p=>bindO (opd e y) fun c=>match p with
  | .loc b 0=>bindO (aget e.boxes b) fun cs=>bindO c.d.agg? fun ds=>ifB (cs.length == k && ds.length == k) (some (Env.put {y.drop e with boxes:=aset e.boxes b (layA c.own ds)} dst ⟨false,.undef⟩,σ)) none
  | _=>none
 | .append sz by_ x y=>bindO (opd e x) fun c=>bindO (opd e y) fun d=>bindO (asList d.d) fun ys=>bindO (zbb sz by_ c ys) fun r=>some ((x.drop e).put dst r,σ)
 | .appendS k by_ x y=>bindO (opd e x) fun c=>bindO (opd e y) fun d=>bindO d.d.str? fun s=>bindO (zbb k by_ c (zez s)) fun r=>some ((x.drop e).put dst r,σ)
 | .slice3 sz x lo hi max=>bindO (opd e x) fun c=>bindO (optLo e lo) fun l=>bindO (opd e hi) fun h=>bindO h.d.nat? fun h=>bindO (opd e max) fun m=>bindO m.d.nat? fun m=>bindO (zle sz c.d l h m) fun d=>some (e.put dst ⟨true,d⟩,σ)
 | .loadO k x=>bindO (takeO k x e σ) fun r=>some (e.put dst r.1,r.2)
 | .sliceT sz x lo=>bindO (opd e x) fun c=>bindO (optLo e lo) fun l=>bindO (za2 sz c.d l none) fun d=>ifB (znx c.d) (some ((x.drop e).put dst ⟨c.own,d⟩,σ)) none
 | .storeP k x y=>memE dst (.storeP k x y) e σ
 | .storeD q s k x y=>memE dst (.storeD q s k x y) e σ
 | .allocN s z=>ifB (lfree e.locs s) (some (Env.putV {e with boxes:=aset e.boxes s (z.map Cell.of)} dst (.l s 0),σ)) none
 | .boxN s x=>bindO (opd e x) fun c=>ifB (lfree e.locs s && c.d.ok) (some (Env.putV {e with boxes:=aset e.boxes s (c.d.cells.map Cell.of)} dst (.l s 0),σ)) none
 | .storeB b k x y=>bindO (addr e x) fun p=>bindO (opd e y) fun c=>match p with
  | .loc b' off=>ifB (b' == b) (bindO (aget e.boxes b) fun cs=>ifB (fits c k off cs)
    (some (Env.put {y.drop e with boxes:=aset e.boxes b (zan cs off (za7 c))} dst ⟨false,.undef⟩,σ)) none) none
  | _=>none
 | .makeA k by_ z len cap=>memE dst (.makeA k by_ z len cap) e σ
 | .buildA k parts=>memE dst (.buildA k parts) e σ
 | .appendA k by_ x y=>memE dst (.appendA k by_ x y) e σ
 | .appendW ws k by_ x y=>memE dst (.appendW ws k by_ x y) e σ
 | .copyA sz x y=>memE dst (.copyA sz x y) e σ
 | .clearA sz z x=>memE dst (.clearA sz z x) e σ
 | .makeMap=>memE dst .makeMap e σ
 | .growZ k by_ z x n=>bindO (opd e x) fun c=>match c.d with
  | .nils=>bindO (opd e n) fun m=>match m.d with
   | .int .i64 (.ofNat m)=>ifB (decide (0 < m) && decide (m * by_≤bound) && decide (m≤bound)) (some (e.put dst ⟨false,.arr k σ.next 0 m⟩,zav σ k (rowOf z m))) none
   | _=>none
  | _=>none
 | .capZ x=>bindO (opd e x) fun c=>match c.d with
  | .nils=>some (e.put dst ⟨false,.int .i64 0⟩,σ)
  | _=>none
 | .cloneM x=>bindO (opd e x) fun c=>match c.d with
  | .iface t (.map id)=>bindO (aget σ.oth id) fun x=>match x with
   | .map es cl=>some (e.put dst ⟨false,.iface t (.map σ.next)⟩,{σ with oth:=(σ.next,.map es cl) :: σ.oth,next:=σ.next + 1})
   | _=>none
  | _=>none
 | .assertP t x=>bindO (opd e x) fun c=>match c.d with
  | .iface t' d=>ifB (t' == t) (some (e.put dst ⟨false,d⟩,σ)) none
  | _=>none
 | .update ks x i y=>memE dst (.update ks x i y) e σ
 | .delete ks x i=>memE dst (.delete ks x i) e σ
 | .entry ks z x i=>memE dst (.entry ks z x i) e σ
 | .entryStore x s y=>memE dst (.entryStore x s y) e σ
 | .deferv x args=>bindO (opd e x) fun c=>bindO c.d.fnF? fun f=>bindO (opds e args) fun as =>
  some (Env.put {e with defers:=(f.1,f.2.1 ++ as ++ f.2.2) :: e.defers} dst ⟨false,.undef⟩,σ)
 | op=>bindO (evalV op e σ) fun v=>some ((zbd op e).putV dst v,zbi op e σ)
abbrev CallF:=FuncId→List D→Store→Option (Out × Store)
def zg5:D→Bool
 | .undef=>true
 | _=>false
def zb4 (g:Option (Nat × Bool)) (e:Env):Option Bool :=
 match g with
 | none=>some true
 | some (s,want)=>bindO (aget e.slots s) fun c=>caseO c.d.bool? (ifB (zg5 c.d) (some false) none) fun b=>some (b == want)
inductive OpsOut where
 | normal (e:Env) (σ:Store)
 | panic (d:D) (e:Env) (σ:Store)
 deriving Inhabited
inductive Kind where
 | op
 | call
 | pure
 | panic
def zc8 (op:AOp) (e:Env):Option (FuncId × List D) :=
 match op with
 | .pcall f args=>bindO (opds e args) fun as=>some (f,as)
 | .call f args=>bindO (opds e args) fun as=>some (f,as)
 | .callv x args=>bindO (opd e x) fun c=>bindO c.d.fn? fun f=>bindO (opds e args) fun as=>some (f.1,f.2.1 ++ as ++ f.2.2)
 | .callW _ f args=>bindO (opds e args) fun as=>some (f,as)
 | .callvW _ x args=>bindO (opd e x) fun c=>bindO c.d.fn? fun f=>bindO (opds e args) fun as=>some (f.1,f.2.1 ++ as ++ f.2.2)
 | _=>none
def stableOf:AOp→Option (List Nat)
 | .callW ws _ _=>some ws
 | .callvW ws _ _=>some ws
 | .appendW ws _ _ _ _=>some ws
 | _=>none
mutual
def D.same:D→D→Bool
 | .undef,.undef=>true
 | .bool a,.bool b=>a == b
 | .int k a,.int k' b=>za1 k k' && a == b
 | .str a,.str b=>a == b
 | .nils,.nils=>true
 | .list k a,.list k' b=>k.el == k'.el && k.sz == k'.sz && k.ag == k'.ag && sameL a b
 | .agg a,.agg b=>sameL a b
 | .tup a,.tup b=>sameL a b
 | .nilp,.nilp=>true
 | .ptr a b,.ptr c d=>a == c && b == d
 | .eptr a,.eptr b=>D.same a b
 | .fn f a b,.fn g c d=>decide (f=g) && sameL a c && sameL b d
 | .nilfn,.nilfn=>true
 | .iface t a,.iface u b=>t == u && D.same a b
 | .niliface,.niliface=>true
 | .junk,.junk=>true
 | .arr k a b c,.arr k' a' b' c'=>k.el == k'.el && k.sz == k'.sz && k.ag == k'.ag && a == a' && b == b' && c == c'
 | .empt,.empt=>true
 | .map a,.map b=>a == b
 | .nilmap,.nilmap=>true
 | .yld a,.yld b=>a == b
 | _,_=>false
def sameL:List D→List D→Bool
 | [],[]=>true
 | a :: r,b :: s=>D.same a b && sameL r s
 | _,_=>false
end
def zf1:List Cell→List Cell→Bool
 | [],[]=>true
 | a :: r,b :: s=>a.own == b.own && D.same a.d b.d && zf1 r s
 | _,_=>false
def zgv:List (D × D × Nat)→List (D × D × Nat)→Bool
 | [],[]=>true
 | (a,b,c) :: r,(a',b',c') :: s=>D.same a a' && D.same b b' && c == c' && zgv r s
 | _,_=>false
def sameO:Option (List Cell)→Option (List Cell)→Bool
 | some a,some b=>zf1 a b
 | _,_=>false
def sameM:Option Oth→Option Oth→Bool
 | some (.map a c),some (.map b d)=>zgv a b && c == d
 | some (.it a c),some (.it b d)=>a == b && c == d
 | some (.mit a b c d),some (.mit a' b' c' d')=>a == a' && b == b' && c == c' && d == d'
 | some (.loop _),_=>true
 | some .dfr,_=>true
 | _,_=>false
def sameW (e:Env) (σ σ':Store) (s:Nat):Bool:=caseO (aget e.slots s) true fun c=>match c.d with
 | .ptr id _=>caseO (aget σ.objs id) true fun cs=>sameO (some cs) (aget σ'.objs id)
 | .map id=>caseO (aget σ.oth id) true fun x=>sameM (some x) (aget σ'.oth id)
 | _=>true
def stOK (b:Option (List Nat)) (e:Env) (σ σ':Store):Bool:=caseO b true fun ws=>ws.all (sameW e σ σ')
def AOp.kind:AOp→Kind
 | .call _ _=>.call
 | .pcall _ _=>.pure
 | .callv _ _=>.call
 | .callW _ _ _=>.call
 | .callvW _ _ _=>.call
 | .panic _=>.panic
 | _=>.op
def zhb (op:AOp) (e:Env):Option D :=
 match op with
 | .panic x=>bindO (opd e x) fun c=>match c.d with
  | .iface t d=>some (.iface t d)
  | _=>none
 | _=>none
mutual
def noPtr:D→Bool
 | .ptr _ _=>false
 | .arr _ _ _ _=>false
 | .map _=>false
 | .yld _=>false
 | .agg cs=>zaz cs
 | .tup ds=>zaz ds
 | .list _ es=>zaz es
 | .eptr d=>noPtr d
 | .fn _ a b=>zaz a && zaz b
 | .iface _ d=>noPtr d
 | _=>true
def zaz:List D→Bool
 | []=>true
 | d :: l=>noPtr d && zaz l
end
def pureC (C:CallF) (f:FuncId) (as:List D):Option Val:=ifB (zaz as) (bindO (C f as {objs:=[],tys:=[],oth:=[],next:=0}) fun r=>match r.1 with
 | .ret c=>ifB (noPtr c.d) (some (.c ⟨false,c.d⟩)) none
 | .panic _=>none) none
inductive Step where
 | next (e:Env) (σ:Store)
 | call (f:FuncId) (as:List D)
 | panic (d:D)
def stepOp (C:CallF) (o:AOper) (e:Env) (σ:Store):Option Step :=
 bindO (zb4 o.guard e) fun w=>ifB w
  (match o.op.kind with
   | .op=>bindO (zag o.dst o.op e σ) fun r=>some (.next r.1 r.2)
   | .call=>bindO (zc8 o.op e) fun r=>some (.call r.1 r.2)
   | .pure=>bindO (zc8 o.op e) fun r=>bindO (pureC C r.1 r.2) fun v=>some (.next (e.putV o.dst v) σ)
   | .panic=>bindO (zhb o.op e) fun d=>some (.panic d))
  (some (.next (e.put o.dst ⟨false,.undef⟩) σ))
def runOps (C:CallF):List AOper→Env→Store→Option OpsOut
 | [],e,σ=>some (.normal e σ)
 | o :: rest,e,σ=>bindO (stepOp C o e σ) fun s=>match s with
  | .next e' σ'=>ifB (stOK (stableOf o.op) e σ σ') (runOps C rest e' σ') none
  | .call f as=>bindO (C f as σ) fun r=>ifB (stOK (stableOf o.op) e σ r.2) (match r.1 with
   | .ret c=>runOps C rest (e.put o.dst c) r.2
   | .panic d=>some (.panic d e r.2)) none
  | .panic d=>some (.panic d e σ)
def clearEnv (e:Env) (clr:List Nat):Env:={e with slots:=adel e.slots clr,locs:=adel e.locs clr,boxes:=adel e.boxes clr}
def loopN (body:Env→Store→Option (AExit × Env × Store)):Nat→Env→Store→Option (AExit × Env × Store)
 | 0,_,_=>none
 | n + 1,e,σ=>match body e σ with
  | some (.normal,e',σ')=>loopN body n e' σ'
  | r=>r
def idsAt (e:Env):List Nat→List Nat
 | []=>[]
 | s :: r=>caseO (aget e.slots s) (idsAt e r) fun c=>match c.d with
  | .ptr id _=>id :: idsAt e r
  | .map id=>id :: idsAt e r
  | _=>idsAt e r
def zg4:List Nat→Store→Store
 | [],σ=>σ
 | id :: r,σ=>zg4 r {σ with objs:=adel1 σ.objs id,oth:=adel1 σ.oth id}
def finM (drop clr:List Nat) (x:AExit) (e:Env) (σ:Store):AExit × Env × Store:=(x,clearEnv e clr,zg4 drop σ)
def setM1 (e:Env) (nx more:Nat) (t:List D) (b:Bool):Env:=(e.put (some nx) ⟨false,.tup t⟩).put (some more) ⟨false,.bool b⟩
def stepM (q:MIt) (b:Nat) (σ:Store):Store:={σ with oth:=aset σ.oth q.id (.mit q.m q.since (b :: q.seen) q.clock)}
def goM (out:Nat) (drop clr:List Nat) (go:Env→Store→Option (AExit × Env × Store)):Option (AExit × Env × Store)→Option (AExit × Env × Store)
 | some (.normal,e,σ)=>go e σ
 | some (.exit i,e,σ)=>some (finM drop clr (ifB (i == out) .normal (.exit i)) e σ)
 | some (x,e,σ)=>some (finM drop clr x e σ)
 | none=>none
def sameX:AExit→AExit→Bool
 | .normal,.normal=>true
 | .exit a,.exit b=>a == b
 | .ret,.ret=>true
 | .panic a,.panic b=>D.same a b
 | .goto a,.goto b=>a == b
 | _,_=>false
def ze5 {α:Type} (f:α→α→Bool):List (Nat × α)→List (Nat × α)→Bool
 | [],[]=>true
 | (i,a) :: r,(k,b) :: s=>i == k && f a b && ze5 f r s
 | _,_=>false
def zqj (a b:Cell):Bool:=a.own == b.own && D.same a.d b.d
def zxw:Oth→Oth→Bool
 | .it a c,.it b d=>a == b && c == d
 | .map a c,.map b d=>zgv a b && c == d
 | .dfr,.dfr=>true
 | .mit a b c d,.mit a' b' c' d'=>a == a' && b == b' && c == c' && d == d'
 | _,_=>false
def zld:Option (AExit × Env × Store)→AExit × Env × Store→Bool
 | some (x,e,σ),(x',e',σ')=>sameX x x' && ze5 zqj e.slots e'.slots && ze5 (fun a b=>a.1 == b.1 && a.2 == b.2) e.locs e'.locs && ze5 zf1 e.boxes e'.boxes && ze5 sameL e.defers e'.defers &&
   ze5 zf1 σ.objs σ'.objs && ze5 (fun a b=>a.t == b.t && a.sz == b.sz) σ.tys σ'.tys && ze5 zxw σ.oth σ'.oth && σ.next == σ'.next
 | none,_=>false
noncomputable def sameR (r:Option (AExit × Env × Store)) (a:AExit × Env × Store):Bool:=ifB (zld r a) true (@decide (r=some a) (Classical.propDecidable _))
noncomputable def allR (f:D × D × Nat→Option (AExit × Env × Store)) (a:AExit × Env × Store):List (D × D × Nat)→Bool
 | []=>true
 | x :: r=>sameR (f x) a && allR f a r
noncomputable def rangeN (B:Env→Store→Option (AExit × Env × Store)) (it nx more out:Nat) (drop clr:List Nat):Nat→Env→Store→Option (AExit × Env × Store)
 | 0,_,_=>none
 | n + 1,e,σ=>bindO (addr e (.tmp it)) fun p=>bindO (mitOf σ.oth p) fun q=>ifB (oldM q.since q.es && Nat.ble q.since q.stepped) (match leftM q.seen q.es with
  | []=>some (finM drop clr .normal (setM1 e nx more [.bool false] false) σ)
  | x :: r=>bindO (goM out drop clr (rangeN B it nx more out drop clr n) (B (setM1 e nx more [.bool true,x.1,x.2.1] true) (stepM q x.2.2 σ))) fun a =>
   ifB (allR (fun y=>goM out drop clr (rangeN B it nx more out drop clr n) (B (setM1 e nx more [.bool true,y.1,y.2.1] true) (stepM q y.2.2 σ))) a r) (some a) none) none
def snap:List (Nat × Cell)→List (Nat × Cell)
 | []=>[]
 | (s,c) :: r=>(s,⟨false,c.d⟩) :: snap r
def zhc:List Nat→List D→List (Nat × Cell)→List (Nat × Cell)
 | p :: ps,d :: ds,l=>zhc ps ds (aset l p ⟨false,d⟩)
 | _,_,l=>l
def zhv (σ:Store) (l:Nat):Option LRec:=bindO (aget σ.oth l) fun x=>match x with
 | .loop r=>some r
 | _=>none
def enterLoop (ro:Option Nat) (r:LRec) (e:Env) (σ:Store):Option (Nat × Env × Store) :=
 match ro with
 | none=>some (σ.next + 1,{e with defers:=(yldBase + σ.next,[]) :: e.defers},{σ with oth:=(σ.next + 1,.loop r) :: (σ.next,.dfr) :: σ.oth,next:=σ.next + 2})
 | some l=>bindO (zhv σ l) fun _=>some (σ.next,e,{σ with oth:=(σ.next,.loop r) :: σ.oth,next:=σ.next + 1})
def endLoop (l:Nat) (e:Env) (σ:Store):Option (AExit × Env × Store) :=
 bindO (zhv σ l) fun r=>match r.st with
  | .ready=>some (.normal,e,{σ with oth:=adel1 σ.oth l})
  | .done (.exit i)=>some (.exit i,e,{σ with oth:=adel1 σ.oth l})
  | .done .ret=>some (.ret,e,{σ with oth:=adel1 σ.oth l})
  | .busy=>none
  | .over=>none
def jumpN (l:Nat) (f:Env→Store→Option (AExit × Env × Store)):Nat→Option (AExit × Env × Store)→Option (AExit × Env × Store)
 | 0,r=>match r with
  | some (.goto _,_,_)=>none
  | r=>r
 | m + 1,r=>match r with
  | some (.goto l',e,σ)=>ifB (l' == l) (jumpN l f m (f e σ)) none
  | r=>r
noncomputable def exec (C:CallF) (n:Nat) (ro:Option Nat):ACode→Env→Store→Option (AExit × Env × Store)
 | .skip,e,σ=>some (.normal,e,σ)
 | .region ops perm clr,e,σ=>match runOps C ops e σ with
  | some (.normal e' σ')=>some (.normal,clearEnv e' clr,σ')
  | some (.panic d e' σ')=>some (.panic d,caseO perm e' (fun _=>e'.bare),σ')
  | none=>none
 | .seq a b,e,σ=>match exec C n ro a e σ with
  | some (.normal,e',σ')=>exec C n ro b e' σ'
  | r=>r
 | .cond c t f,e,σ=>bindO (opd e c) fun c=>bindO c.d.bool? fun b=>ifB b (exec C n ro t e σ) (exec C n ro f e σ)
 | .block id body,e,σ=>match exec C n ro body e σ with
  | some (.exit id',e',σ')=>ifB (id' == id) (some (.normal,e',σ')) (some (.exit id',e',σ'))
  | r=>r
 | .loop body,e,σ=>loopN (exec C n ro body) n e σ
 | .exit id,e,σ=>some (.exit id,e,σ)
 | .ret,e,σ=>some (.ret,e,σ)
 | .scope body,e,σ=>match exec C n ro body e σ with
  | some (.goto _,_,_)=>none
  | r=>r
 | .scopeJ l body rest,e,σ=>jumpN l (exec C n ro rest) n (exec C n ro body e σ)
 | .rangeM it nx more out drop clr body,e,σ=>rangeN (exec C n ro body) it nx more out (idsAt e drop) clr n e σ
 | .label _,e,σ=>some (.normal,e,σ)
 | .goto l,e,σ=>some (.goto l,e,σ)
 | .stuck,_,_=>none
 | .frz ts body,e,σ=>bindO (zbo ts e σ) fun x=>exec C n ro body x.1 x.2
 | .rangeF g ps assign body,e,σ=>bindO (opd e g) fun c=>bindO c.d.fnF? fun f =>
  bindO (enterLoop ro ⟨snap e.slots,ps,assign,body,.ready⟩ e σ) fun x=>bindO (C f.1 (f.2.1 ++ [.yld x.1] ++ f.2.2) x.2.2) fun o=>match o.1 with
   | .ret _=>endLoop x.1 x.2.1 o.2
   | .panic _=>none
def zdb:Nat→List D→List (Nat × Cell)
 | _,[]=>[]
 | i,d :: r=>(i,⟨false,d⟩) :: zdb (i + 1) r
def zch (args:List D):Env:={slots:=zdb 0 args,locs:=[],boxes:=[],defers:=[]}
abbrev RecF:=FuncId→List D→Option D→Store→Option (Option D × Store)
def runDefers (R:RecF) (C:CallF):Option D→List (FuncId × List D)→Store→Option (Option D × Store)
 | m,[],σ=>some (m,σ)
 | m,(f,as) :: r,σ=>ifB (isY f) (bindO (aget σ.oth (f - yldBase)) fun x=>match x with
  | .dfr=>runDefers R C m r {σ with oth:=adel1 σ.oth (f - yldBase)}
  | _=>none) (match R f as m σ with
  | some x=>runDefers R C x.1 r x.2
  | none=>bindO (C f as σ) fun o=>match o.1 with
   | .ret _=>runDefers R C m r o.2
   | .panic _=>none)
def zcv (e:Env) (σ:Store):ARes→Option Cell
 | .tmp s=>aget e.slots s
 | .cell s k=>bindO (addr e (.tmp s)) fun p=>match p with
  | .loc b off=>bindO (aget e.boxes b) fun cs=>zar cs k off
  | .ptr id off=>bindO (aget σ.objs id) fun cs=>bindO (zar cs k off) fun c=>some ⟨false,c.d⟩
  | .eptr _=>none
 | .cellA s k=>bindO (addr e (.tmp s)) fun p=>match p with
  | .loc b 0=>bindO (aget e.boxes b) fun cs=>ifB (cs.length == k) (some ⟨firstOwn cs,.agg (cs.map fun c=>c.d)⟩) none
  | _=>none
def zck (e:Env) (σ:Store):List ARes→Option (List D)
 | []=>some []
 | r :: l=>bindO (zcv e σ r) fun c=>bindO (zck e σ l) fun ds=>some (c.d :: ds)
def readRes (e:Env) (σ:Store):List ARes→Option Cell
 | [r]=>zcv e σ r
 | l=>bindO (zck e σ l) fun ds=>some ⟨false,.tup ds⟩
def Store.trunc (σ:Store) (m:Nat):Store:={objs:=σ.objs.filter fun p=>p.1 < m,tys:=σ.tys.filter fun p=>p.1 < m,oth:=σ.oth.filter fun p=>p.1 < m,next:=σ.next}
def ze1 (R:RecF) (C:CallF) (quiet:Bool) (af:AFun) (m:Nat):AExit × Env × Store→Option (Out × Store)
 | (x,e,σ)=>ifB (quiet && !e.defers.isEmpty) none (match x with
  | .normal | .ret=>bindO (runDefers R C none e.defers σ) fun r=>match r.1 with
   | none=>bindO (readRes e r.2 af.res) fun c=>some (.ret c,ifB af.gc (r.2.trunc m) r.2)
   | some _=>none
  | .panic d=>bindO (runDefers R C (some d) e.defers σ) fun r=>match r.1 with
   | none=>bindO (readRes e r.2 af.res) fun c=>some (.ret c,ifB af.gc (r.2.trunc m) r.2)
   | some d'=>some (.panic d',ifB af.gc (r.2.trunc m) r.2)
  | .exit _=>none
  | .goto _=>none)
def zgm (σ:Store) (l:Nat) (r:LRec) (s:LSt):Store:={σ with oth:=aset σ.oth l (.loop {r with st:=s})}
def LSt.isReady:LSt→Bool
 | .ready=>true
 | _=>false
def zxt (C:CallF) (n l:Nat):Option (AExit × Env × Store)→Option (Out × Store)
 | some (x,_,σ)=>bindO (zhv σ l) fun r=>match x with
  | .normal=>some (.ret ⟨false,.bool true⟩,zgm σ l r .ready)
  | .exit i=>some (.ret ⟨false,.bool false⟩,zgm σ l r (.done (.exit i)))
  | .ret=>some (.ret ⟨false,.bool false⟩,zgm σ l r (.done .ret))
  | .panic _=>none
  | .goto _=>none
 | none=>none
noncomputable def zxs (C:CallF) (n l:Nat) (body:ACode):Option (AExit × Env × Store)→Option (Out × Store)
 | some (.normal,e,σ)=>bindO (zhv σ l) fun r=>ifB r.st.isReady (zxt C n l (exec C n (some l) body e (zgm σ l r .busy))) none
 | _=>none
noncomputable def runY (C:CallF) (n l:Nat) (args:List D) (σ:Store):Option (Out × Store) :=
 bindO (zhv σ l) fun r=>ifB (args.length == r.params.length && r.st.isReady)
  (zxs C n l r.body (exec C n (some l) r.assign {slots:=zhc r.params args r.slots,locs:=[],boxes:=[],defers:=[]} σ)) none
section
variable (Γ:FuncId→Option AFun) (R:RecF) (X:CallF)
noncomputable def runQ:Nat→Bool→CallF
 | 0,_,_,_,_=>none
 | n + 1,quiet,f,args,σ=>match Γ f with
  | some af=>ifB (args.length == af.nargs)
    (match exec (runQ n false) n none af.body (zch args) σ with
     | some r=>ze1 R (runQ n true) quiet af σ.next r
     | none=>none) none
  | none=>ifB quiet none (ifB (isY f) (runY (runQ n false) n (f - yldBase) args σ) (X f args σ))
noncomputable abbrev run (n:Nat):CallF:=runQ Γ R X n false
end
/-! ### Short words for operations -/
def mt (s t:Nat):AOper:=⟨some s,.mov (.tmp t),none⟩
def mw (s t:Nat):AOper:=⟨some s,.mov (.mv t),none⟩
def mo (s:Nat) (x:AOp):AOper:=⟨some s,x,none⟩
end Go.Mx
