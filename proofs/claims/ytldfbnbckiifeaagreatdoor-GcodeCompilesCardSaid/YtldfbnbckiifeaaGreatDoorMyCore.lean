/- A part of the proof. -/
import GoSem.Core.Code
import GoSem.Core.View
import GoSem.Op.String
import GoSem.Core.Utf8
set_option linter.all false
namespace Go
def aA:=@Option.some.injEq
def aB:=@And.intro
def aC:=@Bool.and_eq_true
def aE:=@Bool.false_eq_true
def aF:=@List.length_append
def aG:=@List.length_cons
def aH:=@List.length_nil
def aI:=@List.mem_cons_of_mem
def aJ:=@List.length_map
def aK:=@List.not_mem_nil
def aL:=@List.cons.injEq
def aM:=@Nat.le_refl
def aN:=@Nat.zero_add
def aO:=@List.map_cons
def aP:=@Nat.lt_of_lt_of_le
def aQ:=@List.mem_cons_self
def aR:=@List.length_eq_zero_iff
def aS:=@List.mem_cons
def aT:=@Option.isSome_iff_exists
def aU:=@List.map_append
def aV:=@List.take_length
def aW:=@List.cons_append
def aX:=@List.getElem_mem
def aY:=@Bool.and_self
def aZ:=@List.map_nil
def bE:=@List.flatMap_cons
def bF:=@List.mem_map
def bG:=@List.nil_append
def bH:=@List.mem_of_mem_take
def bI:=@List.length_take
def bJ:=@List.mem_append
def bL:=@List.eq_nil_of_length_eq_zero
def bM:=@List.all_eq_true
def bN:=@Option.map_some
def bP:=@List.mem_singleton
def bQ:=@List.append_nil
def bR:=@List.append_assoc
def bS:=@List.getElem_append_left
def bT:=@List.getElem_append_right
def bU:=@List.drop_eq_getElem_cons
def bV:=@List.length_reverse
def bW:=@beq_self_eq_true
def bX:=@Bool.true_and
def bY:=@Bool.false_or
def bZ:=@Bool.not_true
def cC:=@Bool.not_false
def cD:=@List.map_map
def cE:=@decide_eq_true_eq
end Go
namespace Go.Mx
open Go
structure RowK where
 el:Nat
 sz:Nat
 ag:Bool
 deriving Inhabited
def RowK.same(a b:RowK):Bool:=a.el==b.el&&a.sz==b.sz
inductive D where
 |undef
 |bool (b:Bool)
 |int (k:IntKind) (n:Int)
 |str (s:List UInt8)
 |dN
 |list (k:RowK) (es:List D)
 |agg (cs:List D)
 |fN (ds:List D)
 |rR
 |ptr (id off:Nat)
 |gC (d:D)
 |fn (f:Fn) (first nS:List D)
 |tP
 |iface (t:TypeId) (d:D)
 |rY
 |Md
  |arr (k:RowK) (id off len:Nat)
  |mV
 |map (id:Nat)
 |lH
  |sT (id:Nat)
 deriving Inhabited
structure Cell where
 own:Bool
 d:D
 deriving Inhabited
def iW{α β:Type}(x:Option α)(n:β)(f:α->β):β:=match x with
 |none=>n
 |some a=>f a
def dK{β:Type}(b:Bool)(x y:β):β:=match b with
 |true=>x
 |false=>y
theorem qK{α β:Type}(n:β)(f:α->β):iW none n f=n:=rfl
theorem eP{α β:Type}(a:α)(n:β)(f:α->β):iW (some a) n f=f a:=rfl
theorem dQ{β:Type}(x y:β):dK true x y=x:=rfl
theorem dX{β:Type}(x y:β):dK false x y=y:=rfl
@[congr] theorem zn5b{α β:Type}{x y:Option α}(n:β)(f:α->β)(h:x=y):iW x n f=iW y n f:=by rw[h]
@[congr] theorem zodb{β:Type}{a b:Bool}(x y:β)(h:a=b):dK a x y=dK b x y:=by rw[h]
abbrev dH{α β:Type}(x:Option α)(f:α->Option β):Option β:=iW x none f
def dC{α:Type}:List (Nat×α)->Nat->Option α
 |[],_=>none
 |(k,v)::r,s=>dK (k==s) (some v) (dC r s)
def pX{α:Type}:List α->Nat->Option α
 |[],_=>none
 |x::_,0=>some x
 |_::l,n+1=>pX l n
def fF{α:Type}:List (Nat×α)->Nat->α->List (Nat×α)
 |[],s,x=>[(s,x)]
 |(k,v)::r,s,x=>dK (k==s) ((k,x)::r) (dK (Nat.ble s k) ((s,x)::(k,v)::r) ((k,v)::fF r s x))
def Zc:List Nat->Nat->Bool
 |[],_=>false
 |x::l,k=>dK (x==k) true (Zc l k)
def Dc{α:Type}:List (Nat×α)->List Nat->List (Nat×α)
 |[],_=>[]
 |(k,v)::r,l=>dK (Zc l k) (Dc r l) ((k,v)::Dc r l)
def gI{α:Type}:List (Nat×α)->Nat->List (Nat×α)
 |[],_=>[]
 |(k,v)::r,s=>dK (k==s) (gI r s) ((k,v)::gI r s)
def xR:List (Nat×(Nat×Nat))->Nat->List (Nat×(Nat×Nat))
 |[],_=>[]
 |(k,(b,o))::r,s=>dK (b==s) (gI (xR r s) k) ((k,(b,o))::xR r s)
def rE(l:List (Nat×(Nat×Nat)))(s:Nat):Bool:=iW (dC l s) (l.all fun p=>iW (dC l p.1) true fun q=>!(q.1==s)) fun _=>false
structure Env where
 slots:List (Nat×Cell)
 dR:List (Nat×(Nat×Nat))
 boxes:List (Nat×List Cell)
 defers:List (FuncId×List D)
 deriving Inhabited
def Env.bare(e:Env):Env:={slots:=[],dR:=[],boxes:=[],defers:=e.defers}
structure Ty where
 t:Nat
 sz:Nat
 deriving Inhabited
inductive dS where
 |tmp (s:Nat)
 |mv (s:Nat)
 |const (d:D)
 deriving Inhabited
inductive iR where
 |dO (x:dS)
 |pick (c a b:dS)
 |alloc (z:List D)
 |box (x:dS)
 |pM (t:Nat) (z:List D)
 |mF (t:Nat) (x:dS)
 |PI (x:dS)
 |TU (x:dS)
 |build (z:List D) (parts:List (Nat×Nat×dS))
 |buildSlice (k:RowK) (parts:List dS)
 |load (k:Option Nat) (mv:Bool) (x:dS)
 |sC (k:Option Nat) (mv:Bool) (x:dS)
 |store (k:Nat) (x y:dS)
 |SL (k:Nat) (x:dS)
 |PN (k:Nat) (x y:dS)
 |nilCheck (x:dS)
 |bin (op:BinOp) (x y:dS)
 |JD (op:BinOp) (x y:dS)
 |un (op:UnOp) (x:dS)
 |toInt (k:IntKind) (x:dS)
 |toStr (x:dS)
 |EJ (x:dS)
 |l6 (x:dS)
 |MI (k:RowK) (x:dS)
 |Jy (t:TypeId) (x:dS)
 |nL (fn:Fn) (first nS:List dS)
 |slice (sz:Nat) (x:dS) (lo hi:Option dS)
 |EZ (x:dS) (lo hi:Option dS)
 |fieldAddr (off:Nat) (k:Option Nat) (x:dS)
 |field (off:Nat) (k:Option Nat) (x:dS)
 |indexAddr (sz:Nat) (x i:dS)
 |index (x i:dS)
 |extract (x:dS) (i:Nat)
 |len (x:dS)
 |Y3 (x:dS)
 |append (k:RowK) (fG:Nat) (x y:dS)
 |Bh (k:RowK) (fG:Nat) (x y:dS)
 |isNil (op:BinOp) (x:dS)
 |ES (op:BinOp) (x:dS)
 |DN (t:Nat) (z:D) (x:dS)
 |zG (op:BinOp) (x:dS)
 |G7 (op:BinOp) (x:dS)
 |slice3 (sz:Nat) (x:dS) (lo:Option dS) (hi max:dS)
 |nM (k:Nat) (x y:dS)
 |rZ (s:Nat) (z:List D)
 |yC (s:Nat) (x:dS)
 |fY (b:Nat) (k:Option Nat) (x:dS)
 |GR (k:Option Nat) (x:dS)
 |jB (k:Option Nat) (x:dS)
 |iT (k:Option Nat) (x:dS)
 |lI (b k:Nat) (x y:dS)
 |nD (ws:List Nat) (f:FuncId) (args:List dS)
 |Kp (ws:List Nat) (x:dS) (args:List dS)
 |mm (mx:Bool) (x y:dS)
 |LX (n sz:Nat) (x i:dS)
 |jr (n sz:Nat) (x i:dS)
 |Yy (op:BinOp) (ks:List Nat) (x y:dS)
 |Ho (k:RowK) (fG:Nat) (z:List D) (len cap:dS)
 |vW (k:RowK) (parts:List dS)
 |qN (k:RowK) (fG:Nat) (x y:dS)
 |Bi (ws:List Nat) (k:RowK) (fG:Nat) (x y:dS)
 |Kz (sz:Nat) (x y:dS)
 |He (sz:Nat) (z:List D) (x:dS)
 |makeMap
 |EN (x:dS)
 |GK (k:RowK) (fG:Nat) (z:List D) (x n:dS)
 |X6 (x:dS)
 |DL (t:Nat) (x:dS)
 |lookup (ks:Bool) (z:D) (ok:Bool) (x i:dS)
 |update (ks:Bool) (x i y:dS)
 |Ti (x:dS)
 |delete (ks:Bool) (x i:dS)
 |entry (ks:Bool) (z:D) (x i:dS)
 |entryStore (x s y:dS)
 |call (f:FuncId) (args:List dS)
 |nE (x:dS) (args:List dS)
 |EP (x:dS) (args:List dS)
 |panic (x:dS)
 deriving Inhabited
structure iC where
 dst:Option Nat
 op:iR
 guard:Option (Nat×Bool)
 deriving Inhabited
inductive X4 where
 |slot (s:Nat)
 |box (b:Nat)
 |obj (s:Nat)
  |zg5 (s:Nat)
 deriving Inhabited
inductive eR where
 |skip
 |region (ops:List iC) (draw:Option (List Nat)) (vR:List Nat)
 |seq (a b:eR)
 |cond (c:dS) (t e:eR)
 |block (id:Nat) (body:eR)
 |loop (body:eR)
 |exit (id:Nat)
 |ret
 |scope (body:eR)
 |stuck
 |Dw (ts:List X4) (body:eR)
 |H5 (g:dS) (ps:List Nat) (assign body:eR)
 |label (l:Nat)
 |goto (l:Nat)
 |ll (l:Nat) (body rest:eR)
 deriving Inhabited
inductive zij where
 |exit (id:Nat)
 |ret
 deriving Inhabited
inductive Dq where
 |ready
 |busy
 |done (x:zij)
 |over
 deriving Inhabited
structure Rw where
 slots:List (Nat×Cell)
 params:List Nat
 assign:eR
 body:eR
 st:Dq
 deriving Inhabited
inductive rJ where
 |it (s:List UInt8) (pos:Nat)
 |map (es:List (D×D×Nat)) (clock:Nat)
 |loop (r:Rw)
 |yP
 deriving Inhabited
structure Store where
 dE:List (Nat×List Cell)
 fH:List (Nat×Ty)
 dP:List (Nat×rJ)
 next:Nat
 deriving Inhabited
inductive Lj where
 |tmp (s:Nat)
 |cell (s:Nat) (k:Option Nat)
 |SC (s:Nat) (k:Nat)
 deriving Inhabited
structure dZ where
 nargs:Nat
 ntmps:Nat
 res:List Lj
 body:eR
 gc:Bool
 deriving Inhabited
inductive rO where
 |normal
 |exit (id:Nat)
 |ret
 |panic (d:D)
 |goto (l:Nat)
 deriving Inhabited
inductive Out where
 |ret (c:Cell)
 |panic (d:D)
 deriving Inhabited
def D.cells:D->List D
 |.agg cs=>cs
 |d=>[d]
def D.one:D->Bool
 |.agg _=>false
 |.undef=>false
 |.fN _=>false
 |.Md=>false
 |_=>true
def D.ok:D->Bool
 |.undef=>false
 |.fN _=>false
 |.Md=>false
 |_=>true
def D.bool?:D->Option Bool
 |.bool b=>some b
 |_=>none
def D.int?:D->Option (IntKind×Int)
 |.int k n=>some (k,n)
 |_=>none
def D.nat?:D->Option Nat
 |.int _ n=>dK (decide (0<=n)) (some n.toNat) none
 |_=>none
def D.wR:D->Option (List UInt8)
 |.str s=>some s
 |_=>none
def D.uw:D->Option (List D)
 |.fN ds=>some ds
 |_=>none
def oV:Nat:=1099511627776
def jK(f:Nat):Bool:=Nat.ble oV f
def D.mA:D->Option (FuncId×List D×List D)
 |.fn (.func f) a b=>dK (jK f) none (some (f,a,b))
 |.sT id=>some (oV+id,[],[])
 |_=>none
def D.Di:D->Option (FuncId×List D×List D)
 |.fn (.func f) a b=>dK (jK f) none (some (f,a,b))
 |_=>none
def D.sE:D->Option (List D)
 |.agg cs=>some cs
 |_=>none
def D.row?:D->Option (RowK×List D)
 |.list sz es=>some (sz,es)
 |_=>none
def nK:D->Option (List D)
 |.dN=>some []
 |.mV=>some []
 |.list _ es=>some es
 |_=>none
def Hq(k:RowK)(ds:List D):D:=dK k.ag (.agg ds) (ds.headD .undef)
def xE(k:RowK):Nat->List D->List D
 |0,_=>[]
 |n+1,ds=>Hq k (ds.take k.sz)::xE k n (ds.drop k.sz)
def Hj(k:RowK)(cs:List Cell)(off len:Nat):List D:=xE k len ((cs.map fun c=>c.d).drop (off*k.sz))
def nB(os:List (Nat×List Cell)):D->Option (List D)
 |.arr k id off len=>dH (dC os id) fun cs=>dK ((k.ag||k.sz==1)&&decide ((off+len)*k.sz<=cs.length)) (some (Hj k cs off len)) none
 |d=>nK d
def lenOf:D->Option Nat
 |.dN=>some 0
 |.list _ es=>some es.length
 |.arr _ _ _ len=>some len
 |.mV=>some 0
 |_=>none
def gX(sz:RowK):List D->D
 |[]=>.dN
 |x::es=>.list sz (x::es)
def part(k:Option Nat)(cs:List D)(off:Nat):Option D :=
 match k with
 |none=>pX cs off
 |some n=>dK (decide (off+n<=cs.length)) (some (.agg ((cs.drop off).take n))) none
def Cell.of(d:D):Cell:=⟨false,d⟩
def eE(e:Env):dS->Option Cell
 |.tmp s=>dH (dC e.slots s) fun c=>some ⟨false,c.d⟩
 |.mv s=>dC e.slots s
 |.const d=>some ⟨false,d⟩
def oI(e:Env):List dS->Option (List D)
 |[]=>some []
 |x::l=>dH (eE e x) fun c=>dH (oI e l) fun ds=>some (c.d::ds)
def dS.drop(e:Env):dS->Env
 |.mv s=>iW (dC e.slots s) e fun c=>{e with slots:=fF e.slots s ⟨false,c.d⟩}
 |_=>e
inductive Ptr where
 |loc (b off:Nat)
 |ptr (id off:Nat)
 |gC (d:D)
 deriving Inhabited
def xU:D->Option Ptr
 |.ptr id off=>some (.ptr id off)
 |.gC d=>some (.gC d)
 |_=>none
def kL(e:Env):dS->Option Ptr
 |.tmp s=>iW (dC e.dR s) (dH (dC e.slots s) fun c=>xU c.d) fun p=>some (.loc p.1 p.2)
 |.mv s=>iW (dC e.dR s) (dH (dC e.slots s) fun c=>xU c.d) fun p=>some (.loc p.1 p.2)
 |.const d=>xU d
inductive Val where
 |c (c:Cell)
 |l (b off:Nat)
 deriving Inhabited
def putCells:List Cell->Nat->List Cell->List Cell
 |cs,_,[]=>cs
 |[],_,_=>[]
 |_::cs,0,x::new=>x::putCells cs 0 new
 |c::cs,n+1,new=>c::putCells cs n new
def wQ:List D->Nat->List D->List D
 |cs,_,[]=>cs
 |[],_,_=>[]
 |_::cs,0,x::new=>x::wQ cs 0 new
 |c::cs,n+1,new=>c::wQ cs n new
def Xt:List D->List (Nat×Nat×D)->Option (List D)
 |cs,[]=>some cs
 |cs,(off,n,d)::r=>dK (d.ok&&d.cells.length==n&&decide (off+n<=cs.length)) (Xt (wQ cs off d.cells) r) none
def Gz(e:Env):List (Nat×Nat×dS)->Option (List (Nat×Nat×D))
 |[]=>some []
 |(off,n,x)::r=>dH (eE e x) fun c=>dH (Gz e r) fun l=>some ((off,n,c.d)::l)
def jZ(sz:Nat):List D->Bool
 |[]=>true
 |d::r=>d.ok&&d.cells.length==sz&&jZ sz r
def pO:List Cell->Nat->Nat->Option (List D)
 |_,0,0=>some []
 |[],_,_=>none
 |c::cs,0,n+1=>dH (pO cs 0 n) fun l=>some (c.d::l)
 |_::cs,o+1,n=>pO cs o n
def oS(cs:List Cell)(k:Option Nat)(off:Nat):Option Cell :=
 match k with
 |none=>pX cs off
 |some n=>dH (pO cs off n) fun l=>some ⟨false,.agg l⟩
def qQ:List Cell->Nat->List Cell
 |[],_=>[]
 |c::cs,0=>⟨false,c.d⟩::cs
 |c::cs,n+1=>c::qQ cs n
def sG:List Cell->Bool
 |[]=>false
 |c::r=>match c.d with
  |.list _ _=>c.own
  |_=>sG r
def qA:List Cell->List Cell
 |[]=>[]
 |c::r=>match c.d with
  |.list _ _=>⟨false,c.d⟩::r
  |_=>c::qA r
def qD(o:Bool):List D->List Cell
 |[]=>[]
 |d::r=>match d with
  |.list _ _=>⟨o,d⟩::r.map Cell.of
  |_=>⟨false,d⟩::qD o r
def uO(op:BinOp)(k:IntKind)(a b:Int):Option D :=
 match op with
 |.add=>some (.int k (k.wrap (a+b)))
 |.sub=>some (.int k (k.wrap (a-b)))
 |.mul=>some (.int k (k.wrap (a*b)))
 |.quo=>dK (b==0) none (some (.int k (k.wrap (a.tdiv b))))
 |.rem=>dK (b==0) none (some (.int k (a.tmod b)))
 |.eql=>some (.bool (a==b))
 |.neq=>some (.bool (a != b))
 |.lss=>some (.bool (decide (a<b)))
 |.leq=>some (.bool (decide (a<=b)))
 |.gtr=>some (.bool (decide (a>b)))
 |.geq=>some (.bool (decide (a≥b)))
 |_=>none
def iN:Nat:=1099511627776
def Bq(op:BinOp)(a b:List UInt8):Option D :=
 match op with
 |.add=>dK (decide (a.length+b.length<=281474976710656)) (some (.str (a++b))) none
 |.eql=>some (.bool (a==b))
 |.neq=>some (.bool (!(a==b)))
 |.lss=>some (.bool (Op.bytesLess a b))
 |.leq=>some (.bool (Op.bytesLess a b||a==b))
 |.gtr=>some (.bool (!(Op.bytesLess a b||a==b)))
 |.geq=>some (.bool (!Op.bytesLess a b))
 |_=>none
def D7(op:BinOp)(a b:Bool):Option D :=
 match op with
 |.eql=>some (.bool (a==b))
 |.neq=>some (.bool (!(a==b)))
 |_=>none
def tH:IntKind->IntKind->Bool
 |.i8,.i8|.i16,.i16|.i32,.i32|.i64,.i64|.u8,.u8|.u16,.u16|.u32,.u32|.u64,.u64=>true
 |_,_=>false
def JE(op:BinOp):D->D->Option D
 |.int k a,.int k' b=>dK (tH k k') (uO op k a b) none
 |.str a,.str b=>Bq op a b
 |_,_=>none
def SB(op:BinOp):D->D->Option D
 |.bool a,.bool b=>D7 op a b
 |_,_=>none
def D.OZ:D->Option Bool
 |.rY=>some true
 |.iface _ _=>some false
 |_=>none
def D.EB:D->Option Bool
 |.rR=>some true
 |.ptr _ _=>some false
 |.gC _=>some false
 |_=>none
def Wg(t:Nat)(z:D):D->Option D
 |.iface t' d=>some (.fN [dK (t'==t) d z,.bool (t'==t)])
 |.rY=>some (.fN [z,.bool false])
 |_=>none
def zX(op:BinOp)(b:Bool):Option D:=match op with
 |.eql=>some (.bool b)
 |.neq=>some (.bool (!b))
 |_=>none
def Br:List UInt8->List D
 |[]=>[]
 |b::r=>.int .u8 b.toNat::Br r
def VS(mx:Bool):D->D->Option D
 |.int k a,.int k' b=>dK (tH k k') (some (.int k (dK mx (dK (decide (a<b)) b a) (dK (decide (b<a)) b a)))) none
 |_,_=>none
def AQ:UnOp->D->Option D
 |.not,.bool b=>some (.bool (!b))
 |.neg,.int k n=>some (.int k (k.wrap (0-n)))
 |_,_=>none
def xJ(sz:Nat)(x:D)(lo:Nat)(hi:Option Nat):Option D :=
 match x with
 |.dN=>dK (decide (lo<=hi.getD 0)&&decide (hi.getD 0<=0)) (some .dN) none
 |.list k es=>dK (decide (lo<=hi.getD es.length)&&decide (hi.getD es.length<=es.length)&&k.sz==sz) (some (.list k ((es.drop lo).take (hi.getD es.length-lo)))) none
 |.mV=>dK (decide (lo<=hi.getD 0)&&decide (hi.getD 0<=0)) (some .mV) none
 |.arr k id off len=>dK (decide (lo<=hi.getD len)&&decide (hi.getD len<=len)&&k.sz==sz) (some (.arr k id (off+lo) (hi.getD len-lo))) none
 |_=>none
def EL(sz:Nat)(x:D)(lo hi max:Nat):Option D :=
 dK (hi==max&&decide (lo<=hi)) (match x with
  |.dN=>dK (hi==0) (some .dN) none
  |.mV=>dK (hi==0) (some .mV) none
  |.list k es=>dK (decide (hi<=es.length)&&k.sz==sz&&!(k.el==5)) (some (dK (lo==hi) .mV (.list k ((es.drop lo).take (hi-lo))))) none
  |.arr _ _ _ len=>dK (decide (hi<=len)&&lo==hi) (some .mV) none
  |_=>none) none
def kU(sz:Nat)(x:D)(n:Nat):Option D:=match x with
 |.list k es=>dK (k.sz==sz) (dH (pX es n) fun d=>some (.gC d)) none
 |.arr k id off len=>dK (k.sz==sz&&decide (n<len)) (some (.ptr id ((off+n)*sz))) none
 |_=>none
def D.yV:D->Option Bool
 |.dN=>some true
 |.list _ (_::_)=>some false
 |.arr _ _ _ _=>some false
 |_=>none
def D.E8:D->Option Bool
 |.lH=>some true
 |.map _=>some false
 |_=>none
def IW:D->D->Option Bool
 |.int k a,.int k' b=>dK (tH k k') (some (a==b)) none
 |.str a,.str b=>some (a==b)
 |.bool a,.bool b=>some (a==b)
 |_,_=>none
def SK:Nat->D->Bool
 |0,.int .i64 _=>true
 |1,.str _=>true
 |2,.bool _=>true
 |_,_=>false
def zH:List Nat->List D->Bool
 |[],[]=>true
 |k::r,d::s=>SK k d&&zH r s
 |_,_=>false
def UA:D->D->Bool
 |.int _ a,.int _ b=>a==b
 |.str a,.str b=>a==b
 |.bool a,.bool b=>a==b
 |_,_=>false
def Qz:List D->List D->Bool
 |a::r,b::s=>UA a b&&Qz r s
 |_,_=>true
/-! ### Maps -/
def nQ(k:D):List (D×D×Nat)->Option (Option (D×Nat×Nat))
 |[]=>some none
 |(k',v,b)::r=>dH (IW k k') fun is=>dK is (some (some (v,b,0))) (dH (nQ k r) fun x=>some (iW x none fun p=>some (p.1,p.2.1,p.2.2+1)))
def Y7(b:Nat)(v:D):List (D×D×Nat)->List (D×D×Nat)
 |[]=>[]
 |(k,v',b')::r=>dK (b'==b) ((k,v,b')::r) ((k,v',b')::Y7 b v r)
def wJ(ks:Bool):D->Bool
 |.int _ _=>!ks
 |.str _=>ks
 |_=>false
def Cb(ot:List (Nat×rJ)):D->Option (List (D×D×Nat))
 |.lH=>some []
 |.map id=>dH (dC ot id) fun x=>match x with
  |.map es _=>some es
  |_=>none
 |_=>none
def xT(ot:List (Nat×rJ)):D->Option (Nat×List (D×D×Nat)×Nat)
 |.map id=>dH (dC ot id) fun x=>match x with
  |.map es c=>some (id,es,c)
  |_=>none
 |_=>none
def Jv:List D->Option (List UInt8)
 |[]=>some []
 |.int .u8 n::r=>dK (decide (0<=n)&&decide (n<256)) (dH (Jv r) fun s=>some (UInt8.ofNat n.toNat::s)) none
 |_::_=>none
def zfc(s:List UInt8)(lo:Nat)(hi:Option Nat):Option D :=
 dK (decide (lo<=hi.getD s.length)&&decide (hi.getD s.length<=s.length)) (some (.str ((s.drop lo).take (hi.getD s.length-lo)))) none
def zO(e:Env):Option dS->Option Nat
 |some l=>dH (eE e l) fun c=>c.d.nat?
 |none=>some 0
def Le(e:Env):Option dS->Option (Option Nat)
 |some h=>dH (eE e h) fun c=>dH c.d.nat? fun n=>some (some n)
 |none=>some none
def eQ(op:iR)(e:Env)(O:Store):Option Val :=
 match op with
 |.dO x=>dH (eE e x) fun c=>some (.c c)
 |.pick c a b=>dH (eE e c) fun c=>dH c.d.bool? fun t=>dH (dK t (eE e a) (eE e b)) fun c=>some (.c ⟨false,c.d⟩)
 |.build z parts=>dH (Gz e parts) fun ps=>dH (Xt z ps) fun cs=>some (.c ⟨false,.agg cs⟩)
 |.load k mv x=>dH (kL e x) fun p=>match p with
  |.loc b off=>dH (dC e.boxes b) fun cs=>dH (oS cs k off) fun c=>some (.c ⟨mv&&c.own,c.d⟩)
  |.ptr id off=>dH (dC O.dE id) fun cs=>dH (oS cs k off) fun c=>some (.c ⟨mv&&c.own,c.d⟩)
  |.gC d=>match k with
   |none=>dK d.one (some (.c ⟨false,d⟩)) none
   |some n=>dH d.sE fun cs=>dK (cs.length==n) (some (.c ⟨false,d⟩)) none
 |.sC k mv x=>dH (kL e x) fun p=>match p with
  |.loc b off=>dH (dC e.boxes b) fun cs=>dH (oS cs k off) fun c=>some (.c ⟨mv&&c.own,c.d⟩)
  |.ptr _ _=>none
  |.gC d=>match k with
   |none=>dK d.one (some (.c ⟨false,d⟩)) none
   |some n=>dH d.sE fun cs=>dK (cs.length==n) (some (.c ⟨false,d⟩)) none
 |.fY b k x=>dH (kL e x) fun p=>match p with
  |.loc b' off=>dK (b'==b) (dH (dC e.boxes b) fun cs=>dH (oS cs k off) fun c=>some (.c ⟨false,c.d⟩)) none
  |_=>none
 |.GR k x=>dH (kL e x) fun p=>match p with
  |.gC d=>match k with
   |none=>dK d.one (some (.c ⟨false,d⟩)) none
   |some n=>dH d.sE fun cs=>dK (cs.length==n) (some (.c ⟨false,d⟩)) none
  |_=>none
 |.iT k x=>dH (kL e x) fun p=>match p with
  |.loc _ _=>none
  |.ptr id off=>dH (dC O.dE id) fun cs=>dH (oS cs k off) fun c=>some (.c ⟨false,c.d⟩)
  |.gC d=>match k with
   |none=>dK d.one (some (.c ⟨false,d⟩)) none
   |some n=>dH d.sE fun cs=>dK (cs.length==n) (some (.c ⟨false,d⟩)) none
 |.jB k x=>dH (kL e x) fun p=>match p with
  |.ptr id off=>dH (dC O.dE id) fun cs=>dH (oS cs k off) fun c=>some (.c ⟨false,c.d⟩)
  |_=>none
 |.nilCheck x=>dH (kL e x) fun p=>match p with
  |.loc b off=>some (.l b off)
  |.ptr id off=>some (.c ⟨false,.ptr id off⟩)
  |.gC d=>some (.c ⟨false,.gC d⟩)
 |.bin op x y=>dH (eE e x) fun a=>dH (eE e y) fun b=>dH (JE op a.d b.d) fun d=>some (.c ⟨false,d⟩)
 |.JD op x y=>dH (eE e x) fun a=>dH (eE e y) fun b=>dH (SB op a.d b.d) fun d=>some (.c ⟨false,d⟩)
 |.un op x=>dH (eE e x) fun a=>dH (AQ op a.d) fun d=>some (.c ⟨false,d⟩)
 |.toInt k x=>dH (eE e x) fun a=>dH a.d.int? fun n=>some (.c ⟨false,.int k (k.wrap n.2)⟩)
 |.toStr x=>dH (eE e x) fun a=>dH a.d.wR fun s=>some (.c ⟨false,.str s⟩)
 |.EJ x=>dH (eE e x) fun a=>dH a.d.int? fun n=>some (.c ⟨false,.str (Utf8.encode n.2).data.toList⟩)
 |.l6 x=>dH (eE e x) fun c=>dH (nK c.d) fun es=>dH (Jv es) fun s=>some (.c ⟨false,.str s⟩)
 |.Jy t x=>dH (eE e x) fun c=>some (.c ⟨false,.iface t c.d⟩)
 |.nL fn first nS=>dH (oI e first) fun a=>dH (oI e nS) fun b=>some (.c ⟨false,.fn fn a b⟩)
 |.slice sz x lo hi=>dH (eE e x) fun c=>dH (zO e lo) fun l=>dH (Le e hi) fun h=>dH (xJ sz c.d l h) fun d=>some (.c ⟨false,d⟩)
 |.EZ x lo hi=>dH (eE e x) fun c=>dH c.d.wR fun s=>dH (zO e lo) fun l=>dH (Le e hi) fun h=>dH (zfc s l h) fun d=>some (.c ⟨false,d⟩)
 |.fieldAddr off k x=>dH (kL e x) fun p=>match p with
  |.loc b o=>some (.l b (o+off))
  |.ptr id o=>some (.c ⟨false,.ptr id (o+off)⟩)
  |.gC d=>dH d.sE fun cs=>dH (part k cs off) fun d=>some (.c ⟨false,.gC d⟩)
 |.field off k x=>dH (eE e x) fun c=>dH c.d.sE fun cs=>dH (part k cs off) fun d=>some (.c ⟨false,d⟩)
 |.indexAddr sz x i=>dH (eE e x) fun c=>dH (eE e i) fun i=>dH i.d.nat? fun n=>dH (kU sz c.d n) fun d=>some (.c ⟨false,d⟩)
 |.LX n sz x i=>dH (kL e x) fun p=>dH (eE e i) fun i=>dH i.d.nat? fun m=>dK (decide (m<n)) (match p with
  |.loc b o=>some (.l b (o+m*sz))
  |.ptr id o=>some (.c ⟨false,.ptr id (o+m*sz)⟩)
  |.gC _=>none) none
 |.jr n sz x i=>dH (eE e x) fun c=>dH c.d.sE fun cs=>dH (eE e i) fun i=>dH i.d.nat? fun m=>dK (decide (m<n)&&sz==1) (dH (pX cs m) fun d=>some (.c ⟨false,d⟩)) none
 |.Yy op ks x y=>dH (eE e x) fun a=>dH (eE e y) fun b=>dH a.d.sE fun az=>dH b.d.sE fun bs=>dK (zH ks az&&zH ks bs) (dH (zX op (Qz az bs)) fun d=>some (.c ⟨false,d⟩)) none
 |.zG op x=>dH (eE e x) fun c=>dH c.d.yV fun b=>dH (zX op b) fun d=>some (.c ⟨false,d⟩)
 |.G7 op x=>dH (eE e x) fun c=>dH c.d.E8 fun b=>dH (zX op b) fun d=>some (.c ⟨false,d⟩)
 |.lookup ks z ok x i=>dH (eE e x) fun c=>dH (eE e i) fun k=>dH (Cb O.dP c.d) fun es=>dK (wJ ks k.d) (dH (nQ k.d es) fun r=>some (.c ⟨false,iW r (dK ok (.fN [z,.bool false]) z) fun v=>dK ok (.fN [v.1,.bool true]) v.1⟩)) none
 |.Ti x=>dH (eE e x) fun c=>dH (Cb O.dP c.d) fun es=>some (.c ⟨false,.int .i64 es.length⟩)
 |.index x i=>dH (eE e x) fun c=>dH c.d.wR fun s=>dH (eE e i) fun i=>dH i.d.nat? fun n =>
  dH (pX s n) fun b=>some (.c ⟨false,.int .u8 b.toNat⟩)
 |.extract x i=>dH (eE e x) fun c=>dH c.d.uw fun ds=>dH (pX ds i) fun d=>some (.c ⟨false,d⟩)
 |.mm mx x y=>dH (eE e x) fun a=>dH (eE e y) fun b=>dH (VS mx a.d b.d) fun d=>some (.c ⟨false,d⟩)
 |.len x=>dH (eE e x) fun c=>dH (lenOf c.d) fun n=>some (.c ⟨false,.int .i64 n⟩)
 |.Y3 x=>dH (eE e x) fun c=>dH c.d.wR fun s=>some (.c ⟨false,.int .i64 s.length⟩)
 |.isNil op x=>dH (eE e x) fun c=>dH c.d.OZ fun b=>dH (zX op b) fun d=>some (.c ⟨false,d⟩)
 |.DN t z x=>dH (eE e x) fun c=>dH (Wg t z c.d) fun d=>some (.c ⟨false,d⟩)
 |.ES op x=>dH (eE e x) fun c=>dH c.d.EB fun b=>dH (zX op b) fun d=>some (.c ⟨false,d⟩)
 |_=>none
def sW(op:iR)(e:Env):Env :=
 match op with
 |.dO x=>x.drop e
 |.load _ true x=>iW (kL e x) e fun p=>match p with
  |.loc b off=>iW (dC e.boxes b) e fun cs=>{e with boxes:=fF e.boxes b (qQ cs off)}
  |_=>e
 |.sC _ true x=>iW (kL e x) e fun p=>match p with
  |.loc b off=>iW (dC e.boxes b) e fun cs=>{e with boxes:=fF e.boxes b (qQ cs off)}
  |_=>e
 |_=>e
def uE(op:iR)(e:Env)(O:Store):Store :=
 match op with
 |.load _ true x=>iW (kL e x) O fun p=>match p with
  |.ptr id off=>iW (dC O.dE id) O fun cs=>{O with dE:=fF O.dE id (qQ cs off)}
  |_=>O
 |_=>O
def Env.put(e:Env)(dst:Option Nat)(c:Cell):Env :=
 match dst with
 |some s=>{e with slots:=fF e.slots s c,dR:=gI e.dR s}
 |none=>e
def Env.pR(e:Env)(dst:Option Nat):Val->Env
 |.c c=>e.put dst c
 |.l b off=>match dst with
  |some s=>{e with slots:=gI e.slots s,dR:=fF e.dR s (b,off)}
  |none=>e
def Env.box(e:Env)(s:Nat)(cs:List Cell):Env :=
 {e with slots:=gI e.slots s,dR:=fF (xR e.dR s) s (s,0),boxes:=fF e.boxes s cs}
def Jq(sz:RowK)(x:Cell):Bool :=
 match x.d with
 |.dN=>true
 |.mV=>true
 |.list Zk _=>x.own&&Zk.same sz
 |_=>false
def xH(sz:RowK):D->List D->D
 |.dN,ys=>gX sz ys
 |.mV,[]=>.mV
 |.mV,y::ys=>.list sz (y::ys)
 |.list _ xs,ys=>.list sz (xs++ys)
 |d,_=>d
def lM(sz:RowK)(fG:Nat)(x:Cell)(ys:List D):Option Cell :=
 dH (nK x.d) fun xs =>
  dK (Jq sz x&&jZ sz.sz ys&&decide ((xs.length+ys.length)*fG<=iN)&&decide (xs.length+ys.length<=iN)) (some ⟨true,xH sz x.d ys⟩) none
def pK(c:Cell):List Cell:=dK c.d.one [c] (c.d.cells.map Cell.of)
def sM(c:Cell)(k off:Nat)(cs:List Cell):Bool:=c.d.ok&&c.d.cells.length==k&&decide (off+k<=cs.length)
def fR(O:Store)(k:RowK)(cs:List Cell):Store:={dE:=(O.next,cs)::O.dE,fH:=(O.next,⟨k.el,k.sz⟩)::O.fH,dP:=O.dP,next:=O.next+2}
def cellsOf:List D->List Cell
 |[]=>[]
 |d::r=>d.cells.map Cell.of++cellsOf r
def Ce(z:List D):Nat->List Cell
 |0=>[]
 |n+1=>z.map Cell.of++Ce z n
def lR(O:Store)(k:RowK)(fG:Nat)(x:D)(ys:List D):Option (D×Store) :=
 dK (jZ k.sz ys) (match x with
  |.dN=>dK ys.isEmpty (some (.dN,O)) (dK (decide (ys.length*fG<=iN)&&decide (ys.length<=iN)) (some (.arr k O.next 0 ys.length,fR O k (cellsOf ys))) none)
  |.mV=>dK ys.isEmpty (some (.mV,O)) (dK (decide (ys.length*fG<=iN)&&decide (ys.length<=iN)) (some (.arr k O.next 0 ys.length,fR O k (cellsOf ys))) none)
  |.arr k' id off n=>dH (dC O.dE id) fun cs=>dH (dC O.fH id) fun ty =>
   dK (k'.same k&&ty.t==k.el&&ty.sz==k.sz&&off==0&&decide (n*k.sz<=cs.length)&&decide ((n+ys.length)*fG<=iN)&&decide (n+ys.length<=iN))
    (some (.arr k O.next 0 (n+ys.length),fR {O with dE:=gI O.dE id} k ((cs.take (n*k.sz)).map (fun c=>Cell.of c.d)++cellsOf ys))) none
  |_=>none) none
def jf(O:Store)(sz:Nat)(x:D)(ys:List D):Option (Nat×Store):=match x with
 |.dN=>some (0,O)
 |.mV=>some (0,O)
 |.arr k id off len=>dH (dC O.dE id) fun cs=>dK (k.sz==sz&&jZ sz ys&&decide ((off+len)*sz<=cs.length))
   (some (min len ys.length,{O with dE:=fF O.dE id (putCells cs (off*sz) (cellsOf (ys.take len)))})) none
 |_=>none
def ax(O:Store)(sz:Nat)(z:List D)(x:D):Option Store:=match x with
 |.dN=>some O
 |.mV=>some O
 |.arr k id off len=>dH (dC O.dE id) fun cs=>dK (k.sz==sz&&z.length==sz&&decide ((off+len)*sz<=cs.length))
   (some {O with dE:=fF O.dE id (putCells cs (off*sz) (Ce z len))}) none
 |_=>none
def X9(b:Nat):List (D×D×Nat)->Bool
 |[]=>false
 |(_,_,b')::r=>dK (b'==b) true (X9 b r)
/-! ### Freezing: arrays become lists -/
abbrev mU:=List (Nat×List Cell)
def Gy(f:D->mU->Option (D×mU)):List D->mU->Option (List D×mU)
 |[],os=>some ([],os)
 |d::r,os=>dH (f d os) fun x=>dH (Gy f r x.2) fun y=>some (x.1::y.1,y.2)
def kR:Nat->D->mU->Option (D×mU)
 |0,_,_=>none
 |n+1,d,os=>match d with
  |.arr k id off len=>dH (dC os id) fun cs=>dK ((k.ag||k.sz==1)&&decide ((off+len)*k.sz<=cs.length)) (dH (Gy (kR n) (Hj k cs off len) (gI os id)) fun r=>some (.list k r.1,r.2)) none
  |.agg ds=>dH (Gy (kR n) ds os) fun r=>some (.agg r.1,r.2)
  |.fN ds=>dH (Gy (kR n) ds os) fun r=>some (.fN r.1,r.2)
  |.iface t d=>dH (kR n d os) fun r=>some (.iface t r.1,r.2)
  |d=>some (d,os)
def Cell.keeps(c:Cell):Bool:=match c.d with
 |.list _ _=>c.own
 |_=>false
def Bj:List Cell->mU->Option (List Cell×mU)
 |[],os=>some ([],os)
 |c::r,os=>dH (kR 40 c.d os) fun x=>dH (Bj r x.2) fun y=>some (⟨c.keeps,x.1⟩::y.1,y.2)
def uI(t:X4)(e:Env)(O:Store):Option (Env×Store):=match t with
 |.slot s=>dH (dC e.slots s) fun c=>dH (kR 40 c.d O.dE) fun r=>some ({e with slots:=fF e.slots s ⟨c.keeps,r.1⟩},{O with dE:=r.2})
 |.box b=>dH (dC e.boxes b) fun cs=>dH (Bj cs O.dE) fun r=>some ({e with boxes:=fF e.boxes b r.1},{O with dE:=r.2})
 |.obj s=>dH (dC e.slots s) fun p=>match p.d with
  |.ptr id 0=>dH (dC O.dE id) fun cs=>dH (Bj cs (gI O.dE id)) fun r=>some (e,{O with dE:=fF r.2 id r.1})
  |_=>none
 |.zg5 s=>dH (dC e.boxes s) fun cs=>dH (dC e.dR s) fun p=>dK (p.1==s&&p.2==0)
  (some ({e with slots:=fF e.slots s ⟨false,.ptr O.next 0⟩,dR:=xR (gI e.dR s) s,boxes:=gI e.boxes s},{O with dE:=(O.next,cs.map fun c=>Cell.of c.d)::O.dE,fH:=gI O.fH O.next,next:=O.next+1})) none
def tK:List X4->Env->Store->Option (Env×Store)
 |[],e,O=>some (e,O)
 |t::r,e,O=>dH (uI t e O) fun x=>tK r x.1 x.2
def mE(op:iR)(e:Env)(O:Store):Option (D×Store) :=
 match op with
 |.pM t z=>some (.ptr O.next 0,{dE:=(O.next,z.map Cell.of)::O.dE,fH:=(O.next,⟨t,0⟩)::O.fH,dP:=O.dP,next:=O.next+1})
 |.mF t x=>dH (eE e x) fun c=>dK c.d.ok (some (.ptr O.next 0,{dE:=(O.next,c.d.cells.map Cell.of)::O.dE,fH:=(O.next,⟨t,0⟩)::O.fH,dP:=O.dP,next:=O.next+1})) none
 |.nM k x y=>dH (kL e x) fun p=>dH (eE e y) fun c=>match p with
  |.ptr id off=>dH (dC O.dE id) fun cs=>dK (sM ⟨false,c.d⟩ k off cs) (some (.undef,{O with dE:=fF O.dE id (putCells cs off (pK ⟨false,c.d⟩))})) none
  |_=>none
 |.Ho k fG z len cap=>dH (eE e len) fun l=>dH l.d.nat? fun l=>dH (eE e cap) fun c=>dH c.d.nat? fun c =>
  dK (l==c&&decide (l*fG<=iN)&&decide (l<=iN)) (some (.arr k O.next 0 l,fR O k (Ce z l))) none
 |.vW k parts=>dH (oI e parts) fun ds=>dK (jZ k.sz ds&&decide (ds.length*k.sz<=16777216)) (some (.arr k O.next 0 ds.length,fR O k (cellsOf ds))) none
 |.qN k fG x y=>dH (eE e x) fun c=>dH (eE e y) fun d=>dH (nB O.dE d.d) fun ys=>lR O k fG c.d ys
 |.Bi _ k fG x y=>dH (eE e x) fun c=>dH (eE e y) fun d=>dH (nB O.dE d.d) fun ys=>lR O k fG c.d ys
 |.Kz sz x y=>dH (eE e x) fun c=>dH (eE e y) fun d=>dH (nB O.dE d.d) fun ys=>dH (jf O sz c.d ys) fun r=>some (.int .i64 r.1,r.2)
 |.He sz z x=>dH (eE e x) fun c=>dH (ax O sz z c.d) fun O'=>some (.fN [],O')
 |.makeMap=>some (.map O.next,{O with dP:=(O.next,.map [] 0)::O.dP,next:=O.next+1})
 |.update ks x i y=>dH (eE e x) fun c=>dH (eE e i) fun k=>dH (eE e y) fun v=>dH (xT O.dP c.d) fun m=>dK (wJ ks k.d&&v.d.ok) (dH (nQ k.d m.2.1) fun r =>
   some (.undef,{O with dP:=fF O.dP m.1 (iW r (.map (m.2.1++[(k.d,v.d,m.2.2)]) (m.2.2+1)) fun p=>.map (m.2.1.set p.2.2 (k.d,v.d,p.2.1)) m.2.2)})) none
 |.delete ks x i=>dH (eE e x) fun c=>dH (eE e i) fun k=>dH (xT O.dP c.d) fun m=>dK (wJ ks k.d) (dH (nQ k.d m.2.1) fun r =>
   some (.fN [],{O with dP:=fF O.dP m.1 (.map (iW r m.2.1 fun p=>m.2.1.eraseIdx p.2.2) m.2.2)})) none
 |.entry ks z x i=>dH (eE e x) fun c=>dH (eE e i) fun k=>dH (xT O.dP c.d) fun m=>dK (wJ ks k.d) (dH (nQ k.d m.2.1) fun r =>
   some (iW r (.fN [z,.int .i64 m.2.2]) (fun p=>.fN [p.1,.int .i64 p.2.1]),{O with dP:=fF O.dP m.1 (iW r (.map (m.2.1++[(k.d,z,m.2.2)]) (m.2.2+1)) fun _=>.map m.2.1 m.2.2)})) none
 |.entryStore x s y=>dH (eE e x) fun c=>dH (eE e s) fun b=>dH b.d.nat? fun b=>dH (eE e y) fun v=>dH (xT O.dP c.d) fun m=>dK (v.d.ok&&X9 b m.2.1)
   (some (.undef,{O with dP:=fF O.dP m.1 (.map (Y7 b v.d m.2.1) m.2.2)})) none
 |_=>none
def fP(dst:Option Nat)(op:iR)(e:Env)(O:Store):Option (Env×Store):=dH (mE op e O) fun r=>some (e.put dst ⟨false,r.1⟩,r.2)
def gR(dst:Option Nat)(op:iR)(e:Env)(O:Store):Option (Env×Store) :=
 match op with
 |.alloc z=>dH dst fun s=>some (e.box s (z.map Cell.of),O)
 |.box x=>dH dst fun s=>dH (eE e x) fun c=>dK c.d.ok (some (e.box s (c.d.cells.map Cell.of),O)) none
 |.pM t z=>fP dst (.pM t z) e O
 |.mF t x=>fP dst (.mF t x) e O
 |.PI x=>dH (eE e x) fun c=>dH c.d.wR fun s=>some (e.put dst ⟨false,.ptr O.next 0⟩,{O with dP:=(O.next,.it s 0)::O.dP,next:=O.next+1})
 |.TU x=>dH (kL e x) fun p=>match p with
  |.ptr id 0=>dH (dC O.dP id) fun it=>match it with
   |.it s pos=>dK (decide (pos<s.length))
    (some (e.put dst ⟨false,.fN [.bool true,.int .i64 pos,.int .i32 (Utf8.decode ⟨⟨s⟩⟩ pos).1]⟩,{O with dP:=fF O.dP id (.it s (pos+(Utf8.decode ⟨⟨s⟩⟩ pos).2))}))
    (some (e.put dst ⟨false,.fN [.bool false]⟩,O))
   |_=>none
  |_=>none
 |.buildSlice sz parts=>dH (oI e parts) fun ds =>
  dK (jZ sz.sz ds&&decide (ds.length*sz.sz<=16777216)) (some (e.put dst ⟨true,.list sz ds⟩,O)) none
 |.MI k x=>dH (eE e x) fun c=>dH c.d.wR fun s=>dK (decide (s.length<=iN)) (some (e.put dst ⟨false,.list k (Br s)⟩,O)) none
 |.store k x y=>dH (kL e x) fun p=>dH (eE e y) fun c=>match p with
  |.loc b off=>dH (dC e.boxes b) fun cs=>dK (sM c k off cs)
    (some (Env.put {y.drop e with boxes:=fF e.boxes b (putCells cs off (pK c))} dst ⟨false,.undef⟩,O)) none
  |.ptr id off=>dH (dC O.dE id) fun cs=>dK (sM c k off cs)
    (some ((y.drop e).put dst ⟨false,.undef⟩,{O with dE:=fF O.dE id (putCells cs off (pK c))})) none
  |.gC _=>none
 |.SL k x=>dH (kL e x) fun p=>match p with
  |.loc b 0=>dH (dC e.boxes b) fun cs=>dK (cs.length==k) (some (Env.put {e with boxes:=fF e.boxes b (qA cs)} dst ⟨sG cs,.agg (cs.map fun c=>c.d)⟩,O)) none
  |_=>none
 |.PN k x y=>dH (kL e x) fun p=>dH (eE e y) fun c=>match p with
  |.loc b 0=>dH (dC e.boxes b) fun cs=>dH c.d.sE fun ds=>dK (cs.length==k&&ds.length==k) (some (Env.put {y.drop e with boxes:=fF e.boxes b (qD c.own ds)} dst ⟨false,.undef⟩,O)) none
  |_=>none
 |.append sz fG x y=>dH (eE e x) fun c=>dH (eE e y) fun d=>dH (nK d.d) fun ys=>dH (lM sz fG c ys) fun r=>some ((x.drop e).put dst r,O)
 |.Bh k fG x y=>dH (eE e x) fun c=>dH (eE e y) fun d=>dH d.d.wR fun s=>dH (lM k fG c (Br s)) fun r=>some ((x.drop e).put dst r,O)
 |.slice3 sz x lo hi max=>dH (eE e x) fun c=>dH (zO e lo) fun l=>dH (eE e hi) fun h=>dH h.d.nat? fun h=>dH (eE e max) fun m=>dH m.d.nat? fun m=>dH (EL sz c.d l h m) fun d=>some (e.put dst ⟨true,d⟩,O)
 |.nM k x y=>fP dst (.nM k x y) e O
 |.rZ s z=>dK (rE e.dR s) (some (Env.pR {e with boxes:=fF e.boxes s (z.map Cell.of)} dst (.l s 0),O)) none
 |.yC s x=>dH (eE e x) fun c=>dK (rE e.dR s&&c.d.ok) (some (Env.pR {e with boxes:=fF e.boxes s (c.d.cells.map Cell.of)} dst (.l s 0),O)) none
 |.lI b k x y=>dH (kL e x) fun p=>dH (eE e y) fun c=>match p with
  |.loc b' off=>dK (b'==b) (dH (dC e.boxes b) fun cs=>dK (sM c k off cs)
    (some (Env.put {y.drop e with boxes:=fF e.boxes b (putCells cs off (pK c))} dst ⟨false,.undef⟩,O)) none) none
  |_=>none
 |.Ho k fG z len cap=>fP dst (.Ho k fG z len cap) e O
 |.vW k parts=>fP dst (.vW k parts) e O
 |.qN k fG x y=>fP dst (.qN k fG x y) e O
 |.Bi ws k fG x y=>fP dst (.Bi ws k fG x y) e O
 |.Kz sz x y=>fP dst (.Kz sz x y) e O
 |.He sz z x=>fP dst (.He sz z x) e O
 |.makeMap=>fP dst .makeMap e O
 |.GK k fG z x n=>dH (eE e x) fun c=>match c.d with
  |.dN=>dH (eE e n) fun m=>match m.d with
   |.int .i64 (.ofNat m)=>dK (decide (0<m)&&decide (m*fG<=iN)&&decide (m<=iN)) (some (e.put dst ⟨false,.arr k O.next 0 m⟩,fR O k (Ce z m))) none
   |_=>none
  |_=>none
 |.X6 x=>dH (eE e x) fun c=>match c.d with
  |.dN=>some (e.put dst ⟨false,.int .i64 0⟩,O)
  |_=>none
 |.EN x=>dH (eE e x) fun c=>match c.d with
  |.iface t (.map id)=>dH (dC O.dP id) fun x=>match x with
   |.map es cl=>some (e.put dst ⟨false,.iface t (.map O.next)⟩,{O with dP:=(O.next,.map es cl)::O.dP,next:=O.next+1})
   |_=>none
  |_=>none
 |.DL t x=>dH (eE e x) fun c=>match c.d with
  |.iface t' d=>dK (t'==t) (some (e.put dst ⟨false,d⟩,O)) none
  |_=>none
 |.update ks x i y=>fP dst (.update ks x i y) e O
 |.delete ks x i=>fP dst (.delete ks x i) e O
 |.entry ks z x i=>fP dst (.entry ks z x i) e O
 |.entryStore x s y=>fP dst (.entryStore x s y) e O
 |.EP x args=>dH (eE e x) fun c=>dH c.d.Di fun f=>dH (oI e args) fun az =>
  some (Env.put {e with defers:=(f.1,f.2.1++az++f.2.2)::e.defers} dst ⟨false,.undef⟩,O)
 |op=>dH (eQ op e O) fun v=>some ((sW op e).pR dst v,uE op e O)
abbrev eV:=FuncId->List D->Store->Option (Out×Store)
def OM:D->Bool
 |.undef=>true
 |_=>false
def Ee(g:Option (Nat×Bool))(e:Env):Option Bool :=
 match g with
 |none=>some true
 |some (s,want)=>dH (dC e.slots s) fun c=>iW c.d.bool? (dK (OM c.d) (some false) none) fun b=>some (b==want)
inductive uM where
 |normal (e:Env) (O:Store)
 |panic (d:D) (e:Env) (O:Store)
 deriving Inhabited
inductive Kind where
 |op
 |call
 |panic
def zD(op:iR)(e:Env):Option (FuncId×List D) :=
 match op with
 |.call f args=>dH (oI e args) fun az=>some (f,az)
 |.nE x args=>dH (eE e x) fun c=>dH c.d.mA fun f=>dH (oI e args) fun az=>some (f.1,f.2.1++az++f.2.2)
 |.nD _ f args=>dH (oI e args) fun az=>some (f,az)
 |.Kp _ x args=>dH (eE e x) fun c=>dH c.d.mA fun f=>dH (oI e args) fun az=>some (f.1,f.2.1++az++f.2.2)
 |_=>none
def tI:iR->Option (List Nat)
 |.nD ws _ _=>some ws
 |.Kp ws _ _=>some ws
 |.Bi ws _ _ _ _=>some ws
 |_=>none
mutual
def D.same:D->D->Bool
 |.undef,.undef=>true
 |.bool a,.bool b=>a==b
 |.int k a,.int k' b=>tH k k'&&a==b
 |.str a,.str b=>a==b
 |.dN,.dN=>true
 |.list k a,.list k' b=>k.el==k'.el&&k.sz==k'.sz&&k.ag==k'.ag&&Cf a b
 |.agg a,.agg b=>Cf a b
 |.fN a,.fN b=>Cf a b
 |.rR,.rR=>true
 |.ptr a b,.ptr c d=>a==c&&b==d
 |.gC a,.gC b=>D.same a b
 |.fn f a b,.fn g c d=>decide (f=g)&&Cf a c&&Cf b d
 |.tP,.tP=>true
 |.iface t a,.iface u b=>t==u&&D.same a b
 |.rY,.rY=>true
 |.Md,.Md=>true
 |.arr k a b c,.arr k' a' b' c'=>k.el==k'.el&&k.sz==k'.sz&&k.ag==k'.ag&&a==a'&&b==b'&&c==c'
 |.mV,.mV=>true
 |.map a,.map b=>a==b
 |.lH,.lH=>true
 |.sT a,.sT b=>a==b
 |_,_=>false
def Cf:List D->List D->Bool
 |[],[]=>true
 |a::r,b::s=>D.same a b&&Cf r s
 |_,_=>false
end
def Qh:List Cell->List Cell->Bool
 |[],[]=>true
 |a::r,b::s=>a.own==b.own&&D.same a.d b.d&&Qh r s
 |_,_=>false
def Qi:List (D×D×Nat)->List (D×D×Nat)->Bool
 |[],[]=>true
 |(a,b,c)::r,(a',b',c')::s=>D.same a a'&&D.same b b'&&c==c'&&Qi r s
 |_,_=>false
def IX:Option (List Cell)->Option (List Cell)->Bool
 |some a,some b=>Qh a b
 |_,_=>false
def Ht:Option rJ->Option rJ->Bool
 |some (.map a c),some (.map b d)=>Qi a b&&c==d
 |some (.it a c),some (.it b d)=>a==b&&c==d
 |some (.loop _),_=>true
 |some .yP,_=>true
 |_,_=>false
def pN(e:Env)(O O':Store)(s:Nat):Bool:=iW (dC e.slots s) true fun c=>match c.d with
 |.ptr id _=>iW (dC O.dE id) true fun cs=>IX (some cs) (dC O'.dE id)
 |.map id=>iW (dC O.dP id) true fun x=>Ht (some x) (dC O'.dP id)
 |_=>true
def yK(b:Option (List Nat))(e:Env)(O O':Store):Bool:=iW b true fun ws=>ws.all (pN e O O')
def iR.kind:iR->Kind
 |.call _ _=>.call
 |.nE _ _=>.call
 |.nD _ _ _=>.call
 |.Kp _ _ _=>.call
 |.panic _=>.panic
 |_=>.op
def Wn(op:iR)(e:Env):Option D :=
 match op with
 |.panic x=>dH (eE e x) fun c=>match c.d with
  |.iface t d=>some (.iface t d)
  |_=>none
 |_=>none
inductive Step where
 |next (e:Env) (O:Store)
 |call (f:FuncId) (az:List D)
 |panic (d:D)
def pC(o:iC)(e:Env)(O:Store):Option Step :=
 dH (Ee o.guard e) fun w=>dK w
  (match o.op.kind with
   |.op=>dH (gR o.dst o.op e O) fun r=>some (.next r.1 r.2)
   |.call=>dH (zD o.op e) fun r=>some (.call r.1 r.2)
   |.panic=>dH (Wn o.op e) fun d=>some (.panic d))
  (some (.next (e.put o.dst ⟨false,.undef⟩) O))
def mR(C:eV):List iC->Env->Store->Option uM
 |[],e,O=>some (.normal e O)
 |o::rest,e,O=>dH (pC o e O) fun s=>match s with
  |.next e' O'=>dK (yK (tI o.op) e O O') (mR C rest e' O') none
  |.call f az=>dH (C f az O) fun r=>dK (yK (tI o.op) e O r.2) (match r.1 with
   |.ret c=>mR C rest (e.put o.dst c) r.2
   |.panic d=>some (.panic d e r.2)) none
  |.panic d=>some (.panic d e O)
def CR(e:Env)(vR:List Nat):Env:={e with slots:=Dc e.slots vR,dR:=Dc e.dR vR,boxes:=Dc e.boxes vR}
def jI(body:Env->Store->Option (rO×Env×Store)):Nat->Env->Store->Option (rO×Env×Store)
 |0,_,_=>none
 |n+1,e,O=>match body e O with
  |some (.normal,e',O')=>jI body n e' O'
  |r=>r
def Fo:List (Nat×Cell)->List (Nat×Cell)
 |[]=>[]
 |(s,c)::r=>(s,⟨false,c.d⟩)::Fo r
def Ha:List Nat->List D->List (Nat×Cell)->List (Nat×Cell)
 |p::ps,d::ds,l=>Ha ps ds (fF l p ⟨false,d⟩)
 |_,_,l=>l
def xI(O:Store)(l:Nat):Option Rw:=dH (dC O.dP l) fun x=>match x with
 |.loop r=>some r
 |_=>none
def enterLoop(ro:Option Nat)(r:Rw)(e:Env)(O:Store):Option (Nat×Env×Store) :=
 match ro with
 |none=>some (O.next+1,{e with defers:=(oV+O.next,[])::e.defers},{O with dP:=(O.next+1,.loop r)::(O.next,.yP)::O.dP,next:=O.next+2})
 |some l=>dH (xI O l) fun _=>some (O.next,e,{O with dP:=(O.next,.loop r)::O.dP,next:=O.next+1})
def endLoop(l:Nat)(e:Env)(O:Store):Option (rO×Env×Store) :=
 dH (xI O l) fun r=>match r.st with
  |.ready=>some (.normal,e,{O with dP:=gI O.dP l})
  |.done (.exit i)=>some (.exit i,e,{O with dP:=gI O.dP l})
  |.done .ret=>some (.ret,e,{O with dP:=gI O.dP l})
  |.busy=>none
  |.over=>none
def Lc(l:Nat)(f:Env->Store->Option (rO×Env×Store)):Nat->Option (rO×Env×Store)->Option (rO×Env×Store)
 |0,r=>match r with
  |some (.goto _,_,_)=>none
  |r=>r
 |m+1,r=>match r with
  |some (.goto l',e,O)=>dK (l'==l) (Lc l f m (f e O)) none
  |r=>r
def exec(C:eV)(n:Nat)(ro:Option Nat):eR->Env->Store->Option (rO×Env×Store)
 |.skip,e,O=>some (.normal,e,O)
 |.region ops perm vR,e,O=>match mR C ops e O with
  |some (.normal e' O')=>some (.normal,CR e' vR,O')
  |some (.panic d e' O')=>some (.panic d,iW perm e' (fun _=>e'.bare),O')
  |none=>none
 |.seq a b,e,O=>match exec C n ro a e O with
  |some (.normal,e',O')=>exec C n ro b e' O'
  |r=>r
 |.cond c t f,e,O=>dH (eE e c) fun c=>dH c.d.bool? fun b=>dK b (exec C n ro t e O) (exec C n ro f e O)
 |.block id body,e,O=>match exec C n ro body e O with
  |some (.exit id',e',O')=>dK (id'==id) (some (.normal,e',O')) (some (.exit id',e',O'))
  |r=>r
 |.loop body,e,O=>jI (exec C n ro body) n e O
 |.exit id,e,O=>some (.exit id,e,O)
 |.ret,e,O=>some (.ret,e,O)
 |.scope body,e,O=>match exec C n ro body e O with
  |some (.goto _,_,_)=>none
  |r=>r
 |.ll l body rest,e,O=>Lc l (exec C n ro rest) n (exec C n ro body e O)
 |.label _,e,O=>some (.normal,e,O)
 |.goto l,e,O=>some (.goto l,e,O)
 |.stuck,_,_=>none
 |.Dw ts body,e,O=>dH (tK ts e O) fun x=>exec C n ro body x.1 x.2
 |.H5 g ps assign body,e,O=>dH (eE e g) fun c=>dH c.d.Di fun f =>
  dH (enterLoop ro ⟨Fo e.slots,ps,assign,body,.ready⟩ e O) fun x=>dH (C f.1 (f.2.1++[.sT x.1]++f.2.2) x.2.2) fun o=>match o.1 with
   |.ret _=>endLoop x.1 x.2.1 o.2
   |.panic _=>none
def Vr:Nat->List D->List (Nat×Cell)
 |_,[]=>[]
 |i,d::r=>(i,⟨false,d⟩)::Vr (i+1) r
def mX(args:List D):Env:={slots:=Vr 0 args,dR:=[],boxes:=[],defers:=[]}
abbrev sD:=FuncId->List D->Option D->Store->Option (Option D×Store)
def qL(R:sD)(C:eV):Option D->List (FuncId×List D)->Store->Option (Option D×Store)
 |m,[],O=>some (m,O)
 |m,(f,az)::r,O=>dK (jK f) (dH (dC O.dP (f-oV)) fun x=>match x with
  |.yP=>qL R C m r {O with dP:=gI O.dP (f-oV)}
  |_=>none) (match R f az m O with
  |some x=>qL R C x.1 r x.2
  |none=>dH (C f az O) fun o=>match o.1 with
   |.ret _=>qL R C m r o.2
   |.panic _=>none)
def Ju(e:Env)(O:Store):Lj->Option Cell
 |.tmp s=>dC e.slots s
 |.cell s k=>dH (kL e (.tmp s)) fun p=>match p with
  |.loc b off=>dH (dC e.boxes b) fun cs=>oS cs k off
  |.ptr id off=>dH (dC O.dE id) fun cs=>dH (oS cs k off) fun c=>some ⟨false,c.d⟩
  |.gC _=>none
 |.SC s k=>dH (kL e (.tmp s)) fun p=>match p with
  |.loc b 0=>dH (dC e.boxes b) fun cs=>dK (cs.length==k) (some ⟨sG cs,.agg (cs.map fun c=>c.d)⟩) none
  |_=>none
def Eb(e:Env)(O:Store):List Lj->Option (List D)
 |[]=>some []
 |r::l=>dH (Ju e O r) fun c=>dH (Eb e O l) fun ds=>some (c.d::ds)
def vV(e:Env)(O:Store):List Lj->Option Cell
 |[r]=>Ju e O r
 |l=>dH (Eb e O l) fun ds=>some ⟨false,.fN ds⟩
def Store.trunc(O:Store)(m:Nat):Store:={dE:=O.dE.filter fun p=>p.1<m,fH:=O.fH.filter fun p=>p.1<m,dP:=O.dP.filter fun p=>p.1<m,next:=O.next}
def zE(R:sD)(C:eV)(quiet:Bool)(af:dZ)(m:Nat):rO×Env×Store->Option (Out×Store)
 |(x,e,O)=>dK (quiet&&!e.defers.isEmpty) none (match x with
  |.normal|.ret=>dH (qL R C none e.defers O) fun r=>match r.1 with
   |none=>dH (vV e r.2 af.res) fun c=>some (.ret c,dK af.gc (r.2.trunc m) r.2)
   |some _=>none
  |.panic d=>dH (qL R C (some d) e.defers O) fun r=>match r.1 with
   |none=>dH (vV e r.2 af.res) fun c=>some (.ret c,dK af.gc (r.2.trunc m) r.2)
   |some d'=>some (.panic d',dK af.gc (r.2.trunc m) r.2)
  |.exit _=>none
  |.goto _=>none)
def Ed(O:Store)(l:Nat)(r:Rw)(s:Dq):Store:={O with dP:=fF O.dP l (.loop {r with st:=s})}
def Dq.isReady:Dq->Bool
 |.ready=>true
 |_=>false
def EY(C:eV)(n l:Nat):Option (rO×Env×Store)->Option (Out×Store)
 |some (x,_,O)=>dH (xI O l) fun r=>match x with
  |.normal=>some (.ret ⟨false,.bool true⟩,Ed O l r .ready)
  |.exit i=>some (.ret ⟨false,.bool false⟩,Ed O l r (.done (.exit i)))
  |.ret=>some (.ret ⟨false,.bool false⟩,Ed O l r (.done .ret))
  |.panic _=>none
  |.goto _=>none
 |none=>none
def EX(C:eV)(n l:Nat)(body:eR):Option (rO×Env×Store)->Option (Out×Store)
 |some (.normal,e,O)=>dH (xI O l) fun r=>dK r.st.isReady (EY C n l (exec C n (some l) body e (Ed O l r .busy))) none
 |_=>none
def Yq(C:eV)(n l:Nat)(args:List D)(O:Store):Option (Out×Store) :=
 dH (xI O l) fun r=>dK (args.length==r.params.length&&r.st.isReady)
  (EX C n l r.body (exec C n (some l) r.assign {slots:=Ha r.params args r.slots,dR:=[],boxes:=[],defers:=[]} O)) none
section
variable(Γ:FuncId->Option dZ)(R:sD)(X:eV)
def pS:Nat->Bool->eV
 |0,_,_,_,_=>none
 |n+1,quiet,f,args,O=>match Γ f with
  |some af=>dK (args.length==af.nargs)
    (match exec (pS n false) n none af.body (mX args) O with
     |some r=>zE R (pS n true) quiet af O.next r
     |none=>none) none
  |none=>dK quiet none (dK (jK f) (Yq (pS n false) n (f-oV) args O) (X f args O))
abbrev run(n:Nat):eV:=pS Γ R X n false
end
/-! ### Short words for operations -/
def mt(s t:Nat):iC:=⟨some s,.dO (.tmp t),none⟩
def mw(s t:Nat):iC:=⟨some s,.dO (.mv t),none⟩
def mo(s:Nat)(x:iR):iC:=⟨some s,x,none⟩
end Go.Mx
