/- A part of the proof. -/
import Derived.Test.YtldfbnbckiifeaaGreatDoorMyOps
set_option linter.all false
namespace Go.Mx
open Go
structure nT(e e':Env):Prop where
 slots:∀s,dC e.slots s=dC e'.slots s
 dR:∀s,dC e.dR s=dC e'.dR s
 boxes:∀s,dC e.boxes s=dC e'.boxes s
 defers:e.defers=e'.defers
theorem nT.refl(e:Env):nT e e:=⟨fun _=>rfl,fun _=>rfl,fun _=>rfl,rfl⟩
theorem nT.symm{e e':Env}(h:nT e e'):nT e' e:=⟨fun s=>(h.slots s).symm,fun s=>(h.dR s).symm,fun s=>(h.boxes s).symm,h.defers.symm⟩
theorem nT.trans{e e' e'':Env}(h:nT e e')(k:nT e' e''):nT e e'':=⟨fun s=>(h.slots s).trans (k.slots s),fun s=>(h.dR s).trans (k.dR s),fun s=>(h.boxes s).trans (k.boxes s),h.defers.trans k.defers⟩
def fX:dS->List Nat
 |.tmp s=>[s]
 |.mv s=>[s]
 |.const _=>[]
def Dm:dS->List Nat
 |.mv s=>[s]
 |_=>[]
def Ji:List dS->List Nat
 |[]=>[]
 |x::l=>fX x++Ji l
def uk:List (Nat×Nat×dS)->List Nat
 |[]=>[]
 |(_,_,x)::l=>fX x++uk l
def Yn:Option dS->List Nat
 |some x=>fX x
 |none=>[]
def xP:iR->Bool
 |.pM _ _=>true
 |.mF _ _=>true
 |.nM _ _ _=>true
 |.Ho _ _ _ _ _=>true
 |.vW _ _=>true
 |.qN _ _ _ _=>true
 |.Bi _ _ _ _ _=>true
 |.Kz _ _ _=>true
 |.He _ _ _=>true
 |.makeMap=>true
 |.update _ _ _ _=>true
 |.delete _ _ _=>true
 |.entry _ _ _ _=>true
 |.entryStore _ _ _=>true
 |_=>false
def nZ:iR->Bool
 |.nM _ _ _=>false
 |.Ho _ _ _ _ _=>false
 |.vW _ _=>false
 |.qN _ _ _ _=>false
 |.Bi _ _ _ _ _=>false
 |.Kz _ _ _=>false
 |.He _ _ _=>false
 |.makeMap=>false
 |.EN _=>false
 |.GK _ _ _ _ _=>false
 |.X6 _=>false
 |.DL _ _=>false
 |.update _ _ _ _=>false
 |.delete _ _ _=>false
 |.entry _ _ _ _=>false
 |.entryStore _ _ _=>false
 |.alloc _=>false
 |.box _=>false
 |.pM _ _=>false
 |.mF _ _=>false
 |.PI _=>false
 |.MI _ _=>false
 |.TU _=>false
 |.store _ _ _=>false
 |.SL _ _=>false
 |.PN _ _ _=>false
 |.EP _ _=>false
 |.call _ _=>false
 |.nE _ _=>false
 |.nD _ _ _=>false
 |.Kp _ _ _=>false
 |.panic _=>false
 |.load _ mv _=>!mv
 |_=>true
def Eg:iR->Bool
 |.jB _ _=>true
 |.iT _ _=>true
 |.load _ _ _=>true
 |.lookup _ _ _ _ _=>true
 |.Ti _=>true
 |_=>false
def looks:iR->List Nat
 |.dO x=>fX x
 |.pick c a b=>fX c++(fX a++fX b)
 |.build _ ps=>uk ps
 |.buildSlice _ ps=>Ji ps
 |.sC _ _ x=>fX x
 |.load _ _ x=>fX x
 |.nilCheck x=>fX x
 |.bin _ x y=>fX x++fX y
 |.JD _ x y=>fX x++fX y
 |.un _ x=>fX x
 |.toInt _ x=>fX x
 |.toStr x=>fX x
 |.EJ x=>fX x
 |.l6 x=>fX x
 |.Jy _ x=>fX x
 |.nL _ a b=>Ji a++Ji b
 |.slice _ x lo hi=>fX x++(Yn lo++Yn hi)
 |.EZ x lo hi=>fX x++(Yn lo++Yn hi)
 |.fieldAddr _ _ x=>fX x
 |.field _ _ x=>fX x
 |.indexAddr _ x i=>fX x++fX i
 |.index x i=>fX x++fX i
 |.extract x _=>fX x
 |.len x=>fX x
 |.Y3 x=>fX x
 |.append _ _ x y=>fX x++fX y
 |.Bh _ _ x y=>fX x++fX y
 |.isNil _ x=>fX x
 |.ES _ x=>fX x
 |.DN _ _ x=>fX x
 |.mm _ x y=>fX x++fX y
 |.zG _ x=>fX x
 |.G7 _ x=>fX x
 |.lookup _ _ _ x i=>fX x++fX i
 |.Ti x=>fX x
 |.slice3 _ x lo hi mx=>fX x++(Yn lo++(fX hi++fX mx))
 |.Yy _ _ x y=>fX x++fX y
 |.jr _ _ x i=>fX x++fX i
 |.LX _ _ x i=>fX x++fX i
 |.nM _ x y=>fX x++fX y
 |.Ho _ _ _ x y=>fX x++fX y
 |.vW _ ps=>Ji ps
 |.qN _ _ x y=>fX x++fX y
 |.Bi _ _ _ x y=>fX x++fX y
 |.Kz _ x y=>fX x++fX y
 |.He _ _ x=>fX x
 |.update _ x i y=>fX x++(fX i++fX y)
 |.delete _ x i=>fX x++fX i
 |.entry _ _ x i=>fX x++fX i
 |.entryStore x s y=>fX x++(fX s++fX y)
 |.pM _ _=>[]
 |.mF _ x=>fX x
 |.rZ _ _=>[]
 |.yC _ x=>fX x
 |.fY _ _ x=>fX x
 |.GR _ x=>fX x
 |.jB _ x=>fX x
 |.iT _ x=>fX x
 |.lI _ _ x y=>fX x++fX y
 |.nD _ _ az=>Ji az
 |.Kp _ x az=>fX x++Ji az
 |.call _ az=>Ji az
 |.nE x az=>fX x++Ji az
 |.panic x=>fX x
 |_=>[]
def U3:iR->Bool
 |.sC _ mv _=>mv
 |_=>false
def Bt:iR->List Nat
 |.dO x=>Dm x
 |.append _ _ x _=>Dm x
 |.Bh _ _ x _=>Dm x
 |.lI _ _ _ y=>Dm y
 |_=>[]
def wb:iR->Option (Option Nat)
 |.sC _ true _=>some none
 |.lI b _ _ _=>some (some b)
 |.rZ s _=>some (some s)
 |.yC s _=>some (some s)
 |_=>none
def wd:iR->Option Nat
 |.lI b _ _ _=>some b
 |.rZ s _=>some s
 |.yC s _=>some s
 |_=>none
def rb:iR->Option (Option Nat)
 |.sC _ _ _=>some none
 |.load _ _ _=>some none
 |.fY b _ _=>some (some b)
 |.lI b _ _ _=>some (some b)
 |_=>none
def Ec:iR->Option Nat
 |.rZ s _=>some s
 |.yC s _=>some s
 |_=>none
def SF:Option (Option Nat)->Option Nat->Bool
 |some none,some _=>true
 |some (some a),some b=>a==b
 |_,_=>false
def F9:Option (Option Nat)->Option (Option Nat)->Bool
 |none,_=>false
 |_,none=>false
 |some (some a),some (some b)=>a==b
 |_,_=>true
def Bv(o:iC):List Nat:=(match o.guard with|some (s,_)=>[s]|none=>[])++looks o.op
def qw(c:Cell):Cell:=⟨false,c.d⟩
abbrev BF:=Option (Nat×(Option (List Cell)->Option (List Cell)))
def tU(op:iR)(e:Env):BF:=match op with
 |.sC _ true x=>match kL e x with
  |some (.loc b off)=>some (b,fun o=>o.map fun cs=>qQ cs off)
  |_=>none
 |.lI b _ x y=>match kL e x,eE e y with
  |some (.loc _ off),some c=>some (b,fun o=>o.map fun cs=>putCells cs off (pK c))
  |_,_=>none
 |.rZ s z=>some (s,fun _=>some (z.map Cell.of))
 |.yC s x=>match eE e x with
  |some c=>some (s,fun _=>some (c.d.cells.map Cell.of))
  |none=>none
 |_=>none
def oM(op:iR)(e:Env)(O:Store):Option Val:=match op with
 |.buildSlice sz parts=>dH (oI e parts) fun ds=>dK (jZ sz.sz ds&&decide (ds.length*sz.sz<=16777216)) (some (.c ⟨true,.list sz ds⟩)) none
 |.append sz fG x y=>dH (eE e x) fun c=>dH (eE e y) fun d=>dH (nK d.d) fun ys=>dH (lM sz fG c ys) fun r=>some (.c r)
 |.Bh k fG x y=>dH (eE e x) fun c=>dH (eE e y) fun d=>dH d.d.wR fun s=>dH (lM k fG c (Br s)) fun r=>some (.c r)
 |.slice3 sz x lo hi max=>dH (eE e x) fun c=>dH (zO e lo) fun l=>dH (eE e hi) fun h=>dH h.d.nat? fun h=>dH (eE e max) fun m=>dH m.d.nat? fun m=>dH (EL sz c.d l h m) fun d=>some (.c ⟨true,d⟩)
 |.rZ s _=>dK (rE e.dR s) (some (.l s 0)) none
 |.yC s x=>dH (eE e x) fun c=>dK (rE e.dR s&&c.d.ok) (some (.l s 0)) none
 |.lI b k x y=>dH (kL e x) fun p=>dH (eE e y) fun c=>match p with
  |.loc b' off=>dK (b'==b) (dH (dC e.boxes b) fun cs=>dK (sM c k off cs) (some (.c ⟨false,.undef⟩)) none) none
  |_=>none
 |op=>eQ op e O
def xN(op:iR)(e:Env):Env:=match op with
 |.append _ _ x _=>x.drop e
 |.Bh _ _ x _=>x.drop e
 |.rZ s z=>{e with boxes:=fF e.boxes s (z.map Cell.of)}
 |.yC s x=>match eE e x with
  |some c=>{e with boxes:=fF e.boxes s (c.d.cells.map Cell.of)}
  |none=>e
 |.lI b _ x y=>match kL e x,eE e y,dC e.boxes b with
  |some (.loc _ off),some c,some cs=>{y.drop e with boxes:=fF e.boxes b (putCells cs off (pK c))}
  |_,_,_=>e
 |op=>sW op e
def lW(L:List Nat)(e e':Env):Prop:=∀s∈L,dC e.slots s=dC e'.slots s/\dC e.dR s=dC e'.dR s
theorem lW.left{L M:List Nat}{e e':Env}(h:lW (L++M) e e'):lW L e e':=fun s hs=>h s (bJ.2 (.inl hs))
theorem lW.right{L M:List Nat}{e e':Env}(h:lW (L++M) e e'):lW M e e':=fun s hs=>h s (bJ.2 (.inr hs))
def Hh(e e':Env)(b:Nat):Prop:=(dC e.boxes b).map (·.map Cell.d)=(dC e'.boxes b).map (·.map Cell.d)
def BoxD(e e':Env):Prop:=∀b,Hh e e' b
def Yf(op:iR)(e e':Env):Prop:=match rb op with
 |none=>True
 |some none=>BoxD e e'
 |some (some b)=>Hh e e' b
section
variable{e e':Env}
theorem iJ{x:dS}(h:lW (fX x) e e'):eE e x=eE e' x:=by
 cases x with
 |tmp s=>simp only[eE,(h s (by simp[fX])).1]
 |mv s=>simp only[eE,(h s (by simp[fX])).1]
 |const d=>rfl
theorem wV{x:dS}(h:lW (fX x) e e'):kL e x=kL e' x:=by
 cases x with
 |tmp s=>simp only[kL,(h s (by simp[fX])).1,(h s (by simp[fX])).2]
 |mv s=>simp only[kL,(h s (by simp[fX])).1,(h s (by simp[fX])).2]
 |const d=>rfl
theorem Jm:∀{l:List dS},lW (Ji l) e e'->oI e l=oI e' l
 |[],_=>rfl
 |x::l,h=>by simp only[oI,iJ (lW.left h),Jm (lW.right h)]
theorem zaa:∀{l:List (Nat×Nat×dS)},lW (uk l) e e'->Gz e l=Gz e' l
 |[],_=>rfl
 |(a,b,x)::l,h=>by simp only[Gz,iJ (lW.left h),zaa (lW.right h)]
theorem WT{x:Option dS}(h:lW (Yn x) e e'):zO e x=zO e' x:=by
 cases x with
 |none=>rfl
 |some x=>simp only[zO,iJ (show lW (fX x) e e' from h)]
theorem za7{x:Option dS}(h:lW (Yn x) e e'):Le e x=Le e' x:=by
 cases x with
 |none=>rfl
 |some x=>simp only[Le,iJ (show lW (fX x) e e' from h)]
theorem iq:∀(cs cs':List Cell)(o n:Nat),cs.map Cell.d=cs'.map Cell.d->pO cs o n=pO cs' o n
 |[],[],o,n,_=>rfl
 |[],_::_,_,_,h=>by simp at h
 |_::_,[],_,_,h=>by simp at h
 |c::cs,c'::cs',0,0,_=>rfl
 |c::cs,c'::cs',0,n+1,h=>by
  simp only[aO,aL]at h;simp only[pO,iq cs cs' 0 n h.2,h.1]
 |c::cs,c'::cs',o+1,n,h=>by
  simp only[aO,aL]at h;cases n<;>simp only[pO,iq cs cs' o _ h.2]
theorem zs2{cs cs':List Cell}(h:cs.map Cell.d=cs'.map Cell.d)(k:Option Nat)(off:Nat):(oS cs k off).map Cell.d=(oS cs' k off).map Cell.d:=by
 cases k with
 |none =>simp only[oS,Qe];rw[<-List.getElem?_map,<-List.getElem?_map,h]
 |some n=>simp only[oS,iq cs cs' off n h]
theorem au{k:Option Nat}{b off:Nat}(h:Hh e e' b):(dH (dC e.boxes b) fun cs=>dH (oS cs k off) fun c=>some (Val.c ⟨false,c.d⟩))=dH (dC e'.boxes b) fun cs=>dH (oS cs k off) fun c=>some (Val.c ⟨false,c.d⟩):=by
 have hb:=h;unfold Hh at hb;cases h1:dC e.boxes b with
 |none =>
  rw[h1]at hb;cases h2:dC e'.boxes b with
  |none=>rfl
  |some cs'=>rw[h2]at hb;cases hb
 |some cs =>
  rw[h1]at hb;cases h2:dC e'.boxes b with
  |none=>rw[h2]at hb;cases hb
  |some cs' =>
   rw[h2]at hb;simp only[bN,aA]at hb;have:=zs2 hb k off;simp only[dH,eP];cases h3:oS cs k off with
   |none =>
    rw[h3]at this;cases h4:oS cs' k off with
    |none=>rfl
    |some c=>rw[h4]at this;cases this
   |some c =>
    rw[h3]at this;cases h4:oS cs' k off with
    |none=>rw[h4]at this;cases this
    |some c' =>rw[h4]at this;simp only[bN,aA]at this;simp only[eP,this]
theorem zicb{c:Cell}{k off:Nat}{cs cs':List Cell}(h:cs.map Cell.d=cs'.map Cell.d):sM c k off cs=sM c k off cs':=by have:=congrArg List.length h;simp only[aJ]at this;simp only[sM,this]
theorem zts{op:iR}(O:Store)(hl:nZ op=true)(h:lW (looks op) e e')(hb:Yf op e e')(hm:U3 op=true->∀b,dC e.boxes b=dC e'.boxes b)(hf:∀s,Ec op=some s->rE e.dR s=rE e'.dR s):oM op e O=oM op e' O:=by
 cases op<;>simp only[nZ,aE]at hl<;>simp only[looks]at h<;>simp only[oM,eQ]
 case dO x=>rw[iJ h]
 case pick c a b=>rw[iJ h.left,iJ h.right.left,iJ h.right.right]
 case build z ps=>rw[zaa h]
 case buildSlice sz ps=>rw[Jm h]
 case sC k mv x =>
  rw[wV h];congr 1
  funext p
  cases p with
  |loc b off =>
   cases mv with
   |false=>simp only[Bool.false_and];exact au (hb b)
   |true=>simp only[hm rfl b]
  |ptr id off=>rfl
  |gC d=>rfl
 case load k mv x =>
  simp only[Bool.not_eq_true']at hl;subst hl;rw[wV h];congr 1
  funext p
  cases p with
  |loc b off=>simp only[Bool.false_and];exact au (hb b)
  |ptr id off=>rfl
  |gC d=>rfl
 case nilCheck x=>rw[wV h]
 case fY b k x =>
  rw[wV h];congr 1
  funext p
  cases p with
  |loc b' off =>simp only;congr 1;exact au hb
  |ptr id off=>rfl
  |gC d=>rfl
 case GR k x=>rw[wV h]
 case jB k x=>rw[wV h]
 case iT k x=>rw[wV h]
 case rZ s z=>rw[hf s rfl]
 case yC s x=>rw[iJ h,hf s rfl]
 case lI b k x y =>
  rw[wV h.left,iJ h.right];congr 1
  funext p
  congr 1
  funext c
  cases p with
  |loc b' off =>
   simp only;congr 1;have hb':Hh e e' b:=hb;unfold Hh at hb';cases h1:dC e.boxes b with
   |none =>
    rw[h1]at hb';cases h2:dC e'.boxes b with
    |none=>rfl
    |some cs'=>rw[h2]at hb';cases hb'
   |some cs =>
    rw[h1]at hb';cases h2:dC e'.boxes b with
    |none=>rw[h2]at hb';cases hb'
    |some cs' =>rw[h2]at hb';simp only[bN,aA]at hb';simp only[dH,eP,zicb hb']
  |ptr id off=>rfl
  |gC d=>rfl
 case bin op x y=>rw[iJ h.left,iJ h.right]
 case JD op x y=>rw[iJ h.left,iJ h.right]
 case un op x=>rw[iJ h]
 case toInt k x=>rw[iJ h]
 case toStr x=>rw[iJ h]
 case EJ x=>rw[iJ h]
 case l6 x=>rw[iJ h]
 case Jy t x=>rw[iJ h]
 case nL f a b=>rw[Jm h.left,Jm h.right]
 case slice sz x lo hi=>rw[iJ h.left,WT h.right.left,za7 h.right.right]
 case EZ x lo hi=>rw[iJ h.left,WT h.right.left,za7 h.right.right]
 case fieldAddr off k x=>rw[wV h]
 case field off k x=>rw[iJ h]
 case indexAddr sz x i=>rw[iJ h.left,iJ h.right]
 case index x i=>rw[iJ h.left,iJ h.right]
 case extract x i=>rw[iJ h]
 case len x=>rw[iJ h]
 case Y3 x=>rw[iJ h]
 case append sz fG x y=>rw[iJ h.left,iJ h.right]
 case Bh k fG x y=>rw[iJ h.left,iJ h.right]
 case isNil op x=>rw[iJ h]
 case ES op x=>rw[iJ h]
 case DN t z x=>rw[iJ h]
 case mm mx x y=>rw[iJ h.left,iJ h.right]
 case zG op x=>rw[iJ h]
 case G7 op x=>rw[iJ h]
 case lookup ks z ok x i=>rw[iJ h.left,iJ h.right]
 case Ti x=>rw[iJ h]
 case slice3 sz x lo hi mx=>rw[iJ h.left,WT h.right.left,iJ h.right.right.left,iJ h.right.right.right]
 case Yy op ks x y=>rw[iJ h.left,iJ h.right]
 case jr n sz x i=>rw[iJ h.left,iJ h.right]
 case LX n sz x i=>rw[wV h.left,iJ h.right]
theorem WO{op:iR}(O:Store)(hl:xP op=true)(h:lW (looks op) e e'):mE op e O=mE op e' O:=by
 cases op<;>simp only[xP,aE]at hl<;>simp only[looks]at h<;>simp only[mE]
 case mF t x=>rw[iJ h]
 case nM k x y=>rw[wV h.left,iJ h.right]
 case Ho k fG z x y=>rw[iJ h.left,iJ h.right]
 case vW k ps=>rw[Jm h]
 case qN k fG x y=>rw[iJ h.left,iJ h.right]
 case Bi ws k fG x y=>rw[iJ h.left,iJ h.right]
 case Kz sz x y=>rw[iJ h.left,iJ h.right]
 case He sz z x=>rw[iJ h]
 case update ks x i y=>rw[iJ h.left,iJ h.right.left,iJ h.right.right]
 case delete ks x i=>rw[iJ h.left,iJ h.right]
 case entry ks z x i=>rw[iJ h.left,iJ h.right]
 case entryStore x s y=>rw[iJ h.left,iJ h.right.left,iJ h.right.right]
theorem XB{op:iR}(hl:xP op=true)(dst:Option Nat)(e:Env)(O:Store):gR dst op e O=fP dst op e O:=by cases op<;>simp only[xP,aE]at hl<;>rfl
theorem ZL{op:iR}(hl:xP op=true):op.kind=.op:=by cases op<;>simp only[xP,aE]at hl<;>rfl
theorem zuz{op:iR}(hl:nZ op=true)(h:lW (looks op) e e'):tU op e=tU op e':=by
 cases op<;>simp only[nZ,aE]at hl<;>simp only[looks]at h<;>try rfl
 case sC k mv x=>cases mv<;>simp only[tU,wV h]
 case lI b k x y=>simp only[tU,wV h.left,iJ h.right]
 case yC s x=>simp only[tU,iJ h]
theorem ztt{op:iR}(hl:nZ op=true)(hn:Eg op=false)(e:Env)(O O':Store):oM op e O=oM op e O':=by cases op<;>simp only[nZ,aE]at hl<;>simp only[Eg,Bool.true_eq_false]at hn<;>rfl
theorem zam{op:iR}(hl:nZ op=true)(dst:Option Nat)(e:Env)(O:Store):gR dst op e O=dH (oM op e O) fun v=>some ((xN op e).pR dst v,O):=by
 cases op<;>simp only[nZ,aE]at hl<;>try rfl
 case load k mv x =>
  simp only[Bool.not_eq_true']at hl;subst hl;rfl
 case buildSlice sz ps =>
  simp only[gR,oM];cases oI e ps with
  |none=>rfl
  |some ds =>simp only[dH,eP];cases(jZ sz.sz ds&&decide (ds.length*sz.sz<=16777216))<;>cases dst<;>rfl
 case append sz fG x y =>
  simp only[gR,oM];cases eE e x with
  |none=>rfl
  |some c =>
   simp only[dH,eP];cases eE e y with
   |none=>rfl
   |some d =>
    simp only[eP];cases nK d.d with
    |none=>rfl
    |some ys =>
     simp only[eP];cases lM sz fG c ys with
     |none=>rfl
     |some r=>cases dst<;>rfl
 case Bh k fG x y =>
  simp only[gR,oM];cases eE e x with
  |none=>rfl
  |some c =>
   simp only[dH,eP];cases eE e y with
   |none=>rfl
   |some d =>
    simp only[eP];cases d.d.wR with
    |none=>rfl
    |some str =>
     simp only[eP];cases lM k fG c (Br str)with
     |none=>rfl
     |some r=>cases dst<;>rfl
 case slice3 sz x lo hi mx =>
  simp only[gR,oM];cases eE e x with
  |none=>rfl
  |some c =>
  simp only[dH,eP];cases zO e lo with
  |none=>rfl
  |some l =>
  simp only[eP];cases eE e hi with
  |none=>rfl
  |some h =>
  simp only[eP];cases h.d.nat? with
  |none=>rfl
  |some hn =>
  simp only[eP];cases eE e mx with
  |none=>rfl
  |some m =>
  simp only[eP];cases m.d.nat? with
  |none=>rfl
  |some mn =>
  simp only[eP];cases EL sz c.d l hn mn with
  |none=>rfl
  |some d=>cases dst<;>rfl
 case rZ s z =>
  simp only[gR,oM];cases rE e.dR s<;>rfl
 case yC s x =>
  simp only[gR,oM,xN];cases eE e x with
  |none=>rfl
  |some c =>simp only[dH,eP];cases rE e.dR s&&c.d.ok<;>rfl
 case lI b k x y =>
  simp only[gR,oM,xN];cases kL e x with
  |none=>rfl
  |some p =>
   simp only[dH,eP];cases eE e y with
   |none=>rfl
   |some c =>
    simp only[eP];cases p with
    |loc b' off =>
     simp only;cases b'==b with
     |false=>rfl
     |true =>
      simp only[dQ];cases dC e.boxes b with
      |none=>rfl
      |some cs =>simp only[eP];cases sM c k off cs<;>cases dst<;>rfl
    |ptr id off=>rfl
    |gC d=>rfl
/-! ### What an operation changes, slot by slot -/
def Val.cell?:Val->Option Cell
 |.c x=>some x
 |.l _ _=>none
def Val.ui:Val->Option (Nat×Nat)
 |.c _=>none
 |.l b off=>some (b,off)
abbrev yM:=Val×List Nat×BF
structure qC(dst:Option Nat)(dat:yM)(e e1:Env):Prop where
 slots:∀s,dC e1.slots s=if dst=some s then dat.1.cell? else if s∈dat.2.1 then(dC e.slots s).map qw else dC e.slots s
 dR:∀s,dC e1.dR s=if dst=some s then dat.1.ui else dC e.dR s
 boxes:∀b,dC e1.boxes b=match dat.2.2 with
  |some (b',f)=>if b'=b then f (dC e.boxes b)else dC e.boxes b
  |none=>dC e.boxes b
 defers:e1.defers=e.defers
theorem l8(x:dS)(s:Nat):dC (x.drop e).slots s=if s∈Dm x then(dC e.slots s).map qw else dC e.slots s:=by
 cases x with
 |mv t =>
  simp only[dS.drop,Dm,bP];cases ht:dC e.slots t with
  |none =>
   simp only[qK];split
   ·rename_i h;subst h;rw[ht];rfl
   ·rfl
  |some c =>
   simp only[eP,jM];by_cases h:t=s
   ·subst h;rw[if_pos rfl,if_pos rfl,ht];rfl
   ·rw[if_neg h,if_neg (fun k=>h k.symm)]
 |tmp t=>simp[dS.drop,Dm]
 |const d=>simp[dS.drop,Dm]
theorem l7(x:dS):(x.drop e).dR=e.dR/\(x.drop e).boxes=e.boxes/\(x.drop e).defers=e.defers:=by
 cases x with
 |mv t =>simp only[dS.drop];cases dC e.slots t<;>exact⟨rfl,rfl,rfl⟩
 |_=>exact⟨rfl,rfl,rfl⟩
theorem vD{dst:Option Nat}{v:Val}{e0:Env}(D:List Nat)(B:BF)(h1:∀s,dC e0.slots s=if s∈D then(dC e.slots s).map qw else dC e.slots s)(h2:e0.dR=e.dR)
  (h3:∀b,dC e0.boxes b=match B with|some (b',f)=>if b'=b then f (dC e.boxes b)else dC e.boxes b|none=>dC e.boxes b) (h4:e0.defers=e.defers):qC dst (v,D,B) e (e0.pR dst v):=by
 cases dst with
 |none =>
  have:e0.pR none v=e0:=by cases v<;>rfl
  rw[this];exact⟨fun s=>by simp[h1 s],fun s=>by simp[h2],h3,h4⟩
 |some d =>
  cases v with
  |c c =>
   refine⟨fun s=>?_,fun s=>?_,h3,h4⟩
   ·simp only[Env.pR,Env.put,jM,aA];split
    ·rfl
    ·exact h1 s
   ·simp only[Env.pR,Env.put,mK,aA,h2];rfl
  |l b off =>
   refine⟨fun s=>?_,fun s=>?_,h3,h4⟩
   ·simp only[Env.pR,mK,aA];split
    ·rfl
    ·exact h1 s
   ·simp only[Env.pR,jM,aA,h2];rfl
theorem zbu{op:iR}(hl:nZ op=true)(dst:Option Nat)(v:Val){O:Store}(hv:oM op e O=some v):qC dst (v,Bt op,tU op e) e ((xN op e).pR dst v):=by
 have plain:xN op e=e->Bt op=[]->tU op e=none->qC dst (v,Bt op,tU op e) e ((xN op e).pR dst v):=(by intro h1 h2 h3;rw[h1,h2,h3];exact vD [] none (fun s=>by simp) rfl (fun b=>rfl) rfl);cases op<;>simp only[nZ,aE]at hl<;>try exact plain rfl rfl rfl
 case load k mv x =>
  simp only[Bool.not_eq_true']at hl;subst hl;exact plain rfl rfl rfl
 case dO x =>
  obtain⟨k1,k2,k3⟩:=l7 (e:=e) x;exact vD (Dm x) none (l8 x) k1 (fun b=>by rw[show xN (.dO x) e=x.drop e from rfl,k2]) k3
 case append sz fG x y =>
  obtain⟨k1,k2,k3⟩:=l7 (e:=e) x;exact vD (Dm x) none (l8 x) k1 (fun b=>by rw[show xN (.append sz fG x y) e=x.drop e from rfl,k2]) k3
 case Bh k fG x y =>
  obtain⟨k1,k2,k3⟩:=l7 (e:=e) x;exact vD (Dm x) none (l8 x) k1 (fun b=>by rw[show xN (.Bh k fG x y) e=x.drop e from rfl,k2]) k3
 case sC k mv x =>
  cases mv with
  |false=>exact plain rfl rfl rfl
  |true =>
   simp only[xN,sW,Bt,tU];cases ha:kL e x with
   |none=>exact vD [] none (fun s=>by simp[qK]) rfl (fun b=>rfl) rfl
   |some p =>
    simp only[eP];cases p with
    |loc b off =>
     simp only;cases hb:dC e.boxes b with
     |none =>
      refine vD [] _ (fun s=>by simp[qK]) rfl (fun b'=>?_) rfl;simp only[qK];split
      ·rename_i h;subst h;rw[hb];rfl
      ·rfl
     |some cs =>
      refine vD [] _ (fun s=>by simp[eP]) rfl (fun b'=>?_) rfl;simp only[eP,jM];split
      ·rename_i h;subst h;rw[hb];rfl
      ·rfl
    |ptr id off=>exact vD [] none (fun s=>by simp) rfl (fun b=>rfl) rfl
    |gC d=>exact vD [] none (fun s=>by simp) rfl (fun b=>rfl) rfl
 case rZ s z =>
  refine vD [] (some (s,fun _=>some (z.map Cell.of))) (fun t=>by simp[xN]) rfl (fun b=>?_) rfl;simp only[xN,jM]
 case yC s x =>
  simp only[oM]at hv;obtain⟨c,h1,hv⟩:=dJ hv;simp only[xN,tU,Bt,h1];refine vD [] (some (s,fun _=>some (c.d.cells.map Cell.of))) (fun t=>by simp) rfl (fun b=>?_) rfl;simp only[jM]
 case lI b k x y =>
  simp only[oM]at hv;obtain⟨p,h1,hv⟩:=dJ hv;obtain⟨c,h2,hv⟩:=dJ hv;cases p with
  |loc b' off =>
   obtain⟨h3,hv⟩:=gQ hv;obtain⟨cs,h4,hv⟩:=dJ hv;simp only[xN,tU,Bt,h1,h2,h4];obtain⟨k1,k2,k3⟩:=l7 (e:=e) y;refine vD (Dm y) (some (b,fun o=>o.map fun cs=>putCells cs off (pK c))) (l8 y) k1 (fun b2=>?_) k3;simp only[jM];split
   ·rename_i h;subst h;rw[h4];rfl
   ·rfl
  |ptr id off=>cases hv
  |gC d=>cases hv
def oW(o:iC)(e:Env)(O:Store):Option yM:=dH (Ee o.guard e) fun w=>dK w (dH (oM o.op e O) fun v=>some (v,Bt o.op,tU o.op e)) (some (.c ⟨false,.undef⟩,[],none))
theorem Zv{o:iC}(h:lW (Bv o) e e'):Ee o.guard e=Ee o.guard e':=by
 unfold Bv at h;cases hg:o.guard with
 |none=>rfl
 |some p =>obtain⟨s,b⟩:=p;rw[hg]at h;simp only[Ee,(h s (by simp)).1]
theorem LU{o:iC}(O:Store)(hl:nZ o.op=true)(h:lW (Bv o) e e')(hb:Yf o.op e e')(hm:U3 o.op=true->∀b,dC e.boxes b=dC e'.boxes b)(hf:∀s,Ec o.op=some s->rE e.dR s=rE e'.dR s):oW o e O=oW o e' O:=by have h2:lW (looks o.op) e e':=lW.right h;simp only[oW,Zv h,zts O hl h2 hb hm hf,zuz hl h2]
theorem zuy{o:iC}(hl:nZ o.op=true)(hn:Eg o.op=false)(e:Env)(O O':Store):oW o e O=oW o e O':=by simp only[oW,ztt hl hn e O O']
theorem zby{op:iR}(hl:nZ op=true):op.kind=.op:=by cases op<;>simp only[nZ,aE]at hl<;>rfl
theorem ZX{o:iC}(hl:nZ o.op=true){O:Store}{st:Step}(h:pC o e O=some st):∃dat e1,oW o e O=some dat/\st=.next e1 O/\qC o.dst dat e e1:=by
 unfold pC at h;obtain⟨w,hw,h⟩:=dJ h;rw[zby hl]at h;simp only[oW,hw,dH,eP];cases w with
 |true =>simp only[dQ]at h ⊢;obtain⟨⟨e1,O1⟩,h1,h⟩:=dJ h;cases h;rw[zam hl]at h1;obtain⟨v,hv,h1⟩:=dJ h1;cases h1;exact⟨_,_,by rw[hv];rfl,rfl,zbu hl _ v hv⟩
 |false =>simp only[dX,aA]at h ⊢;subst h;exact⟨_,_,rfl,rfl,vD (v:=.c ⟨false,.undef⟩) [] none (fun s=>by simp) rfl (fun b=>rfl) rfl⟩
theorem NK{o:iC}(hl:nZ o.op=true)(O:Store){dat:yM}(h:oW o e O=some dat):∃e1,pC o e O=some (.next e1 O)/\qC o.dst dat e e1:=by
 unfold oW at h;obtain⟨w,hw,h⟩:=dJ h;simp only[pC,hw,dH,eP,zby hl,zam hl];cases w with
 |true =>simp only[dQ]at h ⊢;obtain⟨v,hv,h⟩:=dJ h;cases h;rw[hv];exact⟨_,rfl,zbu hl _ v hv⟩
 |false =>simp only[dX,aA]at h ⊢;subst h;exact⟨_,rfl,vD (v:=.c ⟨false,.undef⟩) [] none (fun s=>by simp) rfl (fun b=>rfl) rfl⟩
theorem qC.eqv{dst:Option Nat}{dat:yM}{e1 pW:Env}(h:qC dst dat e e1)(h':qC dst dat e' pW)(he:nT e e'):nT e1 pW :=
 ⟨fun s=>by rw[h.slots,h'.slots,he.slots],fun s=>by rw[h.dR,h'.dR,he.dR],fun b=>by rw[h.boxes,h'.boxes,he.boxes],by rw[h.defers,h'.defers,he.defers]⟩
theorem qC.agree{dst:Option Nat}{dat:yM}{e1:Env}(h:qC dst dat e e1){L:List Nat}(h1:∀d,dst=some d->d∉L)(h2:∀s∈dat.2.1,s∉L):lW L e e1:=fun s hs=>by
 have n1:¬dst=some s:=fun k=>h1 s k hs;have n2:s∉dat.2.1:=fun k=>h2 s k hs;exact⟨by rw[h.slots,if_neg n1,if_neg n2],by rw[h.dR,if_neg n1]⟩
theorem zdw:∀(cs:List Cell)(o:Nat),(qQ cs o).map Cell.d=cs.map Cell.d
 |[],0=>rfl
 |[],_+1=>rfl
 |_::_,0=>rfl
 |c::cs,o+1=>by simp only[qQ,aO,zdw cs o]
theorem YB{op:iR}{b:Nat}{f:Option (List Cell)->Option (List Cell)}(h:tU op e=some (b,f)):(wd op=some b\/∀o,(f o).map (·.map Cell.d)=o.map (·.map Cell.d))/\∀b',wb op=some (some b')->b'=b:=by
 unfold tU at h;split at h
 ·split at h
  ·cases h;refine⟨.inr fun o=>?_,fun b' h=>by simp only[wb,aA,reduceCtorEq]at h⟩;cases o with
   |none=>rfl
   |some cs=>simp only[bN,zdw]
  ·cases h
 ·split at h
  ·cases h;exact⟨.inl rfl,fun b' h=>by simp only[wb,aA]at h;exact h.symm⟩
  ·cases h
 ·cases h;exact⟨.inl rfl,fun b' h=>by simp only[wb,aA]at h;exact h.symm⟩
 ·split at h
  ·cases h;exact⟨.inl rfl,fun b' h=>by simp only[wb,aA]at h;exact h.symm⟩
  ·cases h
 ·cases h
theorem MO{o:iC}{dat:yM}{O:Store}(h:oW o e O=some dat):dat.2.2=none\/dat.2.2=tU o.op e:=by
 unfold oW at h;obtain⟨w,_,h⟩:=dJ h;cases w with
 |false=>simp only[dX,aA]at h;subst h;exact .inl rfl
 |true =>simp only[dQ]at h;obtain⟨v,_,h⟩:=dJ h;cases h;exact .inr rfl
theorem qC.zjw{o:iC}{dat:yM}{e1:Env}{O:Store}(h:qC o.dst dat e e1)(hd:oW o e O=some dat){b:Nat}(hb:wd o.op≠some b):Hh e e1 b:=by
 unfold Hh;rw[h.boxes];rcases MO hd with hn|hn
 ·rw[hn]
 ·cases hx:dat.2.2 with
  |none=>rfl
  |some q =>
   obtain⟨b',f⟩:=q;rw[hx]at hn;simp only;by_cases hbb:b'=b
   ·subst hbb;rw[if_pos rfl];rcases(YB hn.symm).1 with h|h
    ·exact absurd h hb
    ·exact(h _).symm
   ·rw[if_neg hbb]
theorem qC.zW{o:iC}{dat:yM}{e1:Env}{O:Store}{op:iR}(h:qC o.dst dat e e1)(hd:oW o e O=some dat)(hc:SF (rb op) (wd o.op)=false):Yf op e e1:=by
 unfold Yf;cases hr:rb op with
 |none=>trivial
 |some r =>
  rw[hr]at hc;cases r with
  |none =>intro b;refine h.zjw hd fun hw=>?_;rw[hw]at hc;cases hc
  |some b =>refine h.zjw hd fun hw=>?_;rw[hw]at hc;simp[SF]at hc
theorem zfy{op:iR}{e e':Env}(h:∀b,dC e.boxes b=dC e'.boxes b):Yf op e e':=by
 unfold Yf;split
 ·trivial
 ·exact fun b=>by unfold Hh;rw[h]
 ·unfold Hh;rw[h]
theorem qC.swap{dp di:Option Nat}{p i:yM}{e1 e2 pW e2':Env}(h1:qC dp p e e1)(h2:qC di i e1 e2)(k1:qC di i e pW)(k2:qC dp p pW e2')
  (hd:∀s,dp=some s->di≠some s) (hpi:∀s,dp=some s->s∉i.2.1) (KI:∀s,di=some s->s∉p.2.1) (hb:p.2.2=none\/i.2.2=none\/∃bp fp bi fi,p.2.2=some (bp,fp)/\i.2.2=some (bi,fi)/\bp≠bi):nT e2 e2':=by
 refine⟨fun s=>?_,fun s=>?_,fun b=>?_,by rw[h2.defers,h1.defers,k2.defers,k1.defers]⟩
 ·rw[h2.slots,h1.slots,k2.slots,k1.slots];by_cases a:dp=some s
  ·rw[if_pos a,if_neg (hd s a),if_neg (hpi s a),if_pos a]
  ·by_cases b:di=some s
   ·rw[if_pos b,if_neg a,if_neg (KI s b),if_pos b]
   ·rw[if_neg b,if_neg a,if_neg a,if_neg b];by_cases c:s∈i.2.1<;>by_cases d:s∈p.2.1<;>simp[c,d]
 ·rw[h2.dR,h1.dR,k2.dR,k1.dR];by_cases a:dp=some s
  ·rw[if_pos a,if_neg (hd s a),if_pos a]
  ·by_cases b:di=some s
   ·rw[if_pos b,if_neg a,if_pos b]
   ·rw[if_neg b,if_neg a,if_neg a,if_neg b]
 ·rw[h2.boxes,h1.boxes,k2.boxes,k1.boxes];rcases hb with hb|hb|⟨bp,fp,bi,fi,h1,h2,hne⟩
  ·rw[hb]
  ·rw[hb]
  ·rw[h1,h2];simp only;by_cases ha:bi=b
   ·subst ha;simp only[if_true,if_neg hne]
   ·simp only[if_neg ha]
theorem Jp{l:List (Nat×(Nat×Nat))}{s:Nat}:rE l s=true↔dC l s=none/\∀t b o,dC l t=some (b,o)->b≠s:=by
 unfold rE;cases h:dC l s with
 |some q=>simp[eP]
 |none =>
  rw[qK,bM];constructor
  ·intro hall;refine⟨rfl,fun t b o ht=>?_⟩;have hk:∃q∈l,q.1=t:=by
    clear hall h;induction l with
    |nil=>simp[sU]at ht
    |cons p l ih =>
     obtain⟨k,v⟩:=p;rw[nH]at ht;by_cases hkt:k=t
     ·exact⟨(k,v),by simp,hkt⟩
     ·rw[if_neg hkt]at ht;obtain⟨q,hq,yc⟩:=ih ht;exact⟨q,by simp[hq],yc⟩
   obtain⟨q,hq,rfl⟩:=hk;have:=hall q hq;rw[ht,eP]at this;simpa using this
  ·rintro⟨_,h2⟩ q _;cases hq:dC l q.1 with
   |none=>rfl
   |some r =>obtain⟨b,o⟩:=r;rw[eP];have:=h2 _ b o hq;simpa using this
mutual
theorem D.same_eq:∀{a b:D},D.same a b=true->a=b
 |.undef,b,h=>by cases b<;>simp_all [D.same]
 |.bool x,b,h=>by cases b<;>simp_all [D.same]
 |.int k n,b,h=>by
  cases b<;>simp only[D.same,aE,aC,beq_iff_eq]at h;have hk:∀{k k':IntKind},tH k k'=true->k=k':=by
   intro k k' h;cases k<;>cases k'<;>simp_all [tH]
  rw[hk h.1,h.2]
 |.str x,b,h=>by cases b<;>simp_all [D.same]
 |.dN,b,h=>by cases b<;>simp_all [D.same]
 |.list k x,b,h=>by
  cases b<;>simp only[D.same,aE,aC,beq_iff_eq]at h;rename_i k' y;obtain⟨⟨⟨h1,h2⟩,h3⟩,h4⟩:=h;have:k=k':=by cases k;cases k';simp_all
  rw[this,C8 h4]
 |.agg x,b,h=>by
  cases b<;>simp only[D.same,aE]at h;rw[C8 h]
 |.fN x,b,h=>by
  cases b<;>simp only[D.same,aE]at h;rw[C8 h]
 |.rR,b,h=>by cases b<;>simp_all [D.same]
 |.ptr x y,b,h=>by cases b<;>simp_all [D.same]
 |.gC x,b,h=>by
  cases b<;>simp only[D.same,aE]at h;rw[D.same_eq h]
 |.fn g x y,b,h=>by
  cases b<;>simp only[D.same,aE,aC,cE]at h;obtain⟨⟨rfl,h1⟩,h2⟩:=h;rw[C8 h1,C8 h2]
 |.tP,b,h=>by cases b<;>simp_all [D.same]
 |.iface t x,b,h=>by
  cases b<;>simp only[D.same,aE,aC,beq_iff_eq]at h;rw[h.1,D.same_eq h.2]
 |.rY,b,h=>by cases b<;>simp_all [D.same]
 |.Md,b,h=>by cases b<;>simp_all [D.same]
 |.arr k x y z,b,h=>by
  cases b<;>simp only[D.same,aE,aC,beq_iff_eq]at h;rename_i k' x' y' z';obtain⟨⟨⟨⟨⟨h1,h2⟩,h3⟩,rfl⟩,rfl⟩,rfl⟩:=h;have:k=k':=by cases k;cases k';simp_all
  rw[this]
 |.mV,b,h=>by cases b<;>simp_all [D.same]
 |.map x,b,h=>by cases b<;>simp_all [D.same]
 |.lH,b,h=>by cases b<;>simp_all [D.same]
 |.sT x,b,h=>by cases b<;>simp_all [D.same]
theorem C8:∀{a b:List D},Cf a b=true->a=b
 |[],b,h=>by cases b<;>simp_all [Cf]
 |x::a,b,h=>by
  cases b with
  |nil=>simp[Cf]at h
  |cons y b =>simp only[Cf,aC]at h;rw[D.same_eq h.1,C8 h.2]
end
theorem zdo:∀{a b:List Cell},Qh a b=true->a=b
 |[],b,h=>by cases b<;>simp_all [Qh]
 |x::a,b,h=>by
  cases b with
  |nil=>simp[Qh]at h
  |cons y b =>simp only[Qh,aC,beq_iff_eq]at h;obtain⟨⟨h1,h2⟩,h3⟩:=h;obtain⟨o,d⟩:=x;obtain⟨o',d'⟩:=y;simp only at h1 h2;rw[h1,D.same_eq h2,zdo h3]
theorem zdp:∀{a b:List (D×D×Nat)},Qi a b=true->a=b
 |[],b,h=>by cases b<;>simp_all [Qi]
 |(x,y,z)::a,b,h=>by
  cases b with
  |nil=>simp[Qi]at h
  |cons q b =>obtain⟨x',y',z'⟩:=q;simp only[Qi,aC,beq_iff_eq]at h;obtain⟨⟨⟨h1,h2⟩,rfl⟩,h3⟩:=h;rw[D.same_eq h1,D.same_eq h2,zdp h3]
theorem zctb{a b:Option (List Cell)}(h:IX a b=true):a=b:=by cases a<;>cases b<;>simp only[IX,aE]at h;rw[zdo h]
theorem zcsb{es:List (D×D×Nat)}{c:Nat}{b:Option rJ}(h:Ht (some (.map es c)) b=true):some (.map es c)=b:=by
 cases b with
 |none=>simp[Ht]at h
 |some b =>cases b<;>simp only[Ht,aE,aC,beq_iff_eq]at h;rw[zdp h.1,h.2]
def Jz:dS->Option Nat
 |.tmp s=>some s
 |.mv s=>some s
 |.const _=>none
def zM:iR->Option Nat
 |.load _ _ x=>Jz x
 |.jB _ x=>Jz x
 |.iT _ x=>Jz x
 |.lookup _ _ _ x _=>Jz x
 |.Ti x=>Jz x
 |_=>none
def OW(p i:iC):Bool:=match zM p.op,tI i.op with
 |some s,some ws=>ws.contains s&&!(p.dst==some s)
 |_,_=>false
theorem zcd{b:Option (List Nat)}{O O':Store}(h:∀s,(∀ws,b=some ws->s∈ws->dC e.slots s=dC e'.slots s)):yK b e O O'=yK b e' O O':=by
 cases b with
 |none=>rfl
 |some ws =>
  unfold yK;simp only[eP];have:∀s∈ws,pN e O O' s=pN e' O O' s:=fun s hs=>by
   unfold pN;rw[h s ws rfl hs]
  rw[Bool.eq_iff_iff,bM,bM];exact⟨fun k s hs=>(this s hs)▸k s hs,fun k s hs=>(this s hs).symm▸k s hs⟩
theorem zg7{s:Nat}{O O':Store}(h:(dC e.slots s).map Cell.d=(dC e'.slots s).map Cell.d):pN e O O' s=pN e' O O' s:=by
 unfold pN;cases h1:dC e.slots s with
 |none =>
  rw[h1]at h;cases h2:dC e'.slots s with
  |none=>rfl
  |some c=>rw[h2]at h;cases h
 |some c =>
  rw[h1]at h;cases h2:dC e'.slots s with
  |none=>rw[h2]at h;cases h
  |some c' =>rw[h2]at h;simp only[bN,aA]at h;simp only[eP,h]
theorem YP{x:dS}{s id off:Nat}{O O':Store}{cs:List Cell}(hx:Jz x=some s)(hp:kL e x=some (.ptr id off))(h:pN e O O' s=true)(hc:dC O.dE id=some cs):dC O'.dE id=some cs:=by
 have key:dC e.slots s=dC e.slots s->(dH (dC e.slots s) fun c=>xU c.d)=some (.ptr id off)->dC O'.dE id=some cs:=(by intro _ hp;obtain⟨c,h1,h2⟩:=dJ hp;unfold pN at h;rw[h1]at h;simp only[eP]at h;cases hd:c.d<;>rw[hd]at h2<;>simp only[xU,reduceCtorEq,aA,Ptr.ptr.injEq]at h2;obtain⟨rfl,rfl⟩:=h2;rw[hd]at h;simp only[hc,eP]at h;exact(zctb h).symm);cases x<;>simp only[Jz,reduceCtorEq,aA]at hx<;>subst hx<;>simp only[kL]at hp
 all_goals
  cases hl:dC e.dR _ with
  |none=>rw[hl]at hp;exact key rfl hp
  |some q=>rw[hl]at hp;simp only[eP,reduceCtorEq,aA]at hp
theorem zdq{x:dS}{s:Nat}{O O':Store}{c:Cell}{es:List (D×D×Nat)}(hx:Jz x=some s)(hp:eE e x=some c)(h:pN e O O' s=true)(hc:Cb O.dP c.d=some es):Cb O'.dP c.d=some es:=by
 have key:∀c0:Cell,dC e.slots s=some c0->c0.d=c.d->Cb O'.dP c.d=some es:=by
  intro c0 h1 h2;unfold pN at h;rw[h1]at h;simp only[eP]at h;rw[h2]at h;cases hd:c.d<;>rw[hd]at hc h<;>simp only[Cb,reduceCtorEq]at hc ⊢
  ·obtain⟨y,h3,hc⟩:=dJ hc;cases y<;>simp only[reduceCtorEq]at hc;simp only[h3,eP]at h;rw[<-zcsb h];exact hc
  ·exact hc
 cases x<;>simp only[Jz,reduceCtorEq,aA]at hx<;>subst hx<;>simp only[eE]at hp
 ·obtain⟨c0,h1,h2⟩:=dJ hp;cases h2;exact key c0 h1 rfl
 ·exact key c hp rfl
theorem zw3{op:iR}(hl:nZ op=true)(hn:Eg op=true){O O':Store}{s:Nat}(hs:zM op=some s)(h:pN e O O' s=true){v:Val}(hv:oM op e O=some v):oM op e O'=some v:=by
 cases op<;>simp only[Eg,aE]at hn
 case load k mv x =>
  simp only[zM]at hs;simp only[oM,eQ]at hv ⊢;obtain⟨p,h1,hv⟩:=dJ hv;rw[h1];simp only[dH,eP];cases p with
  |loc b off=>exact hv
  |gC d=>exact hv
  |ptr id off =>obtain⟨cs,h2,hv⟩:=dJ hv;simp only[YP hs h1 h h2,eP];exact hv
 case jB k x =>
  simp only[zM]at hs;simp only[oM,eQ]at hv ⊢;obtain⟨p,h1,hv⟩:=dJ hv;rw[h1];simp only[dH,eP];cases p with
  |loc b off=>cases hv
  |gC d=>cases hv
  |ptr id off =>obtain⟨cs,h2,hv⟩:=dJ hv;simp only[YP hs h1 h h2,eP];exact hv
 case iT k x =>
  simp only[zM]at hs;simp only[oM,eQ]at hv ⊢;obtain⟨p,h1,hv⟩:=dJ hv;rw[h1];simp only[dH,eP];cases p with
  |loc b off=>cases hv
  |gC d=>exact hv
  |ptr id off =>obtain⟨cs,h2,hv⟩:=dJ hv;simp only[YP hs h1 h h2,eP];exact hv
 case lookup ks z ok x y =>
  simp only[zM]at hs;simp only[oM,eQ]at hv ⊢;obtain⟨c,h1,hv⟩:=dJ hv;rw[h1];simp only[dH,eP];obtain⟨k,h2,hv⟩:=dJ hv;obtain⟨es,h3,hv⟩:=dJ hv;rw[h2,zdq hs h1 h h3];exact hv
 case Ti x =>
  simp only[zM]at hs;simp only[oM,eQ]at hv ⊢;obtain⟨c,h1,hv⟩:=dJ hv;rw[h1];simp only[dH,eP];obtain⟨es,h3,hv⟩:=dJ hv;rw[zdq hs h1 h h3];exact hv
theorem zx7{o:iC}(hl:nZ o.op=true)(hn:Eg o.op=true){O O':Store}{s:Nat}(hs:zM o.op=some s)(h:pN e O O' s=true){dat:yM}(hd:oW o e O=some dat):oW o e O'=some dat:=by
 unfold oW at hd ⊢;obtain⟨w,h1,hd⟩:=dJ hd;rw[h1];simp only[dH,eP];cases w with
 |false=>exact hd
 |true =>simp only[dQ]at hd ⊢;obtain⟨v,h2,hd⟩:=dJ hd;rw[zw3 hl hn hs h h2];exact hd
theorem zzy{op:iR}(hl:nZ op=true)(ha:Ec op=none){O:Store}{b off:Nat}(hv:oM op e O=some (.l b off)):∃t o,dC e.dR t=some (b,o):=by
 have YU:∀{x:dS}{b off:Nat},kL e x=some (.loc b off)->∃t,dC e.dR t=some (b,off):=by
  intro x b off h;have key:∀t,(iW (dC e.dR t) (dH (dC e.slots t) fun c=>xU c.d) fun p=>some (.loc p.1 p.2))=some (Ptr.loc b off)->dC e.dR t=some (b,off):=by
   intro t h;cases hl:dC e.dR t with
   |some p =>obtain⟨x,y⟩:=p;rw[hl]at h;simp only[eP,aA,Ptr.loc.injEq]at h;rw[h.1,h.2]
   |none =>rw[hl,qK]at h;obtain⟨c,h1,h⟩:=dJ h;cases hd:c.d<;>rw[hd]at h<;>simp only[xU,reduceCtorEq,aA]at h
  cases x with
  |tmp t=>exact⟨t,key t h⟩
  |mv t=>exact⟨t,key t h⟩
  |const d=>cases d<;>simp[kL,xU]at h
 cases op<;>simp only[nZ,aE]at hl<;>simp only[Ec,reduceCtorEq]at ha<;>simp only[oM,eQ]at hv
 case nilCheck x =>
  obtain⟨p,h1,hv⟩:=dJ hv;cases p<;>simp only[aA,Val.l.injEq,reduceCtorEq]at hv;obtain⟨rfl,rfl⟩:=hv;exact⟨_,_,(YU h1).choose_spec⟩
 case fieldAddr o k x =>
  obtain⟨p,h1,hv⟩:=dJ hv;cases p with
  |loc b' o' =>simp only[aA,Val.l.injEq]at hv;obtain⟨rfl,rfl⟩:=hv;exact⟨_,_,(YU h1).choose_spec⟩
  |ptr id o'=>simp at hv
  |gC d =>obtain⟨cs,_,hv⟩:=dJ hv;obtain⟨d',_,hv⟩:=dJ hv;cases hv
 case LX n sz x i =>
  obtain⟨p,h1,hv⟩:=dJ hv;obtain⟨ic,_,hv⟩:=dJ hv;obtain⟨m,_,hv⟩:=dJ hv;obtain⟨_,hv⟩:=gQ hv;cases p with
  |loc b' o' =>simp only[aA,Val.l.injEq]at hv;obtain⟨rfl,rfl⟩:=hv;exact⟨_,_,(YU h1).choose_spec⟩
  |ptr id o'=>simp at hv
  |gC d=>cases hv
 all_goals
  exfalso
  revert hv
  simp only[dH,iW,dK]
  repeat' split
  all_goals simp
def Mc(l m:List Nat):Bool:=l.all fun x=>!m.contains x
def PH(op:iR):Bool:=nZ op||xP op||(match op with|.call _ _=>true|.nE _ _=>true|.nD _ _ _=>true|.Kp _ _ _=>true|.panic _=>true|_=>false)
def UR(o:iC):Bool:=match Ec o.op with
 |some s=>o.dst==some s&&o.guard.isNone
 |none=>true
def Xs(p i:iC):Bool :=
 nZ p.op&&(PH i.op&&(nZ i.op||!Eg p.op||OW p i)&&Mc p.dst.toList (Bv i)&&Mc i.dst.toList (Bv p)&&Mc p.dst.toList i.dst.toList&&Mc (Bt p.op) (Bv i)&&Mc (Bt i.op) (Bv p) &&
 Mc p.dst.toList (Bt i.op)&&Mc i.dst.toList (Bt p.op)&&!SF (rb p.op) (wd i.op)&&!SF (rb i.op) (wd p.op)&&!F9 (wb p.op) (wb i.op)&&UR p&&UR i&&((Ec i.op).isNone||(Ec p.op).isSome))
theorem BQ{l m:List Nat}(h:Mc l m=true):∀s∈l,s∉m:=fun s hs=>by
 simpa using bM.1 h s hs
theorem YA{op:iR}(h:wb op=none):tU op e=none:=by
 cases op<;>simp only[wb,reduceCtorEq]at h<;>try rfl
 case sC k mv x=>cases mv<;>simp only[reduceCtorEq]at h;rfl
theorem qC.zd8{o:iC}{dat:yM}{O:Store}(hd:oW o e O=some dat)(hm:wb o.op=none):dat.2.2=none:=by
 rcases MO hd with h|h
 ·exact h
 ·rw[h,YA hm]
theorem r9{o:iC}{dat:yM}{O:Store}(hd:oW o e O=some dat):∀s∈dat.2.1,s∈Bt o.op:=by
 unfold oW at hd;obtain⟨w,_,h⟩:=dJ hd;cases w with
 |false=>simp only[dX,aA]at h;subst h;intro s hs;cases hs
 |true =>simp only[dQ]at h;obtain⟨v,_,h⟩:=dJ h;cases h;exact fun s hs=>hs
theorem BP{o:iC}{dat:yM}{O:Store}(hd:oW o e O=some dat)(ho:UR o=true){s:Nat}(ha:Ec o.op=some s):o.dst=some s/\rE e.dR s=true/\dat.1=.l s 0:=by
 unfold UR at ho;rw[ha]at ho;simp only[aC,beq_iff_eq,Option.isNone_iff_eq_none]at ho;unfold oW at hd;rw[ho.2]at hd;simp only[Ee,dH,eP,dQ]at hd;cases hop:o.op<;>rw[hop]at ha hd<;>simp only[Ec,reduceCtorEq,aA]at ha<;>subst ha
 ·simp only[oM]at hd;cases hf:rE e.dR _ with
  |false=>rw[hf]at hd;cases hd
  |true =>rw[hf]at hd;simp only[dQ,eP,aA]at hd;subst hd;exact⟨ho.1,rfl,rfl⟩
 ·rename_i s x;simp only[oM]at hd;cases hx:eE e x with
  |none=>rw[hx]at hd;cases hd
  |some c =>
   rw[hx]at hd;simp only[dH,eP]at hd;cases hf:rE e.dR s with
   |false=>rw[hf]at hd;cases hd
   |true =>
    rw[hf,bX]at hd;cases hok:c.d.ok with
    |false=>rw[hok]at hd;cases hd
    |true =>rw[hok]at hd;simp only[dQ,eP,aA]at hd;subst hd;exact⟨ho.1,rfl,rfl⟩
theorem WG{op:iR}(h:lW (looks op) e e'):zD op e=zD op e':=by
 cases op<;>simp only[looks]at h<;>simp only[zD]
 case call f az=>rw[Jm h]
 case nE x az=>rw[iJ h.left,Jm h.right]
 case nD ws f az=>rw[Jm h]
 case Kp ws x az=>rw[iJ h.left,Jm h.right]
theorem zz{op:iR}(h:lW (looks op) e e'):Wn op e=Wn op e':=by
 cases op<;>simp only[looks]at h<;>simp only[Wn]
 case panic x=>rw[iJ h]
inductive xC:uM->uM->Prop where
 |normal {e e':Env} {O:Store} (h:nT e e'):xC (.normal e O) (.normal e' O)
 |panic {d:D} {e e':Env} {O:Store} (h:e.defers=e'.defers):xC (.panic d e O) (.panic d e' O)
theorem xC.refl(o:uM):xC o o:=by
 cases o
 ·exact .normal (nT.refl _)
 ·exact .panic rfl
theorem xC.trans{o o' o'':uM}(h:xC o o')(k:xC o' o''):xC o o'':=by
 cases h with
 |normal h=>cases k with|normal k=>exact .normal (h.trans k)
 |panic h=>cases k with|panic k=>exact .panic (h.trans k)
theorem nT.agree{e e':Env}(h:nT e e')(L:List Nat):lW L e e':=fun s _=>⟨h.slots s,h.dR s⟩
theorem nT.zW{e e':Env}(h:nT e e')(op:iR):Yf op e e':=zfy h.boxes
theorem nT.lfr{e e':Env}(h:nT e e')(s:Nat):rE e.dR s=rE e'.dR s:=by
 have:rE e.dR s=true↔rE e'.dR s=true:=by simp only[Jp,h.dR]
 cases h1:rE e.dR s<;>cases h2:rE e'.dR s<;>simp_all
def zgp:iR->Bool
 |.store _ _ _=>true
 |_=>false
def Pm(op:iR):Bool:=PH op||zgp op
theorem EI{e e':Env}(h:nT e e')(d:Option Nat)(c:Cell):nT (e.put d c) (e'.put d c):=by
 cases d with
 |none=>exact h
 |some s=>exact⟨fun t=>by simp only[Env.put,jM,h.slots],fun t=>by simp only[Env.put,mK,h.dR],h.boxes,h.defers⟩
theorem zzr{e e':Env}(h:nT e e'){dst:Option Nat}{k:Nat}{x y:dS}{O:Store}{e1:Env}{O1:Store}(hs:gR dst (.store k x y) e O=some (e1,O1)):∃pW,gR dst (.store k x y) e' O=some (pW,O1)/\nT e1 pW:=by
 have hd:nT (y.drop e) (y.drop e'):=(by obtain⟨k1,k2,k3⟩:=l7 (e:=e) y;obtain⟨q1,q2,q3⟩:=l7 (e:=e') y;exact⟨fun s=>by rw[l8,l8,h.slots],fun s=>by rw[k1,q1,h.dR],fun s=>by rw[k2,q2,h.boxes],by rw[k3,q3,h.defers]⟩);simp only[gR]at hs ⊢;rw[<-wV (h.agree _),<-iJ (h.agree _)];obtain⟨p,h1,hs⟩:=dJ hs;obtain⟨c,h2,hs⟩:=dJ hs;rw[h1,h2];simp only[dH,eP];cases p with
 |loc b off =>
  simp only at hs ⊢;obtain⟨cs,h3,hs⟩:=dJ hs;obtain⟨h4,hs⟩:=gQ hs;cases hs;rw[<-h.boxes,h3];simp only[eP,h4,dQ];have hE:nT {y.drop e with boxes:=fF e.boxes b (putCells cs off (pK c))} {y.drop e' with boxes:=fF e'.boxes b (putCells cs off (pK c))} :=
   ⟨hd.slots,hd.dR,fun s=>by simp only[jM,h.boxes],hd.defers⟩
  exact⟨_,rfl,EI hE _ _⟩
 |ptr id off =>simp only at hs ⊢;obtain⟨cs,h3,hs⟩:=dJ hs;obtain⟨h4,hs⟩:=gQ hs;cases hs;rw[h3];simp only[eP,h4,dQ];exact⟨_,rfl,EI hd _ _⟩
 |gC d=>cases hs
theorem zc5b{e e':Env}(h:nT e e'){o:iC}(ho:Pm o.op=true){O:Store}{st:Step}(hs:pC o e O=some st) :
  (∃e1 pW O1,st=.next e1 O1/\pC o e' O=some (.next pW O1)/\nT e1 pW)\/((∀e1 O1,st≠.next e1 O1)/\pC o e' O=some st):=by
 by_cases hl:nZ o.op=true
 ·obtain⟨dat,e1,h1,rfl,h2⟩:=ZX hl hs;rw[LU O hl (h.agree _) (h.zW _) (fun _ b=>h.boxes b) (fun s _=>h.lfr s)]at h1;obtain⟨pW,k1,k2⟩:=NK hl O h1;exact .inl ⟨e1,pW,O,rfl,k1,h2.eqv k2 h⟩
 ·unfold pC at hs ⊢;obtain⟨w,hw,hs⟩:=dJ hs;rw[<-Zv (o:=o) (h.agree _),hw];simp only[dH,eP];cases w with
  |false =>simp only[dX,aA]at hs ⊢;subst hs;exact .inl ⟨_,_,_,rfl,rfl,EI h _ _⟩
  |true =>
   simp only[dQ]at hs ⊢;by_cases hm:xP o.op=true
   ·rw[ZL hm]at hs ⊢;simp only at hs ⊢;rw[XB hm]at hs ⊢;obtain⟨⟨e1,O1⟩,h1,hs⟩:=dJ hs;cases hs;unfold fP at h1 ⊢;rw[<-WO O hm (h.agree _)];obtain⟨r,h2,h1⟩:=dJ h1;cases h1;rw[h2];exact .inl ⟨_,_,_,rfl,rfl,EI h _ _⟩
   have hm':xP o.op=false:=by simpa using hm
   cases hk:o.op<;>rw[hk]at ho hl hs hm'<;>simp only[Pm,PH,nZ,zgp,hm',Bool.or_self,aE,not_true_eq_false]at ho hl<;>simp only[iR.kind]at hs ⊢<;>simp only[xP]at hm'
   ·exfalso;rename_i k mv x;cases mv<;>simp at ho hl
   ·obtain⟨⟨e1,O1⟩,h1,hs⟩:=dJ hs;cases hs;obtain⟨pW,k1,k2⟩:=zzr h h1;rw[k1];exact .inl ⟨e1,pW,O1,rfl,rfl,k2⟩
   all_goals first
    |(obtain⟨⟨f,az⟩,h1,hs⟩:=dJ hs
      cases hs;rw[<-WG (h.agree _),h1];exact .inr ⟨(fun _ _ h=>by cases h),rfl⟩)
    |(obtain⟨d,h1,hs⟩:=dJ hs
      cases hs;rw[<-zz (h.agree _),h1];exact .inr ⟨(fun _ _ h=>by cases h),rfl⟩)
theorem XT{C:eV}:∀{l:List iC}(_:∀o∈l,Pm o.op=true){e e':Env}(_:nT e e'){O:Store}{out:uM},mR C l e O=some out->∃out',mR C l e' O=some out'/\xC out out'
 |[],_,e,e',he,O,out,h=>by
  simp only[mR,aA]at h;subst h;exact⟨_,rfl,.normal he⟩
 |o::l,hl,e,e',he,O,out,h=>by
  simp only[mR]at h ⊢;obtain⟨st,h1,h⟩:=dJ h;have ih:=@XT C l fun o ho=>hl o (by simp[ho]);rcases zc5b he (hl o (by simp)) h1 with⟨e1,pW,O1,rfl,k1,k2⟩|⟨k0,k1⟩
  ·rw[k1];simp only at h;obtain⟨h3,h⟩:=gQ h;rw[zcd (e':=e') (fun s _ _ _=>he.slots s)]at h3;simp only[dH,eP,h3,dQ];exact ih k2 h
  ·rw[k1];simp only[dH,eP];cases st with
   |next e1 O1=>exact absurd rfl (k0 e1 O1)
   |call f az =>
    simp only at h ⊢;obtain⟨⟨r,O1⟩,h2,h⟩:=dJ h;rw[h2];obtain⟨h3,h⟩:=gQ h;rw[zcd (e':=e') (fun s _ _ _=>he.slots s)]at h3;simp only[eP,h3,dQ];cases r with
    |ret c=>exact ih (EI he _ _) h
    |panic d =>simp only[aA]at h;subst h;exact⟨_,rfl,.panic he.defers⟩
   |panic d =>simp only[aA]at h;subst h;exact⟨_,rfl,.panic he.defers⟩
def F3(C:eV)(i:iC)(l:List iC)(e:Env)(O:Store):Option uM:=dH (pC i e O) fun s=>match s with
 |.next e' O'=>mR C l e' O'
 |.call f az=>dH (C f az O) fun r=>match r.1 with
  |.ret c=>mR C l (e.put i.dst c) r.2
  |.panic d=>some (.panic d e r.2)
 |.panic d=>some (.panic d e O)
def PR(C:eV)(i:iC)(e:Env)(O O1:Store):Prop:=(∃e',pC i e O=some (.next e' O1))\/∃f az r,pC i e O=some (.call f az)/\C f az O=some (r,O1)
theorem zbf{o:iC}(h:nZ o.op=true):tI o.op=none:=by cases ho:o.op<;>rw[ho]at h<;>simp only[nZ,aE]at h<;>rfl
theorem zchb{C:eV}{p i:iC}(ha:Xs p i=true){l:List iC}(hl:∀o∈l,Pm o.op=true){O:Store}{out:uM}{pd:yM}{e1:Env}(q1:oW p e O=some pd)(q2:qC p.dst pd e e1)(h:F3 C i l e1 O=some out)
  (hW:Eg p.op=true->nZ i.op=false->∀O1,PR C i e1 O O1->∃s,zM p.op=some s/\pN e O O1 s=true) :
  ∃out',F3 C i (p::l) e O=some out'/\xC out out':=by
 simp only[Xs,aC,Bool.not_eq_true']at ha;obtain⟨hlp,⟨⟨⟨⟨⟨⟨⟨⟨⟨⟨⟨⟨⟨⟨hpi,a0⟩,a1⟩,a2⟩,a3⟩,a4⟩,a5⟩,a6⟩,a7⟩,b1⟩,b2⟩,b3⟩,b4⟩,b5⟩,b6⟩⟩:=ha;have a0':=Bool.or_eq_true_iff.1 a0;have b6':=Bool.or_eq_true_iff.1 b6;simp only[F3,mR]at h ⊢;obtain⟨st2,h2,h⟩:=dJ h;have Gg:∀{d:Option Nat}{L:List Nat},Mc d.toList L=true->∀s,d=some s->s∉L:=fun hh s hs=>BQ hh s (by simp[hs]);have ag:lW (Bv i) e e1:=q2.agree (Gg a1) (fun s hs=>BQ a4 s (r9 q1 s hs));have mvp:U3 p.op=true->wb i.op=none:=fun hm=>by
  cases hp:p.op<;>rw[hp]at hm<;>simp only[U3,aE]at hm;subst hm;rw[hp]at b3;cases hw:wb i.op with
  |none=>rfl
  |some r=>rw[hw]at b3;cases r<;>simp[wb,F9]at b3
 have mvi:U3 i.op=true->wb p.op=none:=fun hm=>by
  cases hi:i.op<;>rw[hi]at hm<;>simp only[U3,aE]at hm;subst hm;rw[hi]at b3;cases hw:wb p.op with
  |none=>rfl
  |some r=>rw[hw]at b3;cases r<;>simp[wb,F9]at b3
 by_cases kE:nZ i.op=true
 ·obtain⟨yl,e2,r1,rfl,r2⟩:=ZX kE h2;have r1':oW i e O=some yl:=by
   rw[<-r1];refine LU O kE ag (q2.zW q1 b2) (fun hm b=>?_) (fun s' hs'=>?_)
   ·rw[q2.boxes,qC.zd8 q1 (mvi hm)]
   ·
    have hp:(Ec p.op).isSome=true:=b6'.resolve_left (by rw[hs'];simp);obtain⟨s,hs⟩:=aT.1 hp;obtain⟨k1,k2,k3⟩:=BP q1 b4 hs;obtain⟨g1,g2,g3⟩:=BP r1 b5 hs';rw[g2];have hne:s≠s':=fun hh=>Gg a3 s k1 (by rw[g1,hh];simp);obtain⟨m1,m2⟩:=Jp.1 g2;obtain⟨n1,n2⟩:=Jp.1 k2;refine Jp.2 ⟨?_,fun t b o ht=>?_⟩
    ·rw[q2.dR,if_neg (fun hh=>hne (by rw[k1]at hh;exact Option.some.inj hh))]at m1;exact m1
    ·by_cases hts:t=s
     ·rw[hts,n1]at ht;cases ht
     ·refine m2 t b o ?_;rw[q2.dR,k1,if_neg (fun hh=>hts (Option.some.inj hh).symm)];exact ht
  obtain⟨pW,s1,s2⟩:=NK kE O r1';have q1':oW p pW O=some pd:=by
   rw[<-q1];refine(LU O hlp (s2.agree (Gg a2) (fun s hs=>BQ a5 s (r9 r1' s hs))) (s2.zW r1' b1) (fun hm b=>?_) (fun s hs=>?_)).symm
   ·rw[s2.boxes,qC.zd8 r1' (mvp hm)]
   ·obtain⟨k1,k2,k3⟩:=BP q1 b4 hs;rw[k2];symm;obtain⟨n1,n2⟩:=Jp.1 k2;have hd:i.dst≠some s:=fun hh=>Gg a3 s k1 (by rw[hh];simp);refine Jp.2 ⟨by rw[s2.dR,if_neg hd];exact n1,fun t b o ht=>?_⟩;rw[s2.dR]at ht;split at ht
    ·
     cases hia:Ec i.op with
     |some s' =>obtain⟨g1,g2,g3⟩:=BP r1' b5 hia;rw[g3]at ht;simp only[Val.ui,aA,Prod.mk.injEq]at ht;intro hh;apply hd;rw[g1,ht.1,hh]
     |none =>
      cases hv:yl.1 with
      |c c=>rw[hv]at ht;cases ht
      |l b' o' =>
       rw[hv]at ht;simp only[Val.ui,aA,Prod.mk.injEq]at ht;obtain⟨rfl,rfl⟩:=ht;have hvv:∃v,oM i.op e O=some v/\v=yl.1:=by
        unfold oW at r1';obtain⟨w,_,r1'⟩:=dJ r1';cases w with
        |false=>simp only[dX,aA]at r1';subst r1';cases hv
        |true =>simp only[dQ]at r1';obtain⟨v,hv',r1'⟩:=dJ r1';cases r1';exact⟨v,hv',rfl⟩
       obtain⟨v,hv1,hv2⟩:=hvv;rw[hv2,hv]at hv1;obtain⟨t',o2,hl'⟩:=zzy kE hia hv1;exact n2 t' _ _ hl'
    ·exact n2 t b o ht
  obtain⟨e2',t1,t2⟩:=NK hlp O q1'
  have hE:nT e2 e2':=q2.swap r2 s2 t2 (fun s hs k=>Gg a3 s hs (by simp[k])) (fun s hs k=>Gg a6 s hs (r9 r1' s k)) (fun s hs k=>Gg a7 s hs (r9 q1 s k)) (by
   rcases MO q1 with hp|hp
   ·exact .inl hp
   ·rcases MO r1' with hi|hi
    ·exact .inr (.inl hi)
    ·cases hpb:tU p.op e with
     |none=>exact .inl (hp.trans hpb)
     |some x =>
      cases hib:tU i.op e with
      |none=>exact .inr (.inl (hi.trans hib))
      |some y =>
       obtain⟨bp,fp⟩:=x;obtain⟨bi,fi⟩:=y;refine .inr (.inr ⟨bp,fp,bi,fi,hp.trans hpb,hi.trans hib,?_⟩);have s1:=(YB hpb).2;have s2:=(YB hib).2;have n1:wb p.op≠none:=fun h=>by rw[YA h]at hpb;cases hpb
       have n2:wb i.op≠none:=fun h=>by rw[YA h]at hib;cases hib
       cases hwp:wb p.op with
       |none=>exact absurd hwp n1
       |some x =>
        cases yj:wb i.op with
        |none=>exact absurd yj n2
        |some y =>
         rw[hwp,yj]at b3;cases x with
         |none=>cases y<;>simp[F9]at b3
         |some x =>
          cases y with
          |none=>simp[F9]at b3
          |some y =>
           have:=s1 x hwp;have:=s2 y yj
           subst_vars
           simpa[F9]using b3)
  rw[s1];have hso:∀ee Oa Ob,yK (tI p.op) ee Oa Ob=true:=fun ee Oa Ob=>by rw[zbf hlp];rfl
  simp only[dH,eP,t1,hso,dQ];exact XT hl hE h
 ·
  have UN:nZ i.op=false:=by simpa using kE
  have h2s:=h2;unfold pC at h2 ⊢;obtain⟨w,hw,h2⟩:=dJ h2;rw[Zv ag,hw];simp only[dH,eP]
  have after:∀(c:Cell)(O1:Store)(out:uM),(Eg p.op=true->O1=O\/∃s,zM p.op=some s/\pN e O O1 s=true)->mR C l (e1.put i.dst c) O1=some out->∃out',(iW (pC p (e.put i.dst c) O1) none fun s=>match s with
    |.next e' O'=>dK (yK (tI p.op) (e.put i.dst c) O1 O') (mR C l e' O') none
    |.call f az=>dH (C f az O1) fun r=>dK (yK (tI p.op) (e.put i.dst c) O1 r.2) (match r.1 with
     |.ret c'=>mR C l ((e.put i.dst c).put p.dst c') r.2
     |.panic d=>some (.panic d (e.put i.dst c) r.2)) none
    |.panic d=>some (.panic d (e.put i.dst c) O1))=some out'/\xC out out':=by
   intro c O1 out hst hrun;have s2:qC i.dst (.c c,[],none) e (e.put i.dst c):=vD (v:=.c c) [] none (fun s=>by simp) rfl (fun b=>rfl) rfl;have r2:qC i.dst (.c c,[],none) e1 (e1.put i.dst c):=vD (v:=.c c) [] none (fun s=>by simp) rfl (fun b=>rfl) rfl;have q1O:oW p e O1=some pd:=by
    cases hn:Eg p.op with
    |false=>rw[<-zuy hlp hn e O O1];exact q1
    |true =>
     rcases hst hn with rfl|⟨s,hs1,hw1⟩
     ·exact q1
     ·exact zx7 hlp hn hs1 hw1 q1
   have q1':oW p (e.put i.dst c) O1=some pd:=by
    rw[<-q1O];refine(LU O1 hlp (s2.agree (Gg a2) (fun s hs=>by cases hs)) (zfy fun b=>by rw[s2.boxes]) (fun _ b=>by rw[s2.boxes]) (fun s hs=>?_)).symm;obtain⟨k1,k2,k3⟩:=BP q1 b4 hs;rw[k2];symm;obtain⟨n1,n2⟩:=Jp.1 k2;have hd:i.dst≠some s:=fun hh=>Gg a3 s k1 (by rw[hh];simp);refine Jp.2 ⟨by rw[s2.dR,if_neg hd];exact n1,fun t b o ht=>?_⟩;rw[s2.dR]at ht;split at ht
    ·cases ht
    ·exact n2 t b o ht
   obtain⟨e2',t1,t2⟩:=NK hlp O1 q1';have hE:=q2.swap r2 s2 t2 (fun s hs k=>Gg a3 s hs (by simp[k])) (fun s hs k=>by cases k) (fun s hs k=>Gg a7 s hs (r9 q1 s k)) (.inr (.inl rfl));rw[t1];have hso:∀ee Oa Ob,yK (tI p.op) ee Oa Ob=true:=fun ee Oa Ob=>by rw[zbf hlp];rfl
   simp only[eP,hso,dQ];exact XT hl hE hrun
  cases w with
  |false =>simp only[dX,aA]at h2 ⊢;subst h2;simp only at h;exact after _ O out (fun _=>.inl rfl) h
  |true =>
   simp only[dQ]at h2 ⊢;have hdf:e1.defers=e.defers:=q2.defers;have ldw:Eg p.op=true->OW p i=true:=fun hn=>by
    rcases a0' with hx|hx
    ·rcases Bool.or_eq_true_iff.1 hx with hx|hx
     ·exact absurd hx kE
     ·rw[hn]at hx;cases hx
    ·exact hx
   by_cases hm:xP i.op=true
   ·rw[ZL hm]at h2 ⊢;simp only at h2 ⊢;rw[XB hm]at h2 ⊢;obtain⟨⟨e2,O2⟩,h3,h2⟩:=dJ h2;cases h2;unfold fP at h3 ⊢;rw[WO (e':=e1) O hm (lW.right ag)];obtain⟨r,h4,h3⟩:=dJ h3;cases h3;rw[h4];refine after _ _ out (fun hn=>?_) h;exact .inr (hW hn UN _ (.inl ⟨_,h2s⟩))
   have hm':xP i.op=false:=by simpa using hm
   cases hk:i.op.kind with
   |op =>exfalso;cases hi:i.op<;>rw[hi]at hpi UN hm' hk<;>simp only[iR.kind,reduceCtorEq]at hk<;>simp only[PH,UN,hm',Bool.or_self,aE]at hpi
   |call =>
    rw[hk]at h2;simp only at h2 ⊢;obtain⟨⟨f,az⟩,h3,h2⟩:=dJ h2;cases h2;rw[WG (e':=e1) (lW.right ag),h3];simp only[dH,eP]at h ⊢;obtain⟨⟨r,O1⟩,h4,h⟩:=dJ h;rw[h4];simp only[eP]at h ⊢;cases r with
    |ret c=>exact after c O1 out (fun hn=>.inr (hW hn UN _ (.inr ⟨_,_,_,h2s,h4⟩))) h
    |panic d =>simp only[aA]at h;subst h;exact⟨_,rfl,.panic hdf⟩
   |panic =>rw[hk]at h2;simp only at h2 ⊢;obtain⟨d,h3,h2⟩:=dJ h2;cases h2;rw[zz (e':=e1) (lW.right ag),h3];simp only[aA]at h;subst h;exact⟨_,rfl,.panic hdf⟩
theorem zuf{i:iC}{O:Store}{f:FuncId}{az:List D}(h:lW (Bv i) e e')(hs:pC i e O=some (.call f az)):pC i e' O=some (.call f az):=by
 unfold pC at hs ⊢;rw[<-Zv h];obtain⟨w,h1,hs⟩:=dJ hs;rw[h1];simp only[dH,eP];cases w with
 |false=>simp only[dX,aA,reduceCtorEq]at hs
 |true =>
  simp only[dQ]at hs ⊢;cases hk:i.op.kind with
  |op =>rw[hk]at hs;obtain⟨r,_,hs⟩:=dJ hs;cases hs
  |panic =>rw[hk]at hs;obtain⟨r,_,hs⟩:=dJ hs;cases hs
  |call =>rw[hk]at hs;simp only at hs ⊢;rw[<-WG (lW.right h)];exact hs
theorem zvz{i:iC}(hm:xP i.op=true){O O1:Store}{e1:Env}(h:lW (Bv i) e e')(hs:pC i e O=some (.next e1 O1)):∃e2,pC i e' O=some (.next e2 O1):=by
 unfold pC at hs ⊢;rw[<-Zv h];obtain⟨w,h1,hs⟩:=dJ hs;rw[h1];simp only[dH,eP];cases w with
 |false =>simp only[dX,aA,Step.next.injEq]at hs ⊢;exact⟨_,rfl,hs.2⟩
 |true =>simp only[dQ,ZL hm]at hs ⊢;rw[XB hm]at hs ⊢;obtain⟨r,h2,hs⟩:=dJ hs;cases hs;unfold fP at h2 ⊢;rw[<-WO O hm (lW.right h)];obtain⟨q,h3,h2⟩:=dJ h2;cases h2;rw[h3];exact⟨_,rfl⟩
theorem zzj{C:eV}{i:iC}(hs:(tI i.op).isSome=true){O O1:Store}(h:lW (Bv i) e e')(hr:PR C i e O O1):PR C i e' O O1:=by
 rcases hr with⟨e2,h1⟩|⟨f,az,r,h1,h2⟩
 ·have hk:xP i.op=true\/i.op.kind=.call:=by
   cases ho:i.op<;>rw[ho]at hs<;>simp only[tI,Option.isSome_none,aE]at hs
   ·exact .inr rfl
   ·exact .inr rfl
   ·exact .inl rfl
  rcases hk with hm|hk
  ·exact .inl (zvz hm h h1)
  ·
   unfold pC at h1;obtain⟨w,g1,h1⟩:=dJ h1;cases w with
   |true =>simp only[dQ,hk]at h1;obtain⟨r,_,h1⟩:=dJ h1;cases h1
   |false =>simp only[dX,aA,Step.next.injEq]at h1;refine .inl ⟨e'.put i.dst ⟨false,.undef⟩,?_⟩;unfold pC;rw[<-Zv h,g1];simp only[dH,eP,dX,h1.2]
 ·exact .inr ⟨f,az,r,zuf h h1,h2⟩
def qz:List iC->Prop
 |[]=>True
 |p::l=>(∀s,zM p.op=some s->∀a∈l,a.dst≠some s)/\qz l
theorem ze2{C:eV}{i:iC}:∀{A B:List iC}(_:∀p∈A,Xs p i=true)(_:∀o∈A++B,Pm o.op=true)(_:qz A){e:Env}{O:Store}{out:uM},mR C (A++i::B) e O=some out ->
  ∃out',F3 C i (A++B) e O=some out'/\xC out out'/\∀O1,PR C i e O O1->∀ws,tI i.op=some ws->∀s∈ws,(∀a∈A,a.dst≠some s)->pN e O O1 s=true
 |[],B,_,_,_,e,O,out,h=>by
  simp only[bG,mR]at h;refine⟨out,?_,xC.refl out,?_⟩
  ·simp only[bG,F3];obtain⟨st,h1,h⟩:=dJ h;rw[h1];simp only[dH,eP];cases st with
   |next e' O'=>exact(gQ h).2
   |panic d=>exact h
   |call f az =>simp only at h ⊢;obtain⟨r,h2,h⟩:=dJ h;rw[h2];exact(gQ h).2
  ·intro O1 hres ws hws s hsw _;obtain⟨st,h1,h⟩:=dJ h;have key:yK (tI i.op) e O O1=true:=by
    rcases hres with⟨e2,hs⟩|⟨f,az,r,hs,hc⟩
    ·rw[hs]at h1;cases h1;exact(gQ h).1
    ·rw[hs]at h1;cases h1;simp only at h;obtain⟨r',h2,h⟩:=dJ h;rw[hc]at h2;cases h2;exact(gQ h).1
   rw[hws]at key;unfold yK at key;simp only[eP]at key;exact bM.1 key s hsw
 |p::A,B,ha,hl,ho,e,O,out,h=>by
  have hp:=ha p (by simp);have hp':=hp;simp only[Xs,aC,Bool.not_eq_true']at hp';obtain⟨hlp,⟨⟨⟨⟨⟨⟨⟨⟨⟨⟨⟨⟨⟨⟨hpi,a0⟩,a1⟩,a2⟩,a3⟩,a4⟩,a5⟩,a6⟩,a7⟩,b1⟩,b2⟩,b3⟩,b4⟩,b5⟩,b6⟩⟩:=hp';simp only[aW]at h ⊢;simp only[mR]at h;obtain⟨st,h1,h⟩:=dJ h;obtain⟨pd,e1,q1,rfl,q2⟩:=ZX hlp h1;simp only at h;obtain⟨_,h⟩:=gQ h;obtain⟨out1,k1,k2,k3⟩:=ze2 (fun q hq=>ha q (by simp[hq])) (fun o ho=>hl o (by simp at ho ⊢;exact .inr ho)) ho.2 h;have zkd:∀s,p.dst≠some s->(dC e1.slots s).map Cell.d=(dC e.slots s).map Cell.d:=by
   intro s hs;rw[q2.slots,if_neg hs];split
   ·cases dC e.slots s<;>rfl
   ·rfl
  have ag:lW (Bv i) e e1:=q2.agree (fun s hs=>BQ a1 s (by simp[hs])) (fun s hs=>BQ a4 s (r9 q1 s hs))
  obtain⟨out2,g1,g2⟩:=zchb hp (fun o ho=>hl o (by simp at ho ⊢;exact .inr ho)) q1 q2 k1 (fun hn kE O1 hres=>by
   have hw:OW p i=true:=by
    rcases Bool.or_eq_true_iff.1 a0 with hx|hx
    ·rcases Bool.or_eq_true_iff.1 hx with hx|hx
     ·rw[kE]at hx;cases hx
     ·rw[hn]at hx;cases hx
    ·exact hx
   unfold OW at hw;cases hl1:zM p.op with
   |none=>rw[hl1]at hw;cases hw
   |some s =>
    cases hs1:tI i.op with
    |none=>rw[hl1,hs1]at hw;cases hw
    |some ws =>
     rw[hl1,hs1]at hw;simp only[aC,Bool.not_eq_true',beq_eq_false_iff_ne]at hw;refine⟨s,rfl,?_⟩;rw[<-zg7 (zkd s hw.2)];exact k3 O1 hres ws hs1 s (by simpa using hw.1) (ho.1 s hl1))
  refine⟨out2,g1,k2.trans g2,fun O1 hres ws hws s hsw hall=>?_⟩;rw[<-zg7 (zkd s (hall p (by simp)))];exact k3 O1 (zzj (by rw[hws];rfl) ag hres) ws hws s hsw (fun a ha=>hall a (by simp[ha]))
end
end Go.Mx
