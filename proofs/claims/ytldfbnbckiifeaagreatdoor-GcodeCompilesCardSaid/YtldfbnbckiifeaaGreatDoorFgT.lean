/- A part of the proof. -/
import Derived.Test.YtldfbnbckiifeaaGreatDoorFgLib
set_option maxHeartbeats 4000000
set_option linter.all false
namespace Go.Mx
open Go
abbrev oC:=Option (rO×Env×Store)
def Re(x:oC)(f:Env->Store->oC):oC:=match x with
 |some (.normal,e,O)=>f e O
 |r=>r
def Qd(id:Nat)(x:oC):oC:=match x with
 |some (.exit id',e,O)=>dK (id'==id) (some (.normal,e,O)) (some (.exit id',e,O))
 |r=>r
def Qj(x:oC):oC:=match x with
 |some (.goto _,_,_)=>none
 |r=>r
def Yo(perm:Option (List Nat))(vR:List Nat)(x:Option uM):oC:=match x with
 |some (.normal e O)=>some (.normal,CR e vR,O)
 |some (.panic d e O)=>some (.panic d,iW perm e (fun _=>e.bare),O)
 |none=>none
def Ky(C:eV)(rest:List iC)(dst:Option Nat)(st:Option (List Nat))(e:Env)(cH:Store)(r:Option (Out×Store)):Option uM:=match r with
 |some (.ret c,O)=>dK (yK st e cH O) (mR C rest (e.put dst c) O) none
 |some (.panic d,O)=>dK (yK st e cH O) (some (.panic d e O)) none
 |none=>none
def Rb(C:eV)(rest:List iC)(dst:Option Nat)(st:Option (List Nat))(e:Env)(O:Store)(s:Option Step):Option uM:=match s with
 |some (.next e' O')=>dK (yK st e O O') (mR C rest e' O') none
 |some (.call f az)=>Ky C rest dst st e O (C f az O)
 |some (.panic d)=>some (.panic d e O)
 |none=>none
@[congr] theorem zn7b{x y:oC}(f:Env->Store->oC)(h:x=y):Re x f=Re y f:=by rw[h]
@[congr] theorem znzb{x y:oC}(id:Nat)(h:x=y):Qd id x=Qd id y:=by rw[h]
@[congr] theorem zn3b{x y:oC}(h:x=y):Qj x=Qj y:=by rw[h]
@[congr] theorem zn9b{x y:Option uM}(p:Option (List Nat))(l:List Nat)(h:x=y):Yo p l x=Yo p l y:=by rw[h]
@[congr] theorem zn4b{x y:Option (Out×Store)}(C:eV)(rest:List iC)(dst:Option Nat)(st:Option (List Nat))(e:Env)(cH:Store)(h:x=y):Ky C rest dst st e cH x=Ky C rest dst st e cH y:=by rw[h]
@[congr] theorem zn6b{x y:Option Step}(C:eV)(rest:List iC)(dst:Option Nat)(st:Option (List Nat))(e:Env)(O:Store)(h:x=y):Rb C rest dst st e O x=Rb C rest dst st e O y:=by rw[h]
section
variable{C:eV}{n:Nat}{e:Env}{O:Store}
theorem WI{f:Env->Store->oC}:Re (some (.normal,e,O)) f=f e O:=rfl
theorem zwv{id:Nat}{f:Env->Store->oC}:Re (some (.exit id,e,O)) f=some (.exit id,e,O):=rfl
theorem zzw{f:Env->Store->oC}:Re (some (.ret,e,O)) f=some (.ret,e,O):=rfl
theorem zto{d:D}{f:Env->Store->oC}:Re (some (.panic d,e,O)) f=some (.panic d,e,O):=rfl
theorem zt{id:Nat}:Qd id (some (.normal,e,O))=some (.normal,e,O):=rfl
theorem zrf{id id':Nat}:Qd id (some (.exit id',e,O))=dK (id'==id) (some (.normal,e,O)) (some (.exit id',e,O)):=rfl
theorem zt7{id:Nat}:Qd id (some (.ret,e,O))=some (.ret,e,O):=rfl
theorem zpt{id:Nat}{d:D}:Qd id (some (.panic d,e,O))=some (.panic d,e,O):=rfl
theorem zsy{p:Option (List Nat)}{l:List Nat}:Yo p l (some (.normal e O))=some (.normal,CR e l,O):=rfl
theorem zny{l:List Nat}{d:D}:Yo none l (some (.panic d e O))=some (.panic d,e,O):=rfl
theorem znz{p:List Nat}{l:List Nat}{d:D}:Yo (some p) l (some (.panic d e O))=some (.panic d,e.bare,O):=rfl
theorem zxu{rest:List iC}{dst:Option Nat}{c:Cell}{cH:Store}:Ky C rest dst none e cH (some (.ret c,O))=mR C rest (e.put dst c) O:=rfl
theorem WZ{rest:List iC}{dst:Option Nat}{c:Cell}{cH:Store}{ws:List Nat}:Ky C rest dst (some ws) e cH (some (.ret c,O))=dK (ws.all (pN e cH O)) (mR C rest (e.put dst c) O) none:=rfl
theorem zrh{rest:List iC}{dst:Option Nat}{d:D}{cH:Store}:Ky C rest dst none e cH (some (.panic d,O))=some (.panic d e O):=rfl
theorem zwl{rest:List iC}{dst:Option Nat}{e':Env}{O':Store}:Rb C rest dst none e O (some (.next e' O'))=mR C rest e' O':=rfl
theorem zwk{rest:List iC}{dst:Option Nat}{st:Option (List Nat)}{f:FuncId}{az:List D}:Rb C rest dst st e O (some (.call f az))=Ky C rest dst st e O (C f az O):=rfl
theorem zs8{rest:List iC}{dst:Option Nat}{st:Option (List Nat)}{d:D}:Rb C rest dst st e O (some (.panic d))=some (.panic d e O):=rfl
theorem zpi(k:IntKind):tH k k=true:=by cases k<;>rfl
mutual
theorem D.CE:∀d:D,D.same d d=true
 |.undef=>rfl
 |.bool b=>by simp[D.same]
 |.int k n=>by simp[D.same,zpi]
 |.str s=>by simp[D.same]
 |.dN=>rfl
 |.list k es=>by simp[D.same,q8 es]
 |.agg es=>by simp[D.same,q8 es]
 |.fN es=>by simp[D.same,q8 es]
 |.rR=>rfl
 |.ptr a b=>by simp[D.same]
 |.gC d=>by simp[D.same,D.CE d]
 |.fn f a b=>by simp[D.same,q8 a,q8 b]
 |.tP=>rfl
 |.iface t d=>by simp[D.same,D.CE d]
 |.rY=>rfl
 |.Md=>rfl
 |.arr k a b c=>by simp[D.same]
 |.mV=>rfl
 |.map a=>by simp[D.same]
 |.lH=>rfl
 |.sT a=>by simp[D.same]
theorem q8:∀l:List D,Cf l l=true
 |[]=>rfl
 |d::l=>by simp[Cf,D.CE d,q8 l]
end
theorem zbb:∀l:List Cell,Qh l l=true
 |[]=>rfl
 |c::l=>by simp[Qh,D.CE,zbb l]
theorem zbc:∀l:List (D×D×Nat),Qi l l=true
 |[]=>rfl
 |(a,b,c)::l=>by simp[Qi,D.CE,zbc l]
theorem BL(x:List Cell):IX (some x) (some x)=true:=zbb x
theorem zwg(x:rJ):Ht (some x) (some x)=true:=by
 cases x with
 |it s n=>simp[Ht]
 |map es c=>simp[Ht,zbc]
 |loop r=>simp[Ht]
 |yP=>simp[Ht]
theorem zwh(e:Env)(O:Store)(s:Nat):pN e O O s=true:=by
 unfold pN;cases dC e.slots s with
 |none=>rfl
 |some c =>
  simp only[eP];cases c.d<;>try rfl
  ·rename_i id off;show(iW (dC O.dE id) true fun cs=>IX (some cs) (dC O.dE id))=true;cases h:dC O.dE id with
   |none=>rfl
   |some x=>exact BL x
  ·rename_i id;show(iW (dC O.dP id) true fun x=>Ht (some x) (dC O.dP id))=true;cases h:dC O.dP id with
   |none=>rfl
   |some x=>exact zwg x
theorem zua{C:eV}{e:Env}{O:Store}{rest:List iC}{dst:Option Nat}{c:Cell}{ws:List Nat}:Ky C rest dst (some ws) e O (some (.ret c,O))=mR C rest (e.put dst c) O:=by show dK (ws.all (pN e O O)) _ none=_;have:ws.all (pN e O O)=true:=bM.2 fun s _=>zwh e O s;rw[this];rfl
theorem zwe:mR C [] e O=some (.normal e O):=rfl
theorem zs3{o:iC}{rest:List iC}:mR C (o::rest) e O=Rb C rest o.dst (tI o.op) e O (pC o e O):=by
 simp only[mR,dH,iW,Rb];cases pC o e O with
 |none=>rfl
 |some s =>
  cases s with
  |next e' O'=>rfl
  |panic d=>rfl
  |call f az =>
   simp only[Ky];cases C f az O with
   |none=>rfl
   |some r=>obtain⟨o,s⟩:=r;cases o<;>rfl
theorem zyd{ro:Option Nat}:exec C n ro .skip e O=some (.normal,e,O):=rfl
theorem zyb{ro:Option Nat}{id:Nat}:exec C n ro (.exit id) e O=some (.exit id,e,O):=rfl
theorem za2b{ro:Option Nat}:exec C n ro .ret e O=some (.ret,e,O):=rfl
theorem zu1{ro:Option Nat}{b:eR}:exec C n ro (.scope b) e O=Qj (exec C n ro b e O):=by rw[exec];unfold Qj;rfl
theorem zpj:Qj (some (.normal,e,O))=some (.normal,e,O):=rfl
theorem zs5{id:Nat}:Qj (some (.exit id,e,O))=some (.exit id,e,O):=rfl
theorem zwi:Qj (some (.ret,e,O))=some (.ret,e,O):=rfl
theorem zqz{d:D}:Qj (some (.panic d,e,O))=some (.panic d,e,O):=rfl
theorem zru{ro:Option Nat}{ops:List iC}{p:Option (List Nat)}{vR:List Nat}:exec C n ro (.region ops p vR) e O=Yo p vR (mR C ops e O):=by
 rw[exec];unfold Yo;cases mR C ops e O with
 |none=>rfl
 |some r=>cases r<;>rfl
theorem YZ{ro:Option Nat}{a b:eR}:exec C n ro (.seq a b) e O=Re (exec C n ro a e O) (exec C n ro b):=by
 rw[exec];unfold Re;cases exec C n ro a e O with
 |none=>rfl
 |some r=>obtain⟨x,e',O'⟩:=r;cases x<;>rfl
theorem zya{ro:Option Nat}{c:dS}{t f:eR}:exec C n ro (.cond c t f) e O=dH (eE e c) fun c=>dH c.d.bool? fun b=>dK b (exec C n ro t e O) (exec C n ro f e O):=by rw[exec]
theorem zbv{ro:Option Nat}{id:Nat}{b:eR}:exec C n ro (.block id b) e O=Qd id (exec C n ro b e O):=by
 rw[exec];unfold Qd;cases exec C n ro b e O with
 |none=>rfl
 |some r=>obtain⟨x,e',O'⟩:=r;cases x<;>rfl
theorem zyc{ro:Option Nat}{b:eR}:exec C n ro (.loop b) e O=jI (exec C n ro b) n e O:=by rw[exec]
end
def PK(l:Nat)(e:Env)(x:Option (Out×Store)):oC:=match x with
 |some (.ret _,O)=>endLoop l e O
 |_=>none
@[congr] theorem zn2b(l:Nat)(e:Env){x y:Option (Out×Store)}(h:x=y):PK l e x=PK l e y:=by rw[h]
theorem zwb{l:Nat}{e:Env}{c:Cell}{O:Store}:PK l e (some (.ret c,O))=endLoop l e O:=rfl
theorem zrt{C:eV}{n:Nat}{e:Env}{O:Store}{ro:Option Nat}{g:dS}{ps:List Nat}{a b:eR}:exec C n ro (.H5 g ps a b) e O=dH (eE e g) fun c=>dH c.d.Di fun f =>
  dH (enterLoop ro ⟨Fo e.slots,ps,a,b,.ready⟩ e O) fun x=>PK x.1 x.2.1 (C f.1 (f.2.1++[.sT x.1]++f.2.2) x.2.2):=by
 rw[exec];simp only[dH];congr 1
 funext c
 congr 1
 funext f
 congr 1
 funext x
 cases C f.1 (f.2.1++[.sT x.1]++f.2.2) x.2.2 with
 |none=>rfl
 |some r=>obtain⟨o,s⟩:=r;cases o<;>rfl
def nA(R:sD)(C:eV)(af:dZ)(m:Nat)(x:oC):Option (Out×Store):=match x with
 |some r=>zE R C false af m r
 |none=>none
@[congr] theorem zn8b(R:sD)(C:eV)(af:dZ)(m:Nat){x y:oC}(h:x=y):nA R C af m x=nA R C af m y:=by rw[h]
def Yp(af:dZ)(m:Nat)(e:Env)(r:Option (Option D×Store)):Option (Out×Store):=match r with
 |some (none,O)=>dH (vV e O af.res) fun c=>some (.ret c,dK af.gc (O.trunc m) O)
 |_=>none
def Y6(af:dZ)(m:Nat)(e:Env)(r:Option (Option D×Store)):Option (Out×Store):=match r with
 |some (none,O)=>dH (vV e O af.res) fun c=>some (.ret c,dK af.gc (O.trunc m) O)
 |some (some d,O)=>some (.panic d,dK af.gc (O.trunc m) O)
 |none=>none
@[congr] theorem zobb(af:dZ)(m:Nat)(e:Env){x y:Option (Option D×Store)}(h:x=y):Yp af m e x=Yp af m e y:=by rw[h]
@[congr] theorem zoab(af:dZ)(m:Nat)(e:Env){x y:Option (Option D×Store)}(h:x=y):Y6 af m e x=Y6 af m e y:=by rw[h]
section
variable{R:sD}{C:eV}{af:dZ}{m:Nat}{e:Env}{O:Store}
theorem za3b:nA R C af m (some (.ret,e,O))=Yp af m e (qL R C none e.defers O):=by
 simp only[nA,zE,Bool.false_and,dX,Yp,dH];cases qL R C none e.defers O with
 |none=>rfl
 |some r=>obtain⟨x,s⟩:=r;cases x<;>rfl
theorem zrw:nA R C af m (some (.normal,e,O))=Yp af m e (qL R C none e.defers O):=by
 simp only[nA,zE,Bool.false_and,dX,Yp,dH];cases qL R C none e.defers O with
 |none=>rfl
 |some r=>obtain⟨x,s⟩:=r;cases x<;>rfl
theorem zu4{d:D}:nA R C af m (some (.panic d,e,O))=Y6 af m e (qL R C (some d) e.defers O):=by
 simp only[nA,zE,Bool.false_and,dX,Y6,dH];cases qL R C (some d) e.defers O with
 |none=>rfl
 |some r=>obtain⟨x,s⟩:=r;cases x<;>rfl
theorem zpf{d:Option D}:qL R C d [] O=some (d,O):=rfl
theorem zzi:Yp af m e (some (none,O))=dH (vV e O af.res) fun c=>some (.ret c,dK af.gc (O.trunc m) O):=rfl
theorem zzg:Y6 af m e (some (none,O))=dH (vV e O af.res) fun c=>some (.ret c,dK af.gc (O.trunc m) O):=rfl
theorem zzh{d:D}:Y6 af m e (some (some d,O))=some (.panic d,dK af.gc (O.trunc m) O):=rfl
end
section
variable{Γ:FuncId->Option dZ}{R:sD}{X:eV}
theorem zcpb{n:Nat}{f:FuncId}{af:dZ}{ds:List D}{O:Store}(h:Γ f=some af)(hl:ds.length=af.nargs):pS Γ R X (n+1) false f ds O=nA R (pS Γ R X n true) af O.next (exec (pS Γ R X n false) n none af.body (mX ds) O):=by rw[pS,h];simp only[hl,bW,dQ];unfold nA;cases exec (pS Γ R X n false) n none af.body (mX ds) O<;>rfl
theorem ze6{n:Nat}{f:FuncId}{ds:List D}{O:Store}(h:Γ f=none)(hY:jK f=false):pS Γ R X (n+1) false f ds O=X f ds O:=by rw[pS,h];simp only[dX,hY]
theorem zcqb{n:Nat}{f:FuncId}{ds:List D}{O:Store}(h:Γ f=none)(hY:jK f=true):pS Γ R X (n+1) false f ds O=Yq (pS Γ R X n false) n (f-oV) ds O:=by rw[pS,h];simp only[dX,dQ,hY]
end
section
variable{b:Bool}{k:IntKind}{n:Int}{s:List UInt8}{ds a cs:List D}{f:FuncId}{t:TypeId}{d:D}{r:RowK}
theorem zt8:(D.bool b).bool?=some b:=rfl
theorem zrg:(D.undef).bool?=none:=rfl
theorem zbcb:(D.int k n).int?=some (k,n):=rfl
theorem zc7b:(D.str s).wR=some s:=rfl
theorem zdbb:(D.fN ds).uw=some ds:=rfl
theorem jk(h:jK f=false):(D.fn (.func f) a cs).mA=some (f,a,cs):=by simp only[D.mA,h,dX]
theorem zetb(h:jK f=false):(D.fn (.func f) a cs).Di=some (f,a,cs):=by simp only[D.Di,h,dX]
theorem zesb{id:Nat}:(D.sT id).mA=some (oV+id,[],[]):=rfl
theorem zagb:(D.agg cs).sE=some cs:=rfl
theorem zzk:(D.list r cs).row?=some (r,cs):=rfl
theorem zqa:(D.iface t d).OZ=some false:=rfl
theorem zvg:(D.rY).OZ=some true:=rfl
theorem zxv:(D.agg cs).cells=cs:=rfl
theorem zxx:(D.int k n).cells=[D.int k n]:=rfl
theorem zun:(D.bool b).cells=[D.bool b]:=rfl
theorem zx0:(D.str s).cells=[D.str s]:=rfl
theorem zur:(D.dN).cells=[D.dN]:=rfl
theorem zup:(D.list r cs).cells=[D.list r cs]:=rfl
theorem zuq:(D.rR).cells=[D.rR]:=rfl
theorem zxz{i o:Nat}:(D.ptr i o).cells=[D.ptr i o]:=rfl
theorem zrj:(D.iface t d).cells=[D.iface t d]:=rfl
theorem zavb{g:Fn}:(D.fn g a cs).cells=[D.fn g a cs]:=rfl
theorem zrk:(D.tP).cells=[D.tP]:=rfl
theorem zn5:(D.rY).cells=[D.rY]:=rfl
theorem zf2b:(D.agg cs).one=false:=rfl
theorem zf4b:(D.int k n).one=true:=rfl
theorem zb7b:(D.bool b).one=true:=rfl
theorem zf7b:(D.str s).one=true:=rfl
theorem zcbb:(D.dN).one=true:=rfl
theorem zb9b:(D.list r cs).one=true:=rfl
theorem zcab:(D.rR).one=true:=rfl
theorem zf6b{i o:Nat}:(D.ptr i o).one=true:=rfl
theorem zy4:(D.iface t d).one=true:=rfl
theorem zqx:(D.rY).one=true:=rfl
theorem zjjb{g:Fn}:(D.fn g a cs).one=true:=rfl
theorem zy5:(D.tP).one=true:=rfl
theorem zjcb:(D.agg cs).ok=true:=rfl
theorem zjeb:(D.int k n).ok=true:=rfl
theorem zfwb:(D.bool b).ok=true:=rfl
theorem zjhb:(D.str s).ok=true:=rfl
theorem zf0b:(D.dN).ok=true:=rfl
theorem zfyb:(D.list r cs).ok=true:=rfl
theorem zfzb:(D.rR).ok=true:=rfl
theorem zjgb{i o:Nat}:(D.ptr i o).ok=true:=rfl
theorem zb5b:(D.iface t d).ok=true:=rfl
theorem zsj:(D.rY).ok=true:=rfl
theorem zmkb{g:Fn}:(D.fn g a cs).ok=true:=rfl
theorem zb6b:(D.tP).ok=true:=rfl
theorem zxw{i o l:Nat}:(D.arr r i o l).cells=[D.arr r i o l]:=rfl
theorem zuo:D.mV.cells=[D.mV]:=rfl
theorem zxy{i:Nat}:(D.map i).cells=[D.map i]:=rfl
theorem zpx:D.lH.cells=[D.lH]:=rfl
theorem zf3b{i o l:Nat}:(D.arr r i o l).one=true:=rfl
theorem zb8b:D.mV.one=true:=rfl
theorem zf5b{i:Nat}:(D.map i).one=true:=rfl
theorem zv5:D.lH.one=true:=rfl
theorem zjdb{i o l:Nat}:(D.arr r i o l).ok=true:=rfl
theorem zfxb:D.mV.ok=true:=rfl
theorem zjfb{i:Nat}:(D.map i).ok=true:=rfl
theorem zy0:D.lH.ok=true:=rfl
theorem zyr{i o l:Nat}:lenOf (.arr r i o l)=some l:=rfl
theorem zvo:lenOf .mV=some 0:=rfl
theorem zrb:nK .mV=some []:=rfl
theorem zr5:(D.dN).yV=some true:=rfl
theorem zvm{i o l:Nat}:(D.arr r i o l).yV=some false:=rfl
theorem zqb:(gX r cs).yV=some cs.isEmpty:=by cases cs<;>rfl
theorem zvj:D.lH.E8=some true:=rfl
theorem zvi{i:Nat}:(D.map i).E8=some false:=rfl
theorem zr9{os:List (Nat×List Cell)}:nB os .dN=some []:=rfl
theorem zr7{os:List (Nat×List Cell)}:nB os .mV=some []:=rfl
theorem zr8{os:List (Nat×List Cell)}:nB os (.list r cs)=some cs:=rfl
theorem Ol{os:List (Nat×List Cell)}:nB os (gX r cs)=some cs:=by cases cs<;>rfl
theorem Ea{sz n i o l:Nat}:kU sz (.arr r i o l) n=dK (r.sz==sz&&decide (n<l)) (some (.ptr i ((o+n)*sz))) none:=rfl
theorem zvk:D.rR.EB=some true:=rfl
theorem zvl{i o:Nat}:(D.ptr i o).EB=some false:=rfl
theorem zr3:(D.gC d).EB=some false:=rfl
theorem rX:(gX r cs).one=true:=by cases cs<;>rfl
theorem qM:(gX r cs).ok=true:=by cases cs<;>rfl
theorem qZ:(gX r cs).cells=[gX r cs]:=by cases cs<;>rfl
theorem zcy:gX r []=.dN:=rfl
theorem zvq:lenOf .dN=some 0:=rfl
theorem zvp:lenOf (.list r cs)=some cs.length:=rfl
theorem zr6:lenOf (gX r cs)=some cs.length:=by cases cs<;>rfl
theorem zrd:nK .dN=some []:=rfl
theorem zrc:nK (.list r cs)=some cs:=rfl
theorem Vi:nK (gX r cs)=some cs:=by cases cs<;>rfl
theorem zbzb{i:Nat}:D.nat? (.int k (i:Int))=some i:=by simp[D.nat?,dQ]
theorem zyw:D.nat? (.int k 0)=some 0:=rfl
theorem zze{i o:Nat}:xU (.ptr i o)=some (.ptr i o):=rfl
theorem zv8:xU (.gC d)=some (.gC d):=rfl
theorem zv9:xU .rR=none:=rfl
end
section
variable{o o' b:Bool}{k:IntKind}{n:Int}{s:List UInt8}{ds:List D}{kr:RowK}{r:List Cell}{dr:List D}
theorem zp4:sG []=false:=rfl
theorem zp3:sG (⟨o,.int k n⟩::r)=sG r:=rfl
theorem zor:sG (⟨o,.bool b⟩::r)=sG r:=rfl
theorem zp5:sG (⟨o,.str s⟩::r)=sG r:=rfl
theorem zou:sG (⟨o,.dN⟩::r)=sG r:=rfl
theorem zot:sG (⟨o,.list kr ds⟩::r)=o:=rfl
theorem zos:sG [⟨o,gX kr ds⟩]=(!ds.isEmpty&&o):=by cases ds<;>rfl
theorem zw1:qA []=[]:=rfl
theorem zw0:qA (⟨o,.int k n⟩::r)=⟨o,.int k n⟩::qA r:=rfl
theorem ztp:qA (⟨o,.bool b⟩::r)=⟨o,.bool b⟩::qA r:=rfl
theorem zw2:qA (⟨o,.str s⟩::r)=⟨o,.str s⟩::qA r:=rfl
theorem ztr:qA (⟨o,.dN⟩::r)=⟨o,.dN⟩::qA r:=rfl
theorem ztq:qA [⟨o,gX kr ds⟩]=[⟨ds.isEmpty&&o,gX kr ds⟩]:=by cases ds<;>rfl
theorem zbkb:qD o []=[]:=rfl
theorem zbjb:qD o (.int k n::dr)=⟨false,.int k n⟩::qD o dr:=rfl
theorem zyn:qD o (.bool b::dr)=⟨false,.bool b⟩::qD o dr:=rfl
theorem zblb:qD o (.str s::dr)=⟨false,.str s⟩::qD o dr:=rfl
theorem zyq:qD o (.dN::dr)=⟨false,.dN⟩::qD o dr:=rfl
theorem zyp:qD o (.list kr ds::dr)=⟨o,.list kr ds⟩::dr.map Cell.of:=rfl
theorem zyo:qD o [gX kr ds]=[⟨!ds.isEmpty&&o,gX kr ds⟩]:=by cases ds<;>rfl
end
theorem ED{α β:Type}(f:α->β):∀(l:List α)(i:Nat),pX (l.map f) i=(pX l i).map f
 |[],_=>rfl
 |_::_,0=>rfl
 |_::l,i+1=>ED f l i
theorem EC{α:Type}:∀(l:List α)(i:Nat)(h:i<l.length),pX l i=some (l[i])
 |x::l,0,_=>rfl
 |_::l,i+1,h=>EC l i (by simpa using h)
theorem Vk{sz:Nat}:∀{ds:List D},(∀d∈ds,d.ok=true/\d.cells.length=sz)->jZ sz ds=true
 |[],_=>rfl
 |d::r,h=>by
  obtain⟨h1,h2⟩:=h d (aQ ..);simp only[jZ,h1,h2,bW,bX];exact Vk fun x hx=>h x (aI _ hx)
theorem zt2{r:RowK}{fG:Nat}{es:List D}{o:Bool}{y:D}(ho:es≠[]->o=true)(hy1:y.ok=true)(hy2:y.cells.length=r.sz)(h1:(es.length+1)*fG<=iN)(h2:es.length+1<=iN) :
  lM r fG ⟨o,gX r es⟩ [y]=some ⟨true,gX r (es++[y])⟩:=by
 have hm:Jq r ⟨o,gX r es⟩=true:=by
  cases es with
  |nil=>rfl
  |cons x l=>simp[Jq,gX,ho (by simp),RowK.same]
 have hj:xH r (gX r es) [y]=gX r (es++[y]):=(by cases es<;>rfl);simp only[lM,Vi,hm,hj,jZ,hy1,hy2,dH,eP,aG,aH,aN,decide_eq_true h1,decide_eq_true h2,bW,aY,dQ]
theorem LB{r:RowK}{fG:Nat}{es ys:List D}{o:Bool}(ho:es≠[]->o=true)(hy:∀d∈ys,d.ok=true/\d.cells.length=r.sz)(h1:(es.length+ys.length)*fG<=iN)(h2:es.length+ys.length<=iN) :
  lM r fG ⟨o,gX r es⟩ ys=some ⟨true,gX r (es++ys)⟩:=by
 have hm:Jq r ⟨o,gX r es⟩=true:=by
  cases es with
  |nil=>rfl
  |cons x l=>simp[Jq,gX,ho (by simp),RowK.same]
 have hj:xH r (gX r es) ys=gX r (es++ys):=(by cases es<;>rfl);simp only[lM,Vi,hm,hj,Vk hy,dH,eP,decide_eq_true h1,decide_eq_true h2,aY,dQ]
theorem nI{body:Env->Store->oC}(E:Nat->Env)(S:Nat->Store)(k:Nat){r:rO×Env×Store}(hr:∀e O,r≠(.normal,e,O))(hstep:∀i,i<k->body (E i) (S i)=some (.normal,E (i+1),S (i+1)))(hend:body (E k) (S k)=some r) :
  ∀(j n:Nat),j<=k->k<n+j->jI body n (E j) (S j)=some r
 |j,0,h1,h2=>by omega
 |j,n+1,h1,h2=>by
  rw[jI];by_cases hj:j=k
  ·rw[hj,hend];obtain⟨x,e,O⟩:=r;cases x with
   |normal=>exact absurd rfl (hr e O)
   |_=>rfl
  ·rw[hstep j (by omega)];exact nI E S k hr hstep hend (j+1) n (by omega) (by omega)
theorem BC{body:Env->Store->oC}(E:Nat->Env)(S:Nat->Store)(k:Nat)(p:Nat->Bool){r:rO×Env×Store}(stop:Nat->rO×Env×Store)(hr:∀e O,r≠(.normal,e,O))(hs:∀i e O,stop i≠(.normal,e,O))
  (hstep:∀i,i<k->p i=true->body (E i) (S i)=some (.normal,E (i+1),S (i+1))) (hstop:∀i,i<k->p i=false->body (E i) (S i)=some (stop i)) (hend:body (E k) (S k)=some r) :
  ∀(n j:Nat),j<=k->k<n+j->(∃i,j<=i/\i<k/\p i=false/\(∀i',j<=i'->i'<i->p i'=true)/\jI body n (E j) (S j)=some (stop i))\/((∀i,j<=i->i<k->p i=true)/\jI body n (E j) (S j)=some r)
 |0,j,h1,h2=>by omega
 |n+1,j,h1,h2=>by
  rw[jI];by_cases hj:j=k
  ·refine .inr ⟨fun i h3 h4=>by omega,?_⟩;rw[hj,hend];obtain⟨x,e,O⟩:=r;cases x with
   |normal=>exact absurd rfl (hr e O)
   |_=>rfl
  ·cases hp:p j with
   |false =>
    refine .inl ⟨j,by omega,by omega,hp,fun i' h3 h4=>by omega,?_⟩;rw[hstop j (by omega) hp];cases hst:stop j with
    |mk x y =>
    obtain⟨e,O⟩:=y;cases x with
    |normal=>exact absurd hst (hs j e O)
    |_=>rfl
   |true =>
    rw[hstep j (by omega) hp];rcases BC E S k p stop hr hs hstep hstop hend n (j+1) (by omega) (by omega)with⟨i,h3,h4,h5,h6,h7⟩|⟨h3,h4⟩
    ·refine .inl ⟨i,by omega,h4,h5,fun i' h8 h9=>?_,h7⟩;by_cases hij:i'=j
     ·rw[hij];exact hp
     ·exact h6 i' (by omega) h9
    ·refine .inr ⟨fun i h5 h6=>?_,h4⟩;by_cases hij:i=j
     ·rw[hij];exact hp
     ·exact h3 i (by omega) h6
theorem gG:(∀b:Bool,(false&&b)=false)/\(∀b:Bool,(true&&b)=b)/\(∀b:Bool,(b&&true)=b)/\(∀b:Bool,(b&&false)=false)/\(∀b:Bool,(b||true)=true)/\(∀b:Bool,(true||b)=true)/\(∀b:Bool,(b||false)=b)/\(∀b:Bool,(false||b)=b)/\(∀b:Bool,(true==b)=b)/\(∀b:Bool,(false==b)=!b)/\((!true)=false)/\((!false)=true) :=
 ⟨Bool.false_and,bX,Bool.and_true,Bool.and_false,Bool.or_true,Bool.true_or,Bool.or_false,bY,Bool.true_beq,Bool.false_beq,bZ,cC⟩
theorem szL:(∀{α β:Type}{f:α->β}{a:α}{l:List α},(a::l).map f=f a::l.map f)/\(∀{α β:Type}{f:α->β},([]:List α).map f=[])/\(∀{α:Type}{a:α}{l:List α},(a::l).length=l.length+1)/\(∀{α:Type},([]:List α).length=0)/\(∀{α:Type}(l:List α),l++[]=l)/\(∀{α:Type}(l:List α),[]++l=l)/\(∀{α:Type}{a:α}{l m:List α},(a::l)++m=a::(l++m))/\(∀{α:Type},([]:List α).isEmpty=true)/\(∀{α:Type}{a:α}{l:List α},(a::l).isEmpty=false)/\(∀{α:Type}{p:α->Bool},([]:List α).all p=true)/\(∀{α:Type}{p:α->Bool}{a:α}{l:List α},(a::l).all p=(p a&&l.all p))/\(∀{α:Type}(a b:α),(some a).getD b=a)/\(∀{α:Type}(b:α),(none:Option α).getD b=b) :=
 ⟨aO,aZ,aG,aH,bQ,bG,aW,List.isEmpty_nil,List.isEmpty_cons,List.all_nil,List.all_cons,fun a b=>Option.getD_some,fun b=>Option.getD_none⟩
theorem szQ:(∀n:Nat,0+n=n)/\(∀n:Nat,n+0=n)/\(∀{α:Type}[BEq α][ReflBEq α]{a:α},(a==a)=true)/\(∀[h:Decidable True],@decide True h=true)/\(∀[h:Decidable False],@decide False h=false)/\(∀n:Nat,n<=n) :=
 ⟨aN,Nat.add_zero,bW _,fun{_}=>decide_true _,fun{_}=>decide_false _,aM⟩
theorem szC:(∀{α β:Type}(n:β)(f:α->β),iW none n f=n)/\(∀{α β:Type}(a:α)(n:β)(f:α->β),iW (some a) n f=f a)/\(∀{β:Type}(x y:β),dK true x y=x)/\(∀{β:Type}(x y:β),dK false x y=y)/\(∀{α β:Type}(x:Option α)(f:α->Option β),dH x f=iW x none f) :=
 ⟨qK,eP,dQ,dX,fun _ _=>rfl⟩
def sA0:=aB (aB (aB (aB (aB szQ (aB gG szL)) (aB szC (aB @CR.eq_1 @Zc.eq_1))) (aB (aB @Zc.eq_2 (aB @mX.eq_1 @Vr.eq_1)) (aB @Vr.eq_2 (aB @Ee.eq_1 @Ee.eq_2)))) (aB (aB (aB @kL.eq_1 (aB @kL.eq_2 @kL.eq_3)) (aB @eE.eq_1 (aB @eE.eq_2 @eE.eq_3))) (aB (aB @oI.eq_1 (aB @oI.eq_2 @xR.eq_1)) (aB @xR.eq_2 (aB @rE.eq_1 @oS.eq_1))))) (aB (aB (aB (aB @oS.eq_2 (aB @Env.put.eq_1 @Env.put.eq_2)) (aB @Env.pR.eq_1 (aB @Env.pR.eq_2 @Env.pR.eq_3))) (aB (aB @Env.box.eq_1 (aB @Env.bare.eq_1 @sW.eq_1)) (aB @sW.eq_2 (aB @sW.eq_3 @sW.eq_4)))) (aB (aB (aB @uE.eq_1 (aB @uE.eq_2 @JE.eq_1)) (aB @JE.eq_2 (aB @JE.eq_3 @SB.eq_1))) (aB (aB @SB.eq_2 (aB @D7.eq_1 @D7.eq_2)) (aB @D7.eq_3 (aB @uO.eq_1 @uO.eq_2)))))
def sA1:=aB (aB (aB (aB (aB @uO.eq_3 (aB @uO.eq_4 @uO.eq_5)) (aB @uO.eq_6 (aB @uO.eq_7 @uO.eq_8))) (aB (aB @uO.eq_9 (aB @uO.eq_10 @uO.eq_11)) (aB @uO.eq_12 (aB @Bq.eq_1 @Bq.eq_2)))) (aB (aB (aB @Bq.eq_3 (aB @Bq.eq_4 @Bq.eq_5)) (aB @Bq.eq_6 (aB @Bq.eq_7 @Bq.eq_8))) (aB (aB @AQ.eq_1 (aB @AQ.eq_2 @AQ.eq_3)) (aB @VS.eq_1 (aB @VS.eq_2 @dS.drop.eq_1))))) (aB (aB (aB (aB @dS.drop.eq_2 (aB @Cell.of.eq_1 @tI.eq_1)) (aB @tI.eq_2 (aB @tI.eq_3 @tI.eq_4))) (aB (aB @tH.eq_1 (aB @tH.eq_2 @tH.eq_3)) (aB @tH.eq_4 (aB @tH.eq_5 @tH.eq_6)))) (aB (aB (aB @tH.eq_7 (aB @tH.eq_8 @tH.eq_9)) (aB @Wg.eq_1 (aB @Wg.eq_2 @Wg.eq_3))) (aB (aB @zX.eq_1 (aB @zX.eq_2 @zX.eq_3)) (aB @OM.eq_1 (aB @OM.eq_2 @pO.eq_1)))))
def sA2:=aB (aB (aB (aB (aB @pO.eq_2 (aB @pO.eq_3 @pO.eq_4)) (aB @qQ.eq_1 (aB @qQ.eq_2 @qQ.eq_3))) (aB (aB @sM.eq_1 (aB @pK.eq_1 @putCells.eq_1)) (aB @putCells.eq_2 (aB @putCells.eq_3 @putCells.eq_4)))) (aB (aB (aB @wQ.eq_1 (aB @wQ.eq_2 @wQ.eq_3)) (aB @wQ.eq_4 (aB @Xt.eq_1 @Xt.eq_2))) (aB (aB @Gz.eq_1 (aB @Gz.eq_2 @zO.eq_1)) (aB @zO.eq_2 (aB @Le.eq_1 @Le.eq_2))))) (aB (aB (aB (aB @jZ.eq_1 (aB @jZ.eq_2 @qL.eq_1)) (aB @qL.eq_2 (aB @vV.eq_1 @vV.eq_2))) (aB (aB @Ju.eq_1 (aB @Ju.eq_2 @Ju.eq_3)) (aB @Eb.eq_1 (aB @Eb.eq_2 @WI)))) (aB (aB (aB @zwv (aB @zzw @zto)) (aB @zt (aB @zrf @zt7))) (aB (aB @zpt (aB @zsy @zny)) (aB @znz (aB @zxu @zrh)))))
def sA3:=aB (aB (aB (aB (aB @zwl (aB @zwk @zs8)) (aB @zua (aB @zwe @zs3))) (aB (aB @zyd (aB @zyb @za2b)) (aB @zu1 (aB @zpj @zs5)))) (aB (aB (aB @zwi (aB @zqz @zru)) (aB @YZ (aB @zya @zbv))) (aB (aB @zyc (aB @zwb @zrt)) (aB @za3b (aB @zrw @zu4))))) (aB (aB (aB (aB @zpf (aB @zzi @zzg)) (aB @zzh (aB @zt8 @zrg))) (aB (aB @zbcb (aB @zc7b @zdbb)) (aB @jk (aB @zetb @zesb)))) (aB (aB (aB @zagb (aB @zzk @zqa)) (aB @zvg (aB @zxv @zxx))) (aB (aB @zun (aB @zx0 @zur)) (aB @zup (aB @zuq @zxz)))))
def sA4:=aB (aB (aB (aB (aB @zrj (aB @zavb @zrk)) (aB @zn5 (aB @zf2b @zf4b))) (aB (aB @zb7b (aB @zf7b @zcbb)) (aB @zb9b (aB @zcab @zf6b)))) (aB (aB (aB @zy4 (aB @zqx @zjjb)) (aB @zy5 (aB @zjcb @zjeb))) (aB (aB @zfwb (aB @zjhb @zf0b)) (aB @zfyb (aB @zfzb @zjgb))))) (aB (aB (aB (aB @zb5b (aB @zsj @zmkb)) (aB @zb6b (aB @zxw @zuo))) (aB (aB @zxy (aB @zpx @zf3b)) (aB @zb8b (aB @zf5b @zv5)))) (aB (aB (aB @zjdb (aB @zfxb @zjfb)) (aB @zy0 (aB @zyr @zvo))) (aB (aB @zrb (aB @zr5 @zvm)) (aB @zqb (aB @zvj @zvi)))))
def sA5:=aB (aB (aB (aB (aB @zr9 (aB @zr7 @zr8)) (aB @Ol (aB @zvk @zvl))) (aB (aB @zr3 (aB @rX @qM)) (aB @qZ (aB @zcy @zvq)))) (aB (aB (aB @zvp (aB @zr6 @zrd)) (aB @zrc (aB @Vi @zbzb))) (aB (aB @zyw (aB @zze @zv8)) (aB @zv9 (aB @zp4 @zp3))))) (aB (aB (aB (aB @zor (aB @zp5 @zou)) (aB @zot (aB @zos @zw1))) (aB (aB @zw0 (aB @ztp @zw2)) (aB @ztr (aB @ztq @zbkb)))) (aB (aB (aB @zbjb (aB @zyn @zblb)) (aB @zyq (aB @zyp @zyo))) (aB (aB @pC.eq_1 (aB @gR.eq_1 @gR.eq_2)) (aB @gR.eq_3 (aB @gR.eq_4 @gR.eq_5)))))
def sA6:=aB (aB (aB (aB (aB @gR.eq_6 (aB @gR.eq_7 @gR.eq_8)) (aB @gR.eq_9 (aB @gR.eq_10 @gR.eq_11))) (aB (aB @gR.eq_12 (aB @gR.eq_13 @gR.eq_14)) (aB @gR.eq_15 (aB @gR.eq_16 @gR.eq_17)))) (aB (aB (aB @gR.eq_18 (aB @gR.eq_19 @gR.eq_20)) (aB @gR.eq_21 (aB @gR.eq_22 @gR.eq_23))) (aB (aB @gR.eq_24 (aB @gR.eq_25 @gR.eq_26)) (aB @gR.eq_27 (aB @gR.eq_28 @gR.eq_29))))) (aB (aB (aB (aB @gR.eq_30 (aB @gR.eq_31 @gR.eq_32)) (aB @gR.eq_33 (aB @gR.eq_34 @gR.eq_35))) (aB (aB @zD.eq_1 (aB @zD.eq_2 @zD.eq_3)) (aB @zD.eq_4 (aB @zD.eq_5 @Wn.eq_1)))) (aB (aB (aB @Wn.eq_2 (aB @eQ.eq_1 @eQ.eq_2)) (aB @eQ.eq_3 (aB @eQ.eq_4 @eQ.eq_5))) (aB (aB @eQ.eq_6 (aB @eQ.eq_7 @eQ.eq_8)) (aB @eQ.eq_9 (aB @eQ.eq_10 @eQ.eq_11)))))
def sA7:=aB (aB (aB (aB (aB @eQ.eq_12 (aB @eQ.eq_13 @eQ.eq_14)) (aB @eQ.eq_15 (aB @eQ.eq_16 @eQ.eq_17))) (aB (aB @eQ.eq_18 (aB @eQ.eq_19 @eQ.eq_20)) (aB @eQ.eq_21 (aB @eQ.eq_22 @eQ.eq_23)))) (aB (aB (aB @eQ.eq_24 (aB @eQ.eq_25 @eQ.eq_26)) (aB @eQ.eq_27 (aB @eQ.eq_28 @eQ.eq_29))) (aB (aB @eQ.eq_30 (aB @eQ.eq_31 @eQ.eq_32)) (aB @eQ.eq_33 (aB @eQ.eq_34 @eQ.eq_35))))) (aB (aB (aB (aB @eQ.eq_36 (aB @eQ.eq_37 @eQ.eq_38)) (aB @eQ.eq_39 (aB @eQ.eq_40 @iR.kind.eq_1))) (aB (aB @iR.kind.eq_2 (aB @iR.kind.eq_3 @iR.kind.eq_4)) (aB @iR.kind.eq_5 (aB @iR.kind.eq_6 @dC.eq_1)))) (aB (aB (aB @dC.eq_2 (aB @fF.eq_1 @fF.eq_2)) (aB @Dc.eq_1 (aB @Dc.eq_2 @gI.eq_1))) (aB (aB @gI.eq_2 (aB @pX.eq_1 @pX.eq_2)) (aB @pX.eq_3 (aB @mt.eq_1 @mw.eq_1)))))
def sA8:=aB (aB @mo.eq_1 @Nat.ble.eq_1) (aB @Nat.ble.eq_2 @Nat.ble.eq_3)
def sA:=aB (aB (aB sA0 sA1) (aB sA2 sA3)) (aB (aB sA4 sA5) (aB sA6 (aB sA7 sA8)))
section
variable[kQ]{P:Program}{κ:Ctx}{vL:FuncId->List D->Cell->Prop}
def Rx(P:Program)(κ:Ctx)(f:FuncId)(ds:List D)(c:Cell):Prop:=∀O,uL P κ f ds O (.ret c) O
def Has(P:Program)(κ:Ctx)(vL:FuncId->List D->Cell->Prop)(f:FuncId)(ds:List D):Prop:=∃c,vL f ds c/\Rx P κ f ds c
open Classical in
noncomputable def Zd(P:Program)(κ:Ctx)(vL:FuncId->List D->Cell->Prop):eV:=fun f ds O=>if h:Has P κ vL f ds then some (.ret (Classical.choose h),O)else none
theorem zdj:rM P κ (Zd P κ vL):=by
 intro f ds O out O' h;unfold Zd at h;split at h
 ·rename_i hs;cases h;exact(Classical.choose_spec hs).2 O
 ·cases h
theorem zg1{f:FuncId}{ds:List D}(h:Has P κ vL f ds):∃c,vL f ds c/\∀O,Zd P κ vL f ds O=some (.ret c,O):=by refine⟨Classical.choose h,(Classical.choose_spec h).1,fun O=>?_⟩;unfold Zd;rw[dif_pos h]
theorem Rx.weak{f:FuncId}{ds:List D}{o:Bool}{d:D}(hY:jK f=false)(h:Rx P κ f ds ⟨o,d⟩):Rx P κ f ds ⟨false,d⟩:=by
 intro O;have h1:=(wY hY).1 (h O);refine(wY hY).2 ⟨h1.1,fun I j own w vs hS hB hG hr=>(h1.2 I j own w vs hS hB hG hr).mono ?_⟩;rintro e w' ⟨I',j',own',k1,k2,k3,k4⟩;refine⟨I',j',own',k1,k2,k3,?_⟩;cases e with
 |returned v=>exact⟨k4.1,fun h=>by cases h⟩
 |panicked c=>exact k4
 |outgrown=>exact k4
theorem zn8:C9 P κ (fun _ _ _=>none):=fun _ _ _ _ _ h=>by cases h
theorem LF[K:Ql P ‹kQ›]{C:eV}{R:sD}(hC:rM P κ C)(hR:Wv P κ R){n f:Nat}{fn:Func}{af:dZ}{ds:List D}{O':Store}{c:Cell}(hY:jK f=false)(hfn:P.funcs[f]?=some fn)(hok:eL P fn af=true)(hlen:ds.length=af.nargs)
  (hd:fO ds=true) (hc:iF c.d=true) (h:(match exec C n none af.body (mX ds) cH with
     |some r=>zE R (fun _ _ _=>none) false af 0 r
     |none=>none)=some (.ret c,O')):Rx P κ f ds c :=
 fun O=>XG hY (zd4b hC zn8 hR hY hfn hok hlen h) hd hc O
abbrev fC:=List (FuncId×(List D->Cell->Prop))
def jc(S:fC)(f:FuncId)(ds:List D)(c:Cell):Prop:=∃s,dC S f=some s/\s ds c
def iV(S:fC)(f:FuncId):Bool:=iW (dC S f) false fun _=>true
noncomputable def Iq(P:Program)(κ:Ctx)(Γ:FuncId->Option dZ)(R:sD)(X:eV)(S:fC)(n:Nat):eV :=
 pS (fun f=>dK (iV S f) none (Γ f)) R (fun f ds O=>dK (iV S f) (Zd P κ (jc S) f ds O) (X f ds O)) n false
noncomputable def Ye(P:Program)(κ:Ctx)(Γ:FuncId->Option dZ)(R:sD)(X:eV)(S:fC)(n:Nat):eV :=
 pS (fun f=>dK (iV S f) none (Γ f)) R (fun f ds O=>dK (iV S f) (Zd P κ (jc S) f ds O) (X f ds O)) n true
theorem ME[K:Ql P ‹kQ›]{Γ:FuncId->Option dZ}{R:sD}{X:eV}{S:fC}(hΓ:Holds P Γ)(hR:Wv P κ R)(hX:rM P κ X)(n:Nat):rM P κ (Iq P κ Γ R X S n)/\C9 P κ (Ye P κ Γ R X S n):=by
 refine NF (fun f af h=>?_) hR (fun f ds O out O' h=>?_) n
 ·cases hs:iV S f with
  |true=>rw[hs]at h;cases h
  |false=>rw[hs]at h;exact hΓ f af h
 ·cases hs:iV S f with
  |true=>rw[hs]at h;exact zdj _ _ _ _ _ h
  |false=>rw[hs]at h;exact hX _ _ _ _ _ h
theorem OC{Γ:FuncId->Option dZ}{R:sD}{X:eV}{S:fC}{n:Nat}{f:FuncId}{af:dZ}{ds:List D}{O:Store}(hs:iV S f=false)(h:Γ f=some af)(hl:ds.length=af.nargs) :
  Iq P κ Γ R X S (n+1) f ds O=nA R (Ye P κ Γ R X S n) af O.next (exec (Iq P κ Γ R X S n) n none af.body (mX ds) O):=zcpb (by rw[hs];exact h) hl
theorem ze7{Γ:FuncId->Option dZ}{R:sD}{X:eV}{S:fC}{n:Nat}{f:FuncId}{ds:List D}{O:Store}(hs:iV S f=false)(h:Γ f=none)(hY:jK f=false):Iq P κ Γ R X S (n+1) f ds O=X f ds O:=by refine(ze6 (by rw[hs];exact h) hY).trans ?_;rw[hs];rfl
theorem ZR{Γ:FuncId->Option dZ}{R:sD}{X:eV}{S:fC}{f:FuncId}{s:List D->Cell->Prop}{ds:List D}{c:Cell}(hf:dC S f=some s)(hY:jK f=false)(hs:s ds c)(hp:Rx P κ f ds c):∃c',s ds c'/\∀n O,Iq P κ Γ R X S (n+1) f ds O=some (.ret c',O):=by
 have hh:iV S f=true:=by unfold iV;rw[hf];rfl
 obtain⟨c',⟨s',h1,h2⟩,h3⟩:=zg1 (P:=P) (κ:=κ) (vL:=jc S) (f:=f) (ds:=ds) ⟨c,⟨s,hf,hs⟩,hp⟩;rw[hf]at h1;cases h1;refine⟨c',h2,fun n O=>?_⟩;refine(ze6 (by rw[hh];rfl) hY).trans ?_;rw[hh];exact h3 O
end
end Go.Mx
namespace Go.Fu
open Go Go.Mx
set_option maxRecDepth 10000
abbrev Tx:=List UInt8
def dG(l:List Tx):D:=gX dY (l.map D.str)
structure Hd where
 form:Int
 num:Int
 name:Tx
 vars:List Tx
inductive Co where
 |mk (f n:Int) (s:Tx) (ks:List Co) (bs:List (Tx×Co)) (al:List (Hd×Co))
namespace Co
def f:Co->Int
 |.mk f _ _ _ _ _=>f
def n:Co->Int
 |.mk _ n _ _ _ _=>n
def s:Co->Tx
 |.mk _ _ s _ _ _=>s
def ks:Co->List Co
 |.mk _ _ _ ks _ _=>ks
def bs:Co->List (Tx×Co)
 |.mk _ _ _ _ bs _=>bs
def al:Co->List (Hd×Co)
 |.mk _ _ _ _ _ al=>al
end Co
mutual
def dM:Co->D
 |.mk f n s ks bs al=>.agg [.int .i64 f,.int .i64 n,.str s,.int .i64 0,.int .i64 0,.str [],.dN,gX gV (Aq ks),gX iS (Ap bs),gX jC (oP al)]
def Aq:List Co->List D
 |[]=>[]
 |c::r=>dM c::Aq r
def Ap:List (Tx×Co)->List D
 |[]=>[]
 |(s,c)::r=>.agg (.str s::.int .i64 0::.int .i64 0::.str []::.dN::(dM c).cells)::Ap r
def oP:List (Hd×Co)->List D
 |[]=>[]
 |(h,c)::r=>.agg (.int .i64 h.form::.int .i64 h.num::.str h.name::dG h.vars::(dM c).cells)::oP r
end
def dB(b:Tx×Co):D:=.agg (.str b.1::.int .i64 0::.int .i64 0::.str []::.dN::(dM b.2).cells)
def dA(a:Hd×Co):D:=.agg (.int .i64 a.1.form::.int .i64 a.1.num::.str a.1.name::dG a.1.vars::(dM a.2).cells)
theorem zf9:∀l:List Co,Aq l=l.map dM
 |[]=>by simp[Aq]
 |c::r=>by simp[Aq,zf9 r]
theorem zf5:∀l:List (Tx×Co),Ap l=l.map dB
 |[]=>by simp[Ap]
 |(s,c)::r=>by simp[Ap,zf5 r,dB]
theorem DW:∀l:List (Hd×Co),oP l=l.map dA
 |[]=>by simp[oP]
 |(s,c)::r=>by simp[oP,DW r,dA]
def pH(c:Co):List D:=[.int .i64 c.f,.int .i64 c.n,.str c.s,.int .i64 0,.int .i64 0,.str [],.dN,gX gV (c.ks.map dM),gX iS (c.bs.map dB),gX jC (c.al.map dA)]
theorem eO(c:Co):dM c=.agg (pH c):=by cases c;simp only[dM,pH,Co.f,Co.n,Co.s,Co.ks,Co.bs,Co.al,zf9,zf5,DW]
theorem Gq(c:Co):(dM c).cells=pH c:=by rw[eO];rfl
theorem uC(c:Co):(dM c).cells.length=10:=by rw[Gq];rfl
theorem Ov(c:Co):(dM c).sE=some (pH c):=by rw[eO];rfl
theorem Eh(c:Co):(dM c).ok=true:=by rw[eO];simp only[D.ok]
theorem zK(b:Tx×Co):dB b=.agg (.str b.1::.int .i64 0::.int .i64 0::.str []::.dN::pH b.2):=by rw[dB,Gq]
theorem xM(a:Hd×Co):dA a=.agg (.int .i64 a.1.form::.int .i64 a.1.num::.str a.1.name::dG a.1.vars::pH a.2):=by rw[dA,Gq]
theorem zj8(b:Tx×Co):(dB b).ok=true:=by rw[zK];simp only[D.ok]
theorem zj7(b:Hd×Co):(dA b).ok=true:=by rw[xM];simp only[D.ok]
theorem Vx(b:Tx×Co):(dB b).cells.length=15:=by rw[zK];rfl
theorem y8(b:Hd×Co):(dA b).cells.length=14:=by rw[xM];rfl
theorem Jo{k:RowK}:∀{a b:List D},gX k a=gX k b->a=b
 |[],[],_=>rfl
 |[],_::_,h=>by cases h
 |_::_,[],h=>by cases h
 |x::a,y::b,h=>by
  simp only[gX,D.list.injEq,true_and]at h;exact h
theorem Pq{α:Type}{g:α->D}(hg:∀{a b},g a=g b->a=b):∀{l m:List α},l.map g=m.map g->l=m
 |[],[],_=>rfl
 |[],_::_,h=>by simp at h
 |_::_,[],h=>by simp at h
 |x::l,y::m,h=>by
  simp only[aO,aL]at h;rw[hg h.1,Pq hg h.2]
theorem zgsb{a b:Tx}(h:D.str a=D.str b):a=b:=by cases h;rfl
theorem lN{a b:List Tx}(h:dG a=dG b):a=b:=Pq zgsb (Jo h)
mutual
theorem qO:∀{a b:Co},dM a=dM b->a=b
 |.mk f n s ks bs al,.mk f2 n2 s2 ks2 bs2 al2,h=>by
  simp only[dM,D.agg.injEq,aL,D.int.injEq,D.str.injEq,and_true,true_and]at h;obtain⟨rfl,rfl,rfl,h1,h2,h3⟩:=h;rw[zf8 (Jo h1),zf4 (Jo h2),ay (Jo h3)]
theorem zf8:∀{a b:List Co},Aq a=Aq b->a=b
 |[],[],_=>rfl
 |[],_::_,h=>by simp[Aq]at h
 |_::_,[],h=>by simp[Aq]at h
 |x::l,y::m,h=>by
  simp only[Aq,aL]at h;rw[qO h.1,zf8 h.2]
theorem zf4:∀{a b:List (Tx×Co)},Ap a=Ap b->a=b
 |[],[],_=>rfl
 |[],_::_,h=>by simp[Ap]at h
 |_::_,[],h=>by simp[Ap]at h
 |(s,x)::l,(t,y)::m,h=>by
  simp only[Ap,aL,D.agg.injEq,D.str.injEq,true_and]at h;have hx:dM x=dM y:=by rw[eO,eO,<-Gq x,<-Gq y,h.1.2]
  rw[qO hx,zf4 h.2,h.1.1]
theorem ay:∀{a b:List (Hd×Co)},oP a=oP b->a=b
 |[],[],_=>rfl
 |[],_::_,h=>by simp[oP]at h
 |_::_,[],h=>by simp[oP]at h
 |(s,x)::l,(t,y)::m,h=>by
  simp only[oP,aL,D.agg.injEq,D.str.injEq,D.int.injEq,true_and]at h;obtain⟨⟨h1,h2,h3,h4,h5⟩,h6⟩:=h;have hx:dM x=dM y:=by rw[eO,eO,<-Gq x,<-Gq y,h5]
  have hs:s=t:=(by cases s;cases t;simp only at h1 h2 h3 h4;rw[h1,h2,h3,lN h4]);rw[qO hx,ay h6,hs]
end
structure In where
 op:Tx
 n:Int
 m:Int
 name:Tx
def dI(i:In):D:=.agg [.str i.op,.int .i64 i.n,.int .i64 i.m,.str i.name]
theorem zh3b{a b:In}(h:dI a=dI b):a=b:=by cases a;cases b;simpa[dI]using h
def eM(l:List In):D:=gX fE (l.map dI)
theorem zf7{a b:List In}(h:eM a=eM b):a=b:=Pq zh3b (Jo h)
structure Cd where
 name:Tx
 arity:Int
 body:List In
def dD(c:Cd):D:=.agg [.str c.name,.int .i64 c.arity,eM c.body]
def kF(l:List Cd):D:=gX tV (l.map dD)
structure Su where
 name:Tx
 ps:List Tx
 body:Co
def dU(s:Su):D:=.agg (.str s.name::dG s.ps::pH s.body)
def eG(l:List Su):D:=gX jA (l.map dU)
theorem Xb{a b:Su}(h:dU a=dU b):a=b:=by
 obtain⟨n,p,c⟩:=a;obtain⟨n2,p2,c2⟩:=b;simp only[dU,D.agg.injEq,aL,D.str.injEq]at h;obtain⟨rfl,h2,h3⟩:=h;have hx:dM c=dM c2:=by rw[eO,eO,h3]
 rw[lN h2,qO hx]
theorem DX{a b:List Su}(h:eG a=eG b):a=b:=Pq Xb (Jo h)
structure Fd where
 name:Tx
 tag:Int
 many:Int
 arity:Int
def dF(f:Fd):D:=.agg [.str f.name,.int .i64 f.tag,.int .i64 f.many,.int .i64 f.arity,.int .i64 0,.int .i64 0,.str [],.dN]
def gJ(l:List Fd):D:=gX U1 (l.map dF)
theorem Dz{k:RowK}:∀l:List D,iF (gX k l)=fO l
 |[]=>rfl
 |x::l=>rfl
theorem wX{α:Type}{g:α->D}(h:∀a,iF (g a)=true):∀l:List α,fO (l.map g)=true
 |[]=>rfl
 |x::l=>by simp[fO,h x,wX h l]
theorem jY(l:List Tx):iF (dG l)=true:=by rw[dG,Dz];exact wX (fun _=>rfl) l
mutual
theorem mL:∀c:Co,iF (dM c)=true
 |.mk f n s ks bs al=>by simp[dM,iF,fO,Dz,zdg ks,zdf bs,YL al]
theorem zdg:∀l:List Co,fO (Aq l)=true
 |[]=>by simp[Aq,fO]
 |c::r=>by simp[Aq,fO,mL c,zdg r]
theorem zdf:∀l:List (Tx×Co),fO (Ap l)=true
 |[]=>by simp[Ap,fO]
 |(s,c)::r=>by
  have h:=mL c;rw[eO]at h;simp only[iF]at h;simp[Ap,fO,iF,zdf r,Gq,h]
theorem YL:∀l:List (Hd×Co),fO (oP l)=true
 |[]=>by simp[oP,fO]
 |(s,c)::r=>by
  have h:=mL c;rw[eO]at h;simp only[iF]at h;simp[oP,fO,iF,YL r,Gq,h,jY]
end
theorem YK(c:Co):fO (pH c)=true:=by have h:=mL c;rw[eO]at h;simpa only[iF]using h
theorem Gs(l:List In):iF (eM l)=true:=by rw[eM,Dz];exact wX (fun _=>rfl) l
theorem zey(c:Cd):iF (dD c)=true:=by simp[dD,iF,fO,Gs]
theorem YM(l:List Cd):iF (kF l)=true:=by rw[kF,Dz];exact wX zey l
theorem CX(s:Su):iF (dU s)=true:=by simp[dU,iF,fO,jY,YK]
theorem uD(l:List Su):iF (eG l)=true:=by rw[eG,Dz];exact wX CX l
theorem Jr(l:List Fd):iF (gJ l)=true:=by rw[gJ,Dz];exact wX (fun _=>rfl) l
open Go Go.Mx Go.Proofs
set_option maxRecDepth 1000000
theorem CL:rM Tryz.prog κ Xa:=by
 intro f ds O out O' h;unfold Xa at h;by_cases h1:f=Fh
 ·subst h1;simp only[bW,dQ]at h;obtain⟨d,h2,h⟩:=dJ h;cases h;exact zdkb h2 O
 have e1:(f==Fh)=false:=by simpa using h1
 rw[e1,dX]at h;by_cases h2:f=Yc
 ·subst h2;simp only[bW,dQ]at h;exact zdjb h
 have e2:(f==Yc)=false:=by simpa using h2
 rw[e2,dX]at h;by_cases h3:f=IQ
 ·subst h3;simp only[bW,dQ]at h;exact zxc h
 have e3:(f==IQ)=false:=by simpa using h3
 rw[e3,dX]at h;cases h
abbrev eW(f:FuncId)(ds:List D)(c:Cell):Prop:=Rx Tryz.prog κ f ds c
noncomputable def T(S:fC)(n:Nat):eV:=Iq Tryz.prog κ Γa Ra Xa S n
noncomputable def TD(S:fC)(n:Nat):eV:=Ye Tryz.prog κ Γa Ra Xa S n
theorem jG(S:fC)(n:Nat):rM Tryz.prog κ (T S n):=(ME Γa_holds Gt CL n).1
theorem zkgb{S:fC}{n:Nat}{f:FuncId}{af:dZ}{ds:List D}{O:Store}(hs:iV S f=false)(h:Γa f=some af)(hl:ds.length=af.nargs):T S (n+1) f ds O=nA Ra (TD S n) af O.next (exec (T S n) n none af.body (mX ds) O):=OC hs h hl
theorem lD{S:fC}{f:FuncId}{s:List D->Cell->Prop}{ds:List D}{c:Cell}(hf:dC S f=some s)(hY:jK f=false)(hs:s ds c)(hp:eW f ds c):∃c',s ds c'/\∀n O,T S (n+1) f ds O=some (.ret c',O):=ZR hf hY hs hp
theorem jH{C:eV}{n:Nat}{f:FuncId}{af:dZ}{ds:List D}{c:Cell}{O':Store}(hC:rM Tryz.prog κ C)(h:Γa f=some af)(hl:ds.length=af.nargs)(hd:fO ds=true)(hc:iF c.d=true)
  (hr:nA Ra (fun _ _ _=>none) af 0 (exec C n none af.body (mX ds) cH)=some (.ret c,O')):eW f ds c:=by
 obtain⟨hY,fn,hfn,hok⟩:=Γa_holds f af h;refine LF hC Gt hY hfn hok hl hd hc (n:=n) (O':=O') ?_;unfold nA at hr;exact hr
theorem eW.weak{f:FuncId}{ds:List D}{o:Bool}{d:D}(hY:jK f=false)(h:eW f ds ⟨o,d⟩):eW f ds ⟨false,d⟩:=Rx.weak hY h
theorem zvr:zh3 60 TJ=true:=by kernel_rfl
theorem zbwb:eW TJ [] ⟨false,.bool true⟩:=by
 intro O;have h:=zvr;unfold zh3 at h;split at h
 ·rename_i s hx;exact XG rfl ((NF Γa_holds Gt CL 60).1 _ [] cH _ _ hx) rfl rfl O
 ·cases h
theorem lV{n:Int}(h1:-9223372036854775808<=n)(h2:n<=9223372036854775807):IntKind.i64.wrap n=n:=by simp[IntKind.wrap,IntKind.bits,IntKind.signed];omega
theorem iE{i:Nat}(h:i<1099511627776):IntKind.i64.wrap ((i:Int)+1)=((i+1:Nat):Int):=by rw[lV (by omega) (by omega)];rfl
def Small(x:Int):Prop:=-9223372036854775808<=x/\x<=9223372036854775807
theorem XV(x:Int):Small (IntKind.i64.wrap x):=by simp[Small,IntKind.wrap,IntKind.bits,IntKind.signed];omega
theorem nat1{k:IntKind}:D.nat? (.int k 1)=some 1:=rfl
theorem nat2{k:IntKind}:D.nat? (.int k 2)=some 2:=rfl
theorem nat3{k:IntKind}:D.nat? (.int k 3)=some 3:=rfl
theorem nat4{k:IntKind}:D.nat? (.int k 4)=some 4:=rfl
theorem nat5{k:IntKind}:D.nat? (.int k 5)=some 5:=rfl
theorem nat6{k:IntKind}:D.nat? (.int k 6)=some 6:=rfl
theorem nat7{k:IntKind}:D.nat? (.int k 7)=some 7:=rfl
theorem nat8{k:IntKind}:D.nat? (.int k 8)=some 8:=rfl
theorem nat0{k:IntKind}:D.nat? (.int k 0)=some 0:=rfl
theorem natI(n:Nat){k:IntKind}:D.nat? (.int k (n:Int))=some n:=by
 simp only[D.nat?];have:(0:Int)<=(n:Int):=by omega
 rw[decide_eq_true this];rfl
theorem zkw{sz n:Nat}{k:RowK}{es:List D}:kU sz (.list k es) n=dK (k.sz==sz) (dH (pX es n) fun d=>some (.gC d)) none:=rfl
theorem iG:((0:Nat):Int)=0:=rfl
theorem uj:((1:Nat):Int)=1:=rfl
theorem mC{α:Type}(l:List α)(i:Nat)(h:i<l.length):l.take i++[l[i]]=l.take (i+1):=by rw[List.take_add_one,List.getElem?_eq_getElem h];simp
def ow:Nat->Bool
 |0=>false
 |_+1=>true
theorem Yd{α:Type}{l:List α}{i:Nat}:l.take i≠[]->ow i=true:=by
 cases i with
 |zero=>intro h;simp at h
 |succ i=>intro _;rfl
theorem rA{i:Nat}:ow (i+1)=true:=rfl
theorem yW:ow 0=false:=rfl
theorem uJ{α:Type}{k:RowK}{sz:Nat}(hs:k.sz=sz)(f:α->D)(l:List α)(i:Nat)(h:i<l.length):kU sz (gX k (l.map f)) i=some (.gC (f l[i])):=by
 have hn:pX (l.map f) i=some (f l[i]):=by rw[ED,EC _ _ h];rfl
 cases l with
 |nil=>simp at h
 |cons x r =>simp only[aO,gX,kU,hs,bW,dQ]at hn ⊢;rw[hn];rfl
theorem sZ(l:List Tx)(i:Nat)(h:i<l.length):kU 1 (dG l) i=some (.gC (.str l[i])):=uJ rfl _ _ _ h
theorem uK{α:Type}{k:RowK}(f:α->D)(l:List α):lenOf (gX k (l.map f))=some l.length:=by
 cases l with
 |nil=>rfl
 |cons x r=>simp[gX,lenOf]
theorem lE(l:List Tx):lenOf (dG l)=some l.length:=uK _ l
theorem Oq{α:Type}{k:RowK}{fG:Nat}{f:α->D}(hok:∀a,(f a).ok=true)(hsz:∀a,(f a).cells.length=k.sz)(hb:fG<=1024)(l:List α)(v:α)(o:Bool)(ho:l≠[]->o=true)(hl:l.length<1000000000):lM k fG ⟨o,gX k (l.map f)⟩ [f v]=some ⟨true,gX k ((l++[v]).map f)⟩:=by have h1:(l.length+1)*fG<=1000000000*1024:=Nat.mul_le_mul (by omega) hb;rw[zt2 (fun h=>ho (by simpa using h)) (hok _) (hsz _) (by simp[iN];omega) (by simp[iN];omega)];simp
theorem Bf(l:List Tx)(v:Tx)(o:Bool)(ho:l≠[]->o=true)(hl:l.length<1000000000):lM dY 16 ⟨o,dG l⟩ [.str v]=some ⟨true,dG (l++[v])⟩:=Oq (fun _=>rfl) (fun _=>rfl) (by omega) l v o ho hl
theorem rK{body:Env->Store->oC}{n:Nat}{e:Env}{O:Store}{e':Env}{O':Store}(h:body e O=some (.normal,e',O')):jI body (n+1) e O=jI body n e' O':=by rw[jI,h]
theorem rW{body:Env->Store->oC}{n:Nat}{e:Env}{O:Store}{e':Env}{O':Store}{i:Nat}(h:body e O=some (.exit i,e',O')):jI body (n+1) e O=some (.exit i,e',O'):=by rw[jI,h]
theorem CB{body:Env->Store->oC}{n:Nat}{e:Env}{O:Store}{e':Env}{O':Store}(h:body e O=some (.ret,e',O')):jI body (n+1) e O=some (.ret,e',O'):=by rw[jI,h]
theorem kk:Dj.sz=1/\Dj.ag=false/\Dj.same Dj=true/\jC.sz=14/\jC.ag=true/\jC.same jC=true/\iS.sz=15/\iS.ag=true/\iS.same iS=true/\tV.sz=3/\tV.ag=true/\tV.same tV=true/\gV.sz=10/\gV.ag=true/\gV.same gV=true/\U1.sz=8/\U1.ag=true/\U1.same U1=true/\fE.sz=4/\fE.ag=true/\fE.same fE=true/\jA.sz=12/\jA.ag=true/\jA.same jA=true/\U2.sz=4/\U2.ag=true/\U2.same U2=true/\mZ.sz=1/\mZ.ag=false/\mZ.same mZ=true/\uT.sz=1/\uT.ag=false/\uT.same uT=true/\dY.sz=1/\dY.ag=false/\dY.same dY=true/\Ii.sz=1/\Ii.ag=false/\Ii.same Ii=true:=⟨rfl,rfl,rfl,rfl,rfl,rfl,rfl,rfl,rfl,rfl,rfl,rfl,rfl,rfl,rfl,rfl,rfl,rfl,rfl,rfl,rfl,rfl,rfl,rfl,rfl,rfl,rfl,rfl,rfl,rfl,rfl,rfl,rfl,rfl,rfl,rfl,rfl,rfl,rfl⟩
set_option linter.defProp false in
def kn:=aB kk (aB @nat1 (aB @nat2 (aB @nat3 (aB @nat4 (aB @nat5 (aB @nat6 (aB @nat7 (aB @nat8 (aB @rg.eq_1 (aB @sq.eq_1 (aB @ml.eq_1 (aB @mf.eq_1 (aB @ci.eq_1 (aB @I.eq_1 (aB @I0.eq_1 (aB @I1.eq_1 (aB @I2.eq_1 (aB @I3.eq_1 (aB @I4.eq_1 (aB @I5.eq_1 (aB @I6.eq_1 (aB @I7.eq_1 (aB @I8.eq_1 (aB @I9.eq_1 (aB @O0.eq_1 (aB @O1.eq_1 (aB @O2.eq_1 (aB @O3.eq_1 (aB @O4.eq_1 (aB @O5.eq_1 (aB @O6.eq_1 (aB @O7.eq_1 (aB @O8.eq_1 (aB @O9.eq_1 (aB @Q2.eq_1 (aB @Q3.eq_1 (aB @Q4.eq_1 (aB @Q5.eq_1 (aB @Q6.eq_1 (aB @Q7.eq_1 @zkw))))))))))))))))))))))))))))))))))))))))
end Go.Fu
