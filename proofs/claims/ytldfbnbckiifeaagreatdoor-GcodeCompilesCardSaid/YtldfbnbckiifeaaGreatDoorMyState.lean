/- A part of the proof. -/
import Derived.Test.YtldfbnbckiifeaaGreatDoorMyOps
import Derived.Great.FillDense
import Derived.Lib.Strings
set_option linter.all false
namespace Go.Mx
open Go
section
variable[kQ]{P:Program}{I:fU}{j:fJ}{own:gZ}{lb:fJ}{N:Nat}{e:Env}{a:Go.Act}{w:World}{O:Store}
theorem zhx{d:D}{k:IntKind}{n:Int}(h:d.int?=some (k,n)){v:Value}(hr:dL I j d v):v=.int k n:=by cases d<;>simp only[D.int?,reduceCtorEq,aA,Prod.mk.injEq]at h;obtain⟨rfl,rfl⟩:=h;simpa only[dL]using hr
theorem Ks{d:D}{n:Nat}(h:d.nat?=some n){v:Value}(hr:dL I j d v):∃k,v=.int k (n:Int):=by cases d<;>simp only[D.nat?,reduceCtorEq]at h;obtain⟨h1,h2⟩:=gQ h;simp only[cE]at h1;cases h2;rename_i k m;refine⟨k,?_⟩;simp only[dL]at hr;rw[hr];congr 1;omega
theorem H8{d:D}{s:List UInt8}(h:d.wR=some s){v:Value}(hr:dL I j d v):v=.string ⟨⟨s⟩⟩:=by cases d<;>simp only[D.wR,reduceCtorEq,aA]at h;subst h;simpa only[dL]using hr
theorem zz4(hL:eI I j own lb N e a w){o:Oper}{s t:TypeId}{x:Operand}{y:dS}{k:IntKind}(ho:o.op=.convert s t x)(hk:dT x y=true)(hs:(P.underlying s).isSome=true)(ht:Ez P t=some k){v:Val}
  (h:eQ (.toInt k y) e O=some v):∃u,(execOp a.eval o).run P w=.ok (.value u) w/\iO I j lb v u:=by
 obtain⟨ds,hds⟩:=aT.1 hs;have ht:P.underlying t=some (.int k):=by
  unfold Ez at ht;split at ht
  ·cases ht;assumption
  ·cases ht
 simp only[eQ]at h;obtain⟨c,h1,h⟩:=dJ h;obtain⟨⟨k',n⟩,h2,h⟩:=dJ h;cases h;have hx:=zhx h2 (gW hL hk h1);refine⟨.int k (k.wrap n),?_,by simp only[iO,dL]⟩;simp only[execOp,ho,hx,convert,Sem.run_bind,run_underlying hds,run_underlying ht,Result.andThen_ok,Conv.intToInt,Sem.run_pure]
theorem zz5(hL:eI I j own lb N e a w){o:Oper}{s t:TypeId}{x:Operand}{y:dS}(ho:o.op=.convert s t x)(hk:dT x y=true)(hs:(P.underlying s).isSome=true)(ht:tY P t=true){v:Val}
  (h:eQ (.toStr y) e O=some v):∃u,(execOp a.eval o).run P w=.ok (.value u) w/\iO I j lb v u:=by
 obtain⟨ds,hds⟩:=aT.1 hs;have ht:P.underlying t=some .string:=by
  unfold tY at ht;split at ht
  ·assumption
  ·cases ht
 simp only[eQ]at h;obtain⟨c,h1,h⟩:=dJ h;obtain⟨s',h2,h⟩:=dJ h;cases h;have hx:=H8 h2 (gW hL hk h1);refine⟨.string ⟨⟨s'⟩⟩,?_,by simp only[iO,dL]⟩;simp only[execOp,ho,hx,convert,Sem.run_bind,run_underlying hds,run_underlying ht,Result.andThen_ok,Sem.run_pure]
theorem ztx(hL:eI I j own lb N e a w){o:Oper}{s t:TypeId}{x:Operand}{y:dS}{k0:IntKind}(ho:o.op=.convert s t x)(hk:dT x y=true)(hs:P.underlying s=some (.int k0))(ht:P.underlying t=some .string){v:Val}
  (h:eQ (.EJ y) e O=some v):∃u,(execOp a.eval o).run P w=.ok (.value u) w/\iO I j lb v u:=by
 simp only[eQ]at h;obtain⟨c,h1,h⟩:=dJ h;obtain⟨⟨k',n⟩,h2,h⟩:=dJ h;cases h;have hx:=zhx h2 (gW hL hk h1);refine⟨.string (Utf8.encode n),?_,by simp only[iO,dL]⟩;simp only[execOp,ho,hx,convert,Sem.run_bind,run_underlying hs,run_underlying ht,Result.andThen_ok,Conv.intToString,Sem.run_pure]
theorem ztw(hL:eI I j own lb N e a w){o:Oper}{t:TypeId}{x:Operand}{y:dS}(ho:o.op=.makeInterface t x)(hk:dT x y=true)(ht:xG P t=some false){v:Val}
  (h:eQ (.Jy t y) e O=some v):∃u,(execOp a.eval o).run P w=.ok (.value u) w/\iO I j lb v u:=by
 simp only[eQ]at h;obtain⟨c,h1,h⟩:=dJ h;cases h;have hr:=gW hL hk h1;have hc:P.concrete t=true:=by
  unfold xG at ht;unfold Program.concrete;cases hd:P.underlying t with
  |none=>rw[hd]at ht;cases ht
  |some d=>rw[hd]at ht;cases d<;>first|rfl|(simp at ht;done)
 refine⟨.iface t (a.eval x),?_,by simp only[iO,dL];exact⟨_,rfl,hr⟩⟩;simp only[execOp,ho,Sem.run_bind,run_makeInterface w t _ hc,Result.andThen_ok,Sem.run_pure]
theorem zw8(hL:eI I j own lb N e a w){o:Oper}{f:FuncId}{az bs:Array Operand}{az' bs':List dS}(ho:o.op=.makeFunc (.func f) az bs)(hk:vY az.toList az'=true)(hk1:vY bs.toList bs'=true){v:Val}
  (h:eQ (.nL (.func f) az' bs') e O=some v):∃u,(execOp a.eval o).run P w=.ok (.value u) w/\iO I j lb v u:=by
 simp only[eQ]at h;obtain⟨ds,h1,h⟩:=dJ h;obtain⟨ds',h2,h⟩:=dJ h;cases h;have r1:=Gw hL hk h1;have r2:=Gw hL hk1 h2;refine⟨.func (.func f) (az.map a.eval) (bs.map a.eval),?_,?_⟩
 ·simp only[execOp,ho,Instr.makeFunc,Sem.run_bind,Sem.run_pure,Result.andThen_ok]
 ·simp only[iO,dL];refine⟨az.toList.map a.eval,bs.toList.map a.eval,?_,r1,r2⟩;rw[<-Array.toList_map,<-Array.toList_map]
theorem ztv(hL:eI I j own lb N e a w){o:Oper}{x:Operand}{y:dS}{i:Nat}(ho:o.op=.extract x i)(hk:dT x y=true){v:Val}
  (h:eQ (.extract y i) e O=some v):∃u,(execOp a.eval o).run P w=.ok (.value u) w/\iO I j lb v u:=by
 simp only[eQ]at h;obtain⟨c,h1,h⟩:=dJ h;obtain⟨ds,h2,h⟩:=dJ h;obtain⟨d,h3,h⟩:=dJ h;cases h;have hr:=gW hL hk h1;cases hd:c.d<;>rw[hd]at h2<;>simp only[D.uw,reduceCtorEq,aA]at h2;subst h2;rw[hd]at hr;simp only[dL]at hr;obtain⟨vs,hx,hl⟩:=hr;rw[Qe]at h3;obtain⟨u,hu,nU⟩:=hl.at i d h3;refine⟨u,?_,nU⟩;simp only[execOp,ho,hx,Instr.extract,List.getElem?_toArray,hu,Sem.run_bind,Sem.run_pure,Result.andThen_ok]
theorem Qa{t:TypeId}(h:tY P t=true):P.underlying t=some .string:=by
 unfold tY at h;split at h
 ·assumption
 ·cases h
theorem zhab(hL:eI I j own lb N e a w){o:Oper}{t:TypeId}{x:Operand}{y:dS}(ho:o.op=.call {callee:=.builtin .len,args:=⟨[x]⟩,argTypes:=⟨[t]⟩})(hk:dT x y=true)
  (ht:(nF P t).isSome=true) {v:Val} (h:eQ (.len y) e O=some v):∃u,(execOp a.eval o).run P w=.ok (.value u) w/\iO I j lb v u:=by
 obtain⟨el,hel⟩:=aT.1 ht;have hel:=uF hel;simp only[eQ]at h;obtain⟨c,h1,h⟩:=dJ h;obtain⟨n,h2,h⟩:=dJ h;cases h;have hr:=gW hL hk h1;have:∃ad cap,a.eval x=.slice ad n cap:=by
  cases hd:c.d<;>rw[hd]at h2 hr<;>simp only[lenOf,reduceCtorEq,aA]at h2<;>subst h2<;>simp only[dL]at hr
  ·exact⟨_,_,hr⟩
  ·obtain⟨ad,cap,hx,_⟩:=hr;exact⟨ad,cap,hx⟩
  ·obtain⟨_,_,ad,_,_,_,hx,_⟩:=hr;exact⟨some ad,_,hx⟩
  ·obtain⟨ad,hx⟩:=hr;exact⟨ad,0,hx⟩
 obtain⟨ad,cap,hx⟩:=this;refine⟨.int .i64 n,?_,by simp only[iO,dL]⟩;simp only[execOp,ho,resolve,invoke,builtin,Sem.run_bind,Sem.run_pure,Result.andThen_ok,List.map_toArray,aO,aZ,hx,Builtin.len_,List.getElem?_toArray,List.getElem?_cons_zero,run_underlying hel,goInt]
theorem zdfb(hL:eI I j own lb N e a w){o:Oper}{t:TypeId}{x:Operand}{y:dS}(ho:o.op=.call {callee:=.builtin .len,args:=⟨[x]⟩,argTypes:=⟨[t]⟩})(hk:dT x y=true)
  (ht:tY P t=true) {v:Val} (h:eQ (.Y3 y) e O=some v):∃u,(execOp a.eval o).run P w=.ok (.value u) w/\iO I j lb v u:=by
 have ht:=Qa ht;simp only[eQ]at h;obtain⟨c,h1,h⟩:=dJ h;obtain⟨s,h2,h⟩:=dJ h;cases h;have hx:=H8 h2 (gW hL hk h1);have hsz:(⟨⟨s⟩⟩:ByteArray).size=s.length:=rfl;refine⟨.int .i64 s.length,?_,by simp only[iO,dL]⟩;simp only[execOp,ho,resolve,invoke,builtin,Sem.run_bind,Sem.run_pure,Result.andThen_ok,List.map_toArray,aO,aZ,hx,Builtin.len_,List.getElem?_toArray,List.getElem?_cons_zero,run_underlying ht,goInt,hsz]
theorem zz1(hL:eI I j own lb N e a w){o:Oper}{t:TypeId}{x i:Operand}{x' i':dS}(ho:o.op=.index t x i)(hk:dT x x'=true)(hk1:dT i i'=true)(ht:tY P t=true){v:Val}
  (h:eQ (.index x' i') e O=some v):∃u,(execOp a.eval o).run P w=.ok (.value u) w/\iO I j lb v u:=by
 have ht:=Qa ht;simp only[eQ]at h;obtain⟨c,h1,h⟩:=dJ h;obtain⟨s,h2,h⟩:=dJ h;obtain⟨c',h3,h⟩:=dJ h;obtain⟨n,h4,h⟩:=dJ h;obtain⟨b,h5,h⟩:=dJ h;cases h;have hx:=H8 h2 (gW hL hk h1);obtain⟨k,hi⟩:=Ks h4 (gW hL hk1 h3);rw[Qe]at h5;refine⟨.int .u8 b.toNat,?_,by simp only[iO,dL]⟩;have hn:0<=(n:Int):=by omega
 have hb:(⟨⟨s⟩⟩:ByteArray)[(n:Int).toNat]?=some b:=(by have hlt:=(List.getElem?_eq_some_iff.1 h5).1;rw[Int.toNat_natCast];have hs:n<(⟨⟨s⟩⟩:ByteArray).size:=hlt;have hg:=(List.getElem?_eq_some_iff.1 h5).2;rw[getElem?_pos (⟨⟨s⟩⟩:ByteArray) n hs];exact congrArg some hg);simp only[execOp,ho,hx,hi,Instr.index,asIntOf,Sem.run_bind,Sem.run_pure,run_underlying ht,Result.andThen_ok,hn,if_true,hb]
theorem AY{k:IntKind}{n y:Nat}{c:BoundsCode}(h:n<=y):(Instr.sliceBound (.int k (n:Int)) y c).run P w=.ok n w:=by simp only[Instr.sliceBound,asIntOf,Sem.run_bind,Sem.run_pure,Result.andThen_ok,Sem.run_ite];rw[if_pos ⟨by omega,by omega⟩];simp
theorem AU{isSlice:Bool}{len cap l h:Nat}{lo hi:Option Value}(hlo:lo=none/\l=0\/∃k,lo=some (.int k (l:Int)))(hhi:hi=none/\h=len\/∃k,hi=some (.int k (h:Int)))(h1:l<=h)(h2:h<=cap) :
  (Instr.sliceBounds isSlice len cap lo hi none).run P w=.ok (l,h,cap) w:=by
 unfold Instr.sliceBounds
 rcases hhi with⟨rfl,rfl⟩|⟨k,rfl⟩<;>rcases hlo with⟨rfl,rfl⟩|⟨k',rfl⟩ <;>
  simp only[Sem.run_bind,Sem.run_pure,Result.andThen_ok,AY h1,AY h2]
theorem kz(hL:eI I j own lb N e a w){x:Option Operand}{y:Option dS}(hk:Cc x y=true){n:Nat}(h:zO e y=some n) :
  x.map a.eval=none/\n=0\/∃k,x.map a.eval=some (.int k (n:Int)):=by
 cases y with
 |none =>
  cases x with
  |none=>cases h;exact .inl ⟨rfl,rfl⟩
  |some x=>cases hk
 |some y =>
  cases x with
  |none=>cases hk
  |some x =>simp only[zO]at h;obtain⟨c,h1,h2⟩:=dJ h;obtain⟨k,hk2⟩:=Ks h2 (gW hL hk h1);exact .inr ⟨k,by simp[hk2]⟩
theorem zh5(hL:eI I j own lb N e a w){x:Option Operand}{y:Option dS}(hk:Cc x y=true){n:Option Nat}(h:Le e y=some n)(len:Nat) :
  x.map a.eval=none/\n.getD len=len\/∃k,x.map a.eval=some (.int k ((n.getD len:Nat):Int)):=by
 cases y with
 |none =>
  cases x with
  |none=>cases h;exact .inl ⟨rfl,rfl⟩
  |some x=>cases hk
 |some y =>
  cases x with
  |none=>cases hk
  |some x =>simp only[Le]at h;obtain⟨c,h1,h2⟩:=dJ h;obtain⟨m,h3,h4⟩:=dJ h2;cases h4;obtain⟨k,hk2⟩:=Ks h3 (gW hL hk h1);exact .inr ⟨k,by simp[hk2]⟩
theorem jS.drop{sz:Nat}:∀{es:List D}{b o:Nat}(l:Nat),jS I j sz es b o->jS I j sz (es.drop l) b (o+l*sz)
 |es,b,o,0,h=>by simpa using h
 |[],b,o,l+1,_=>by simp only[List.drop_nil,jS]
 |d::es,b,o,l+1,h=>by
  simp only[jS]at h;have:=jS.drop l h.2;rw[show o+sz+l*sz=o+(l+1)*sz by rw[Nat.add_mul];omega]at this;simpa using this
theorem jS.take{sz:Nat}:∀{es:List D}{b o:Nat}(l:Nat),jS I j sz es b o->jS I j sz (es.take l) b o
 |es,b,o,0,_=>by simp only[List.take_zero,jS]
 |[],b,o,l+1,_=>by simp only[List.take_nil,jS]
 |d::es,b,o,l+1,h=>by
  simp only[jS]at h;simp only[List.take_succ_cons,jS];exact⟨h.1,jS.take l h.2⟩
theorem jS.at{sz:Nat}:∀{es:List D}{b o:Nat},jS I j sz es b o->∀(i:Nat)(d:D),es[i]?=some d->∃x,At I b (o+i*sz) x/\x.cells.size=sz/\dL I j d x
 |[],_,_,_,i,d,hi=>by simp at hi
 |d::es,b,o,h,0,d',hi=>by
  simp only[jS]at h;simp at hi;subst hi;simpa using h.1
 |d::es,b,o,h,i+1,d',hi=>by
  simp only[jS]at h;have:=jS.at h.2 i d' (by simpa using hi)
  rwa [show o+sz+i*sz=o+(i+1)*sz by rw[Nat.add_mul];omega]at this
theorem zz3(hL:eI I j own lb N e a w){o:Oper}{t:TypeId}{x:Operand}{x':dS}{lo hi:Option Operand}{lo' hi':Option dS}{sz:Nat}(ho:o.op=.slice t x lo hi none)(hk:dT x x'=true)(hk1:Cc lo lo'=true)(hk2:Cc hi hi'=true)
  {el:TypeId} (ht:P.underlying t=some (.slice el)) (hsz:jV P el=some sz) {v:Val}
  (h:eQ (.slice sz x' lo' hi') e O=some v):∃u,(execOp a.eval o).run P w=.ok (.value u) w/\iO I j lb v u:=by
 simp only[eQ]at h;obtain⟨c,h1,h⟩:=dJ h;obtain⟨l,h2,h⟩:=dJ h;obtain⟨m,h3,h⟩:=dJ h;obtain⟨d,h4,h⟩:=dJ h;cases h;have hr:=gW hL hk h1;have hlo:=kz hL hk1 h2;have hhi:=fun len=>zh5 hL hk2 h3 len
 revert h4 hr
 generalize c.d=dx;intro h4 hr;have hex:(execOp a.eval o).run P w=((Instr.sliceAt t (a.eval x) (lo.map a.eval) (hi.map a.eval) none).run P w).andThen fun v w'=>.ok (.value v) w':=by
  simp only[execOp,ho,Option.map_none,Sem.run_bind,Sem.run_pure]
 cases dx<;>simp only[xJ,reduceCtorEq]at h4
 case dN =>
  obtain⟨h5,h4⟩:=gQ h4;simp only[aC,cE]at h5;cases h4;simp only[dL]at hr;have hm:m.getD 0=0:=by omega
  have hl0:l=0:=by omega
  have hb:=AU (P:=P) (w:=w) (isSlice:=true) (len:=0) (cap:=0) hlo (hhi 0) (by omega) (by omega);rw[hm,hl0]at hb;refine⟨.slice none 0 0,?_,by simp only[iO,dL]⟩;rw[hex,hr];simp only[Instr.sliceAt,Instr.slice,Sem.run_bind,run_underlying ht,Result.andThen_ok,hb,Az hsz,Sem.run_pure,if_true,Nat.sub_zero]
 case mV =>
  obtain⟨h5,h4⟩:=gQ h4;simp only[aC,cE]at h5;cases h4;simp only[dL]at hr;obtain⟨ad,hr⟩:=hr;have hm:m.getD 0=0:=by omega
  have hl0:l=0:=by omega
  have hb:=AU (P:=P) (w:=w) (isSlice:=true) (len:=0) (cap:=0) hlo (hhi 0) (by omega) (by omega);rw[hm,hl0]at hb;refine⟨.slice ad 0 0,?_,by simp only[iO,dL];exact⟨ad,rfl⟩⟩;rw[hex,hr];simp only[Instr.sliceAt,Instr.slice,Sem.run_bind,run_underlying ht,Result.andThen_ok,hb,Az hsz,Sem.run_pure,if_true,Nat.sub_zero]
 case arr k id off len =>
  obtain⟨h5,h4⟩:=gQ h4;simp only[aC,cE,beq_iff_eq]at h5;cases h4;obtain⟨⟨h5,h6⟩,h7⟩:=h5;subst h7;simp only[dL]at hr;obtain⟨b,c,ad,hj1,hj2,hle,hx,hor⟩:=hr;have hb:=AU (P:=P) (w:=w) (isSlice:=true) (len:=len) (cap:=c-off) hlo (hhi len) h5 (by omega);refine⟨.slice (some (if c-off=l then ad else ad.add (l*k.sz))) (m.getD len-l) (c-off-l),?_,?_⟩
  ·rw[hex,hx];simp only[Instr.sliceAt,Instr.slice,Sem.run_bind,run_underlying ht,Result.andThen_ok,hb,Az hsz,Sem.run_pure];by_cases hq:c-off=l
   ·rw[if_pos hq,if_pos hq]
   ·rw[if_neg hq,if_neg hq];rfl
  ·simp only[iO,dL];refine⟨b,c,_,hj1,hj2,by omega,by rw[Nat.sub_sub],?_⟩;rcases hor with hor|rfl
   ·left;omega
   ·by_cases hq:c-off=l
    ·left;omega
    ·right;rw[if_neg hq,Addr.add_lit,Nat.add_mul]
 case list Zk es =>
  obtain⟨h5,h4⟩:=gQ h4;simp only[aC,cE,beq_iff_eq]at h5;cases h4;obtain⟨⟨h5,h6⟩,h7⟩:=h5;subst h7;simp only[dL]at hr;obtain⟨ad,cap,hx,hcap,hmax,hrow⟩:=hr;have hb:=AU (P:=P) (w:=w) (isSlice:=true) (len:=es.length) (cap:=cap) hlo (hhi es.length) h5 (by omega);refine⟨.slice (if cap=l then ad else ad.map (·.add (l*Zk.sz))) (m.getD es.length-l) (cap-l),?_,?_⟩
  ·rw[hex,hx];simp only[Instr.sliceAt,Instr.slice,Sem.run_bind,run_underlying ht,Result.andThen_ok,hb,Az hsz,Sem.run_pure]
  ·have hlen:((es.drop l).take (m.getD es.length-l)).length=m.getD es.length-l:=(by simp only[bI,List.length_drop];omega);simp only[iO,dL];refine⟨_,cap-l,by rw[hlen],by rw[hlen];omega,by omega,?_⟩;by_cases hz:m.getD es.length-l=0
   ·left;rw[hz];simp
   ·right;rcases hrow with hrow|⟨b,off,rfl,hrow⟩
    ·subst hrow;simp at h6 hz;omega
    ·rw[if_neg (by omega)];refine⟨b,off+l*Zk.sz,by simp[Addr.add_lit],(hrow.drop l).take _⟩
theorem zw9(hL:eI I j own lb N e a w){o:Oper}{t:TypeId}{x:Operand}{x':dS}{lo hi:Option Operand}{lo' hi':Option dS}(ho:o.op=.slice t x lo hi none)(hk:dT x x'=true)(hk1:Cc lo lo'=true)(hk2:Cc hi hi'=true)
  (ht:P.underlying t=some .string) {v:Val} (h:eQ (.EZ x' lo' hi') e O=some v):∃u,(execOp a.eval o).run P w=.ok (.value u) w/\iO I j lb v u:=by
 simp only[eQ]at h;obtain⟨c,h1,h⟩:=dJ h;obtain⟨s,hs,h⟩:=dJ h;obtain⟨l,h2,h⟩:=dJ h;obtain⟨m,h3,h⟩:=dJ h;obtain⟨d,h4,h⟩:=dJ h;cases h;have hr:=H8 hs (gW hL hk h1);have hlo:=kz hL hk1 h2;have hhi:=zh5 hL hk2 h3 s.length;simp only[zfc]at h4;obtain⟨h5,h4⟩:=gQ h4;simp only[aC,cE]at h5;cases h4;have hb:=AU (P:=P) (w:=w) (isSlice:=false) (len:=s.length) (cap:=s.length) hlo hhi h5.1 h5.2;refine⟨.string ⟨⟨(s.drop l).take (m.getD s.length-l)⟩⟩,?_,by simp only[iO,dL]⟩;have hsz:(⟨⟨s⟩⟩:ByteArray).size=s.length:=rfl;simp only[execOp,ho,hr,Option.map_none,Instr.sliceAt,Instr.slice,Sem.run_bind,run_underlying ht,Result.andThen_ok,Option.isSome_none,aE,if_false,hsz,hb,Sem.run_pure];rw[Lib.extract_eq]
end
section
variable[kQ]{P:Program}{I:fU}{j:fJ}{own:gZ}{lb:fJ}{N:Nat}{e:Env}{a:Go.Act}{w:World}{O:Store}
theorem NY{cs:List D}{vs:List Value}(hr:dV I j cs vs)(h1:∀x∈vs,x.oneCell'=true){t:TypeId}{k:Option Nat}(hk:oR P t k=true){off:Nat}{d:D}(h:Go.Mx.part k cs off=some d) :
  ∃v,(Go.part t ⟨vs⟩ off).run P w=.ok v w/\dL I j d v/\∀i x,v.cells[i]?=some x->vs[off+i]?=some x:=by
 cases k with
 |none =>
  simp only[oR,aC,beq_iff_eq]at hk;simp only[Go.Mx.part,Qe]at h;obtain⟨v,hv,hd⟩:=hr.at off d h;have hc1:v.cells=#[v]:=by
   have:=h1 v (List.mem_of_getElem? hv);cases v<;>simp[Value.oneCell']at this<;>rfl
  refine⟨v,?_,hd,fun i x hx=>?_⟩
  ·simp only[Go.part,Sem.run_bind,LA hk.1,Result.andThen_ok,aE,if_false,List.getElem?_toArray,hv,Sem.run_pure]
  ·rw[hc1]at hx;cases i with
   |zero=>simp at hx;subst hx;exact hv
   |succ i=>simp at hx
 |some n =>
  simp only[oR,aC,beq_iff_eq]at hk;simp only[Go.Mx.part]at h;obtain⟨h2,h⟩:=gQ h;simp only[cE]at h2;cases h;have hl:=hr.length;have hex:(⟨vs⟩:Array Value).extract off (off+n)=⟨(vs.drop off).take n⟩:=by
   apply Array.ext';simp[List.take_drop]
  refine⟨.agg ⟨(vs.drop off).take n⟩,?_,?_,fun i x hx=>?_⟩
  ·simp only[Go.part,Sem.run_bind,LA hk.1,Result.andThen_ok,if_true,Az hk.2,Sem.run_pure,hex]
  ·simp only[dL];refine⟨_,rfl,dV.of (by simp only[bI,List.length_drop];omega) (fun i d hi=>?_),fun x hx=>h1 x (List.mem_of_mem_drop (bH hx))⟩;simp only[List.getElem?_take,List.getElem?_drop]at hi ⊢;split at hi
   ·rename_i hin;rw[if_pos hin];exact hr.at _ _ hi
   ·cases hi
  ·simp only[Value.cells,List.getElem?_toArray,List.getElem?_take,List.getElem?_drop]at hx;split at hx
   ·exact hx
   ·cases hx
theorem OY{d:D}{cs:List D}(h:d.sE=some cs){v:Value}(hr:dL I j d v):∃vs,v=.agg ⟨vs⟩/\dV I j cs vs/\∀x∈vs,x.oneCell'=true:=by cases d<;>simp only[D.sE,reduceCtorEq,aA]at h;subst h;simpa only[dL]using hr
theorem zpm(hL:eI I j own lb N e a w){o:Oper}{t:TypeId}{x:Operand}{y:dS}{i off:Nat}{k:Option Nat}{fs:List Field}{f:Field}(ho:o.op=.fieldAddr t x i)(hk:dT x y=true)
  (hf:Pn P t=some fs) (hi:fs[i]?=some f) (hoff:f.offset=off) (hkk:oR P f.type k=true) (hs0:jV P f.type≠some 0) {v:Val}
  (h:eQ (.fieldAddr off k y) e O=some v):∃u,(execOp a.eval o).run P w=.ok (.value u) w/\iO I j lb v u:=by
 have hu:=XC hf;have hi':(⟨fs⟩:Array Field)[i]?=some f:=by simpa using hi
 have hsz:∃n,jV P f.type=some n/\n≠0:=by
  cases k with
  |none =>simp only[oR,aC,beq_iff_eq]at hkk;exact⟨1,hkk.2,by omega⟩
  |some n =>simp only[oR,aC,beq_iff_eq]at hkk;exact⟨n,hkk.2,fun e=>hs0 (e▸hkk.2)⟩
 obtain⟨n,hn,hn0⟩:=hsz;have hex:∀b o',a.eval x=.pointer (some ⟨b,o',none⟩)->(execOp a.eval o).run P w=.ok (.value (.pointer (some ⟨b,o'+off,none⟩))) w:=by
  intro b o' hx;simp only[execOp,ho,hx,Instr.fieldAt,Sem.run_bind,run_underlying hu,Result.andThen_ok,hi',Instr.sureAddr,Sem.run_pure,fieldPlace,Az hn,if_neg hn0,Addr.add_lit,hoff]
 simp only[eQ]at h;obtain⟨p,hp,h⟩:=dJ h;have hr:=Be hL hk hp;cases p with
 |loc b o' =>cases h;obtain⟨B,hB,hx⟩:=hr;exact⟨_,hex B o' hx,B,hB,rfl⟩
 |ptr id o' =>cases h;obtain⟨B,hB,hx⟩:=hr;exact⟨_,hex B o' hx,by simp only[iO,dL];exact⟨B,hB,rfl⟩⟩
 |gC d =>obtain⟨cs,h1,h⟩:=dJ h;obtain⟨d',h2,h⟩:=dJ h;cases h;obtain⟨b,o',u,hx,hat,hd⟩:=hr;obtain⟨vs,rfl,hl,h1c⟩:=OY h1 hd;obtain⟨u',_,hu',hcells⟩:=NY (P:=P) (w:=w) hl h1c hkk h2;refine⟨_,hex b o' hx,?_⟩;simp only[iO,dL];refine⟨b,o'+off,u',rfl,fun i x hx=>?_,hu'⟩;rw[Nat.add_assoc];exact hat (off+i) x (by simpa[Value.cells]using hcells i x hx)
theorem zz0(hL:eI I j own lb N e a w){o:Oper}{t:TypeId}{x:Operand}{y:dS}{i off:Nat}{k:Option Nat}{fs:List Field}{f:Field}(ho:o.op=.field t x i)(hk:dT x y=true)
  (hf:Pn P t=some fs) (hi:fs[i]?=some f) (hoff:f.offset=off) (hkk:oR P f.type k=true) {v:Val}
  (h:eQ (.field off k y) e O=some v):∃u,(execOp a.eval o).run P w=.ok (.value u) w/\iO I j lb v u:=by
 have hu:=XC hf;have hi':(⟨fs⟩:Array Field)[i]?=some f:=by simpa using hi
 simp only[eQ]at h;obtain⟨c,h1,h⟩:=dJ h;obtain⟨cs,h2,h⟩:=dJ h;obtain⟨d,h3,h⟩:=dJ h;cases h;obtain⟨vs,hx,hl,h1c⟩:=OY h2 (gW hL hk h1);obtain⟨u,hrun,nU,_⟩:=NY (P:=P) (w:=w) hl h1c hkk h3;refine⟨u,?_,nU⟩;simp only[execOp,ho,hx,Instr.field,Sem.run_bind,run_underlying hu,Result.andThen_ok,hi',asAgg,Sem.run_pure,hoff,hrun]
theorem zpn(hL:eI I j own lb N e a w){o:Oper}{t el:TypeId}{x i:Operand}{x' i':dS}{sz:Nat}(ho:o.op=.indexAddr t x i)(hk:dT x x'=true)(hk1:dT i i'=true)
  (ht:P.underlying t=some (.slice el)) (hsz:jV P el=some sz) {v:Val}
  (h:eQ (.indexAddr sz x' i') e O=some v):∃u,(execOp a.eval o).run P w=.ok (.value u) w/\iO I j lb v u:=by
 simp only[eQ]at h;obtain⟨c,h1,h⟩:=dJ h;obtain⟨c',h3,h⟩:=dJ h;obtain⟨n,h4,h⟩:=dJ h;obtain⟨d,h6,h⟩:=dJ h;cases h;have hr:=gW hL hk h1;obtain⟨k,hi⟩:=Ks h4 (gW hL hk1 h3);cases hd:c.d<;>rw[hd]at h6 hr<;>simp only[kU,reduceCtorEq]at h6
 ·rename_i Zk es;obtain⟨h5,h8⟩:=gQ h6;obtain⟨d',h9,h7⟩:=dJ h8;cases h7;simp only[beq_iff_eq]at h5;subst h5;rw[Qe]at h9;simp only[dL]at hr;obtain⟨ad,cap,hx,_,_,hrow⟩:=hr;have hlt:=(List.getElem?_eq_some_iff.1 h9).1;rcases hrow with hrow|⟨b,off,rfl,hrow⟩
  ·rw[hrow]at hlt;simp at hlt
  ·obtain⟨u,hat,_,hu⟩:=hrow.at n d' h9;have hb:0<=(n:Int)/\(n:Int)<es.length:=⟨by omega,by omega⟩;refine⟨.pointer (some ⟨b,off+n*Zk.sz,none⟩),?_,?_⟩
   ·simp only[execOp,ho,hx,hi,Instr.indexAt,asIntOf,Sem.run_bind,Sem.run_pure,run_underlying ht,Result.andThen_ok];rw[if_pos hb];simp only[Sem.run_bind,Az hsz,Result.andThen_ok,Sem.run_pure,Int.toNat_natCast,Addr.add_lit]
   ·simp only[iO,dL];exact⟨b,off+n*Zk.sz,u,rfl,hat,hu⟩
 ·rename_i k' id off len;obtain⟨h5,h6⟩:=gQ h6;cases h6;simp only[aC,beq_iff_eq,cE]at h5;obtain⟨h5,hlt⟩:=h5;subst h5;simp only[dL]at hr;obtain⟨b,cc,ad,q1,q2,q3,hx,hor⟩:=hr;have hne:off≠cc:=by omega
  obtain rfl:=hor.resolve_left hne;have hb:0<=(n:Int)/\(n:Int)<len:=⟨by omega,by omega⟩;refine⟨.pointer (some ⟨b,(off+n)*k'.sz,none⟩),?_,?_⟩
  ·simp only[execOp,ho,hx,hi,Instr.indexAt,asIntOf,Sem.run_bind,Sem.run_pure,run_underlying ht,Result.andThen_ok];rw[if_pos hb];simp only[Sem.run_bind,Az hsz,Result.andThen_ok,Sem.run_pure,Int.toNat_natCast,Addr.add_lit,Nat.add_mul]
  ·simp only[iO,dL];exact⟨b,q1,rfl⟩
/-! ### Aggregates that are built -/
theorem fw:∀(cs:List D)(off:Nat)(new:List D),off+new.length<=cs.length->(wQ cs off new).length=cs.length/\∀k,(wQ cs off new)[k]?=if off<=k/\k<off+new.length then new[k-off]? else cs[k]?
 |cs,off,[],_=>by
  have:wQ cs off []=cs:=by cases cs<;>cases off<;>rfl
  rw[this];exact⟨rfl,fun k=>by rw[if_neg (by simp only[aH];omega)]⟩
 |[],off,x::new,h=>by simp at h
 |c::cs,0,x::new,h=>by
  simp only[wQ];obtain⟨h1,h2⟩:=fw cs 0 new (by simp at h ⊢;omega);refine⟨by simp[h1],fun k=>?_⟩;cases k with
  |zero=>simp
  |succ k =>
   simp only[List.getElem?_cons_succ,h2 k,aG];by_cases hk:k<new.length
   ·rw[if_pos ⟨by omega,by omega⟩,if_pos ⟨by omega,by omega⟩];simp
   ·rw[if_neg (by omega),if_neg (by omega)]
 |c::cs,off+1,x::new,h=>by
  simp only[wQ];obtain⟨h1,h2⟩:=fw cs off (x::new) (by simp at h ⊢;omega);refine⟨by simp[h1],fun k=>?_⟩;cases k with
  |zero=>rw[if_neg (by omega)];simp
  |succ k =>
   simp only[List.getElem?_cons_succ,h2 k];by_cases hk:off<=k/\k<off+(x::new).length
   ·rw[if_pos hk,if_pos ⟨by omega,by omega⟩];congr 1;omega
   ·rw[if_neg hk,if_neg (by omega)]
theorem zed{place:Nat->Option (Nat×Nat)}:∀(ps:List (Nat×Value))(qs:List (Nat×Nat×D))(cells:List Value)(cs cs':List D),
  ps.length=qs.length->(∀(n:Nat)(p:Nat×Value)(q:Nat×Nat×D),ps[n]?=some p->qs[n]?=some q->place p.1=some (q.1,q.2.1)/\dL I j q.2.2 p.2) ->
  dV I j cs cells->(∀x∈cells,x.oneCell'=true)->Xt cs qs=some cs' ->
  ∃r,Instr.fill place ⟨cells⟩ ps=some ⟨r⟩/\dV I j cs' r/\∀x∈r,x.oneCell'=true
 |[],[],cells,cs,cs',_,_,hr,h1,h=>by
  simp only[Xt]at h;cases h;exact⟨cells,rfl,hr,h1⟩
 |[],_::_,_,_,_,hl,_,_,_,_=>by simp at hl
 |_::_,[],_,_,_,hl,_,_,_,_=>by simp at hl
 |(i,v)::ps,(off,n,d)::qs,cells,cs,cs',hl,hp,hr,h1,h=>by
  simp only[Xt]at h;cases hb:d.ok&&d.cells.length==n&&decide (off+n<=cs.length)with
  |false=>rw[hb]at h;cases h
  |true =>
   rw[hb,dQ]at h;simp only[aC,beq_iff_eq,cE]at hb;obtain⟨⟨hok,hn⟩,hle⟩:=hb;obtain⟨hpl,hd⟩:=hp 0 (i,v) (off,n,d) rfl rfl;simp only at hpl hd;obtain⟨hcr,hc1⟩:=hd.Gu hok;have hvs:v.cells.size=n:=by rw[hd.zcw hok,hn]
   have hlen:=hr.length;obtain⟨f1,f2⟩:=Great.foldl_set off v.cells.toList 0 ⟨cells⟩;have hzip:v.cells.zipIdx.toList=v.cells.toList.zipIdx 0:=by simp
   obtain⟨q1,q2⟩:=fw cs off d.cells (by omega);generalize hnew:((v.cells.toList.zipIdx 0).foldl (fun cs (x:Value×Nat)=>cs.setIfInBounds (off+x.2) x.1) (⟨cells⟩:Array Value))=new at f1 f2;have zleb:new.toList.length=(wQ cs off d.cells).length:=by rw[q1,Array.length_toList,f1];exact hlen
   have zlfb:dV I j (wQ cs off d.cells) new.toList:=by
    refine dV.of zleb fun k dk hk=>?_;rw[q2 k]at hk;have hkk:=f2 k;rw[<-Array.getElem?_toList]at hkk;rw[hkk];simp only[Nat.add_zero,Array.length_toList];by_cases hin:off<=k/\k<off+d.cells.length
    ·rw[if_pos hin]at hk;rw[if_pos ⟨hin.1,by omega,by show k<cells.length;omega⟩];exact hcr.at _ _ hk
    ·rw[if_neg hin]at hk;rw[if_neg (by omega)];simpa using hr.at _ _ hk
   have zldb:∀x∈new.toList,x.oneCell'=true:=by
    intro x hx;obtain⟨k,hk⟩:=List.getElem?_of_mem hx;rw[Array.getElem?_toList,f2 k]at hk;split at hk
    ·exact hc1 x (List.mem_of_getElem? hk)
    ·exact h1 x (List.mem_of_getElem? (by simpa using hk))
   obtain⟨r,k1,k2,k3⟩:=zed (place:=place) ps qs new.toList (wQ cs off d.cells) cs' (by simpa using hl) (fun m p q hpm hqm=>hp (m+1) p q (by simpa using hpm) (by simpa using hqm)) zlfb zldb h;refine⟨r,?_,k2,k3⟩;simp only[Instr.fill,hpl];have hcond:¬((decide (v.cells.size≠n)||decide (off+v.cells.size>(⟨cells⟩:Array Value).size))=true):=by
    have hsz:(⟨cells⟩:Array Value).size=cells.length:=rfl;rw[hvs,hsz];simp;omega
   rw[if_neg hcond];rw[<-k1];congr 1;rw[<-Array.foldl_toList,hzip];exact hnew
theorem NH{t:TypeId}{zs:List Value}(h:rQ P t=some zs):∃v,(zeroValue t).run P w=.ok v w/\v.cells=⟨zs⟩:=by obtain⟨v,h1,h2⟩:=zs4 (w:=w) h;exact⟨v,h1,by rw[<-h2]⟩
theorem za8(hL:eI I j own lb N e a w){fs:List Field}:∀{ps:List (Nat×Operand)}{qs:List (Nat×Nat×dS)}(_:Wm P fs ps qs=true){rs:List (Nat×Nat×D)}(_:Gz e qs=some rs),
  ps.length=rs.length/\∀(n:Nat)(p:Nat×Operand)(q:Nat×Nat×D),ps[n]?=some p->rs[n]?=some q->(∃f,fs[p.1]?=some f/\f.offset=q.1/\jV P f.type=some q.2.1)/\dL I j q.2.2 (a.eval p.2)
 |[],[],_,rs,h=>by simp only[Gz]at h;cases h;exact⟨rfl,fun n p q hp=>by simp at hp⟩
 |[],_::_,hk,_,_=>by simp only[Wm,aE]at hk
 |_::_,[],hk,_,_=>by simp only[Wm,aE]at hk
 |(i,x)::ps,(off,n,y)::qs,hk,rs,h=>by
  simp only[Wm,aC]at hk;simp only[Gz]at h;obtain⟨c,h1,h⟩:=dJ h;obtain⟨l,h2,h⟩:=dJ h;cases h;obtain⟨⟨hk1,hk2⟩,hk3⟩:=hk;obtain⟨r1,r2⟩:=za8 hL hk3 h2;refine⟨by simp[r1],fun m p q hp hq=>?_⟩;cases m with
  |zero =>
   simp at hp hq;subst hp hq;refine⟨?_,gW hL hk2 h1⟩;split at hk1
   ·rename_i f hf;simp only[aC,beq_iff_eq]at hk1;exact⟨f,hf,hk1.1,hk1.2⟩
   ·cases hk1
  |succ m=>exact r2 m p q (by simpa using hp) (by simpa using hq)
theorem zsb{fs:Array Field}(hs:∀(i:Nat) (f:Field),fs[i]?=some f->(jV P f.type).isSome=true) :
  (fs.mapM (m:=Sem) fun f=>do pure (f.offset,<-sizeOf f.type)).run P w=.ok (fs.map fun f=>(f.offset,(jV P f.type).getD 0)) w:=by
 obtain⟨l⟩:=fs;rw[List.mapM_toArray];have key:∀(l:List Field),(∀f∈l,(jV P f.type).isSome=true)->(l.mapM (m:=Sem) fun f=>do pure (f.offset,<-sizeOf f.type)).run P w=.ok (l.map fun f=>(f.offset,(jV P f.type).getD 0)) w:=by
  intro l;induction l with
  |nil=>intro _;simp
  |cons f l ih =>intro h;obtain⟨n,hn⟩:=aT.1 (h f (by simp));have ih:=ih fun g hg=>h g (by simp[hg]);simp only[List.mapM_cons,Sem.run_bind,Az hn,Result.andThen_ok,Sem.run_pure,ih,aO,hn,Option.getD_some]
 have hk:=key l fun f hf=>by
  obtain⟨i,hi⟩:=List.getElem?_of_mem hf;exact hs i f (by simpa using hi)
 simp only[Sem.run_map,hk,Result.andThen_ok,List.map_toArray]
theorem zzz(hL:eI I j own lb N e a w){o:Oper}{t:TypeId}{ps:Array (Nat×Operand)}{z:List D}{qs:List (Nat×Nat×dS)}{fs:List Field}{zs:List Value}(ho:o.op=.build t ps)
  (hz:rQ P t=some zs) (As:xA z zs=true) (hf:Pn P t=some fs) (hall:fs.all (fun f=>(jV P f.type).isSome)=true) (hk:Wm P fs ps.toList qs=true) {v:Val}
  (h:eQ (.build z qs) e O=some v):∃u,(execOp a.eval o).run P w=.ok (.value u) w/\iO I j lb v u:=by
 simp only[eQ]at h;obtain⟨rs,h1,h⟩:=dJ h;obtain⟨cs',h2,h⟩:=dJ h;cases h;obtain⟨p1,p2⟩:=za8 hL hk h1;obtain⟨zv,Hl,hzc⟩:=NH (P:=P) (w:=w) hz;obtain⟨z1,z2⟩:=Om I j z zs As;have hu:=XC hf;have hpl:=zsb (P:=P) (w:=w) (fs:=⟨fs⟩) (fun i f hi=>bM.1 hall f (List.mem_of_getElem? (by simpa using hi)));generalize ze3b:((⟨fs⟩:Array Field).map fun f=>(f.offset,(jV P f.type).getD 0))=places at hpl
 obtain⟨r,k1,k2,k3⟩:=zed (I:=I) (j:=j) (place:=fun i=>places[i]?) ((ps.toList.map fun p=>(p.1,a.eval p.2))) rs zs z cs' (by simpa using p1) (fun n p q hp hq=>by
  rw[List.getElem?_map]at hp;cases hpo:ps.toList[n]? with
  |none=>rw[hpo]at hp;cases hp
  |some po =>
   rw[hpo]at hp;simp at hp;subst hp;obtain⟨⟨f,f1,f2,f3⟩,f4⟩:=p2 n po q hpo hq;refine⟨?_,f4⟩;rw[<-ze3b];simp only[Array.getElem?_map,List.getElem?_toArray,f1,bN,f2,f3,Option.getD_some]) z1 z2 h2
 refine⟨.agg ⟨r⟩,?_,by simp only[iO,dL];exact⟨r,rfl,k2,k3⟩⟩;have hmap:(ps.map fun(i,x)=>(i,a.eval x)).toList=ps.toList.map fun p=>(p.1,a.eval p.2):=by
  rw[Array.toList_map]
 simp only[execOp,ho,Instr.build,Sem.run_bind,Hl,Result.andThen_ok,hzc,run_underlying hu,hpl];rw[hmap,k1];rfl
theorem WK:∀{es:List D}{s:List UInt8},Jv es=some s->s.length=es.length/\∀(i:Nat)(b:UInt8),s[i]?=some b->es[i]?=some (.int .u8 b.toNat)
 |[],s,h=>by
  simp only[Jv,aA]at h;subst h;exact⟨rfl,fun i b h=>by simp at h⟩
 |d::es,s,h=>by
  cases d with
  |int k n =>
   cases k<;>simp only[Jv,reduceCtorEq]at h;obtain⟨h1,h⟩:=gQ h;obtain⟨s',h2,h⟩:=dJ h;cases h;obtain⟨k1,k2⟩:=WK h2;simp only[aC,cE]at h1;refine⟨by simp[k1],fun i b hi=>?_⟩;cases i with
   |zero =>
    simp at hi;subst hi;have:((UInt8.ofNat n.toNat).toNat:Int)=n:=by
     simp only[UInt8.toNat_ofNat'];omega
    simp only[List.getElem?_cons_zero,this]
   |succ i=>simpa using k2 i b (by simpa using hi)
  |_=>simp only[Jv,reduceCtorEq]at h
theorem zok(hG:eH I j own O w)(hL:eI I j own lb N e a w){o:Oper}{s t el:TypeId}{x:Operand}{y:dS}(ho:o.op=.convert s t x)(hk:dT x y=true)(hs:P.underlying s=some (.slice el))(he:P.underlying el=some (.int .u8))(ht:P.underlying t=some .string){v:Val}
  (h:eQ (.l6 y) e O=some v):∃u,(execOp a.eval o).run P w=.ok (.value u) w/\iO I j lb v u:=by
 simp only[eQ]at h;obtain⟨c,h1,h⟩:=dJ h;obtain⟨es,h2,h⟩:=dJ h;obtain⟨l,h3,h⟩:=dJ h;cases h;obtain⟨b1,b2⟩:=WK h3;have hr:=gW hL hk h1;refine⟨.string ⟨⟨l⟩⟩,?_,by simp only[iO,dL]⟩;have fin:(convert s t (a.eval x)).run P w=.ok (.string ⟨⟨l⟩⟩) w:=by
  cases hd:c.d<;>rw[hd]at h2 hr<;>simp only[nK,reduceCtorEq,aA]at h2<;>subst h2<;>simp only[dL]at hr
  ·have hl0:l=[]:=bL (by simpa using b1);subst hl0;rw[hr,run_convert_bytes_string w s t el none 0 0 hs he ht];rfl
  rotate_left
  ·have hl0:l=[]:=bL (by simpa using b1);subst hl0;obtain⟨ad,hr⟩:=hr;rw[hr,run_convert_bytes_string w s t el ad 0 0 hs he ht];cases ad with
   |none=>rfl
   |some ad =>have:=run_bytesToString (P:=P) w ad 0 0 [] (run_loadCells_list (P:=P) w ad [] (by simp));exact this
  ·rename_i sz es;obtain⟨ad,cap,hv,_,_,h4⟩:=hr;rw[hv];rcases h4 with rfl|⟨b,o',rfl,hrow⟩
   ·have hl0:l=[]:=bL (by simpa using b1);subst hl0;rw[run_convert_bytes_string w s t el ad _ cap hs he ht];cases ad with
    |none=>rfl
    |some ad =>have:=run_bytesToString (P:=P) w ad 0 cap [] (run_loadCells_list (P:=P) w ad [] (by simp));exact this
   ·rw[<-b1];refine run_convert_bytes_back w s t el ⟨b,o',none⟩ cap l hs he ht (fun i hi=>?_);have hb:=b2 i l[i] (List.getElem?_eq_getElem hi);have hsz:∀(i:Nat)(b:UInt8),l[i]?=some b->sz.sz=1:=by
     intro i b hb;obtain⟨u,_,q2,q3⟩:=hrow.at i _ (b2 i b hb);simp only[dL]at q3;subst q3;exact q2.symm
    have hsz1:=hsz i l[i] (List.getElem?_eq_getElem hi);rw[hsz1]at hrow;obtain⟨u,q1,q2,q3⟩:=hrow.at i _ hb;simp only[dL]at q3;subst q3;rw[Addr.add_lit];refine hG.holds _ _ _ ?_;have:=q1 0 (.int .u8 l[i].toNat) rfl;simpa using this
 simp only[execOp,ho,Sem.run_bind,fin,Result.andThen_ok,Sem.run_pure]
end
theorem VZ{a:Go.Act}{s:Nat}{x:Value}(h:s<a.tmps.size):(a.put (some s) x).tmps.getD s Go.undef=x:=by simp[Act.put,Array.getD,h]
theorem Zu{a:Go.Act}{s t:Nat}{x:Value}(h:s≠t):(a.put (some s) x).tmps.getD t Go.undef=a.tmps.getD t Go.undef:=by simp only[Act.put,Array.getD_eq_getD_getElem?];rw[Array.getElem?_setIfInBounds_ne h]
theorem ZT{a:Go.Act}{d:Option Nat}{x:Value}:(a.put d x).tmps.size=a.tmps.size:=by cases d<;>simp[Act.put]
theorem XA{a:Go.Act}{d:Option Nat}{x:Value}:(a.put d x).defers=a.defers:=by cases d<;>rfl
def pL(cs cs0:List Cell):Prop:=cs.length=cs0.length/\∀(i:Nat)(c:Cell),cs[i]?=some c->∃c0,cs0[i]?=some c0/\c0.d=c.d/\(c.own=true->c0.own=true)
theorem pL.refl(cs:List Cell):pL cs cs:=⟨rfl,fun _ c h=>⟨c,h,rfl,id⟩⟩
section
variable[kQ]{P:Program}{I I':fU}{j j':fJ}{own own':gZ}{lb:fJ}{N:Nat}{e:Env}{a:Go.Act}{w w':World}{O:Store}{TT:Tag->Prop}
theorem uG.weaken{t:Tag}{c c0:Cell}{v:Value}(h:uG I j own w t c0 v)(hd:c0.d=c.d)(ho:c.own=true->c0.own=true):uG I j own w t c v :=
 ⟨hd▸h.1,fun x=>hd▸h.2 (ho x)⟩
theorem sJ.weaken{b:Nat}{mk:Nat->Tag}{cs cs0:List Cell}(h:sJ I j own w b mk cs0)(hw:pL cs cs0):sJ I j own w b mk cs:=by obtain⟨vs,T,h1,h2,h3⟩:=h;refine⟨vs,T,h1,by rw[hw.1];exact h2,fun i c hi=>?_⟩;obtain⟨c0,k1,k2,k3⟩:=hw.2 i c hi;obtain⟨v,q1,q2,q3⟩:=h3 i c0 k1;exact⟨v,q1,q2,q3.weaken k2 k3⟩
theorem eI.sub{e':Env}(hL:eI I j own lb N e a w)(h1:∀s c,dC e'.slots s=some c->∃c0,dC e.slots s=some c0/\c0.d=c.d/\(c.own=true->c0.own=true))
  (h2:∀s p,dC e'.dR s=some p->dC e.dR s=some p) (h3:∀s cs,dC e'.boxes s=some cs->∃cs0,dC e.boxes s=some cs0/\pL cs cs0) (h4:e'.defers=e.defers):eI I j own lb N e' a w where
 size:=hL.size
 slots:=fun s c h=>by
  obtain⟨c0,k1,k2,k3⟩:=h1 s c h;exact(hL.slots s c0 k1).weaken k2 k3
 dR:=fun s b o h=>hL.dR s b o (h2 s _ h)
 boxes:=fun s cs h=>by
  obtain⟨cs0,k1,k2⟩:=h3 s cs h;obtain⟨B,q1,q2,q3⟩:=hL.boxes s cs0 k1;exact⟨B,q1,q2,q3.weaken k2⟩
 defers:=h4▸hL.defers
theorem eI.kN(h:fD I j own w I' j' own' w' TT)(hL:eI I j own lb N e a w)(hs:∀s c,dC e.slots s=some c->c.own=true->¬TT (.slot s))
  (hb:∀s cs,dC e.boxes s=some cs->¬TT (.box s)/\∀(i:Nat)(c:Cell),cs[i]?=some c->c.own=true->¬TT (.cell s i)):eI I' j' own' lb N e a w' where
 size:=hL.size
 slots:=fun s c k=>h.OJ (hs s c k) (hL.slots s c k)
 dR:=hL.dR
 boxes:=fun s cs k=>by
  obtain⟨B,q1,q2,q3⟩:=hL.boxes s cs k;obtain⟨hb1,hb2⟩:=hb s cs k;have hlt:B<w.heap.size:=by
   obtain⟨vs,T,h1,_⟩:=q3;exact(Array.getElem?_eq_some_iff.1 h1).1
  exact⟨B,q1,(h.block B hlt (fun t x=>by rw[q2]at x;cases x;exact hb1)).2.1.trans q2,h.zB q2 hb1 hb2 q3⟩
 defers:=h.EO _ _ hL.defers
theorem eH.kN(h:fD I j own w I' j' own' w' TT)(hG:eH I j own O w)(hh:∀b o v,I' b o=some v->w'.cell? ⟨b,o,none⟩=some v)(hn:∀b t,own' b=some t->t.Qp=true->∀o,I' b o=none)
  (hl:∀b t,own' b=some t->b<w'.heap.size) (hj:∀id b,j' id=some b->id<O.next)
  (hb:∀id cs,dC O.dE id=some cs->¬TT (.obj id)/\∀(i:Nat)(c:Cell),cs[i]?=some c->c.own=true->¬TT (.uV id i)) (hi:∀id x,dC O.dP id=some x->¬TT (.obj id)):eH I' j' own' O w' where
 holds:=hh
 kS:=hn
 dE:=fun id cs k=>by
  obtain⟨B,q1,q2,q3⟩:=hG.dE id cs k;obtain⟨hb1,hb2⟩:=hb id cs k;have hlt:B<w.heap.size:=by
   obtain⟨vs,T,h1,_⟩:=q3;exact(Array.getElem?_eq_some_iff.1 h1).1
  exact⟨B,h.lay _ _ q1,(h.block B hlt (fun t x=>by rw[q2]at x;cases x;exact hb1)).2.1.trans q2,h.zB q2 hb1 hb2 q3⟩
 fH:=fun id t cs h1 h2 b hjb=>by
  obtain⟨B,q1,q2,q3⟩:=hG.dE id cs h2;have hB:=h.lay _ _ q1;rw[hjb]at hB;cases hB;have hty:=hG.fH id t cs h1 h2 b q1;have hlt:b<w.heap.size:=by
   obtain⟨row,hrow,_⟩:=hty;exact(Array.getElem?_eq_some_iff.1 hrow).1
  exact hty.keep (h.block b hlt (fun t' x=>by rw[q2]at x;cases x;exact(hb id cs h2).1)).1 h.lay
 dP:=fun id x k=>by
  obtain⟨B,q1,q2,q3⟩:=hG.dP id x k;obtain⟨b1,b2,_⟩:=h.block B q3.lt (fun t x=>by rw[q2]at x;cases x;exact hi id _ k);exact⟨B,h.lay _ _ q1,b2.trans q2,q3.keep b1 h.qY h.lay⟩
 mG:=hj
 jU:=hl
theorem eI.qV(hL:eI I j own lb N e a w){s:Nat}(hs:s<N){c:Cell}{x:Value}(hc:uG I j own w (.slot s) c x):eI I j own lb N (e.put (some s) c) (a.put (some s) x) w where
 size:=by rw[ZT];exact hL.size
 slots:=fun t c' h=>by
  simp only[Env.put,jM]at h;by_cases hst:s=t
  ·subst hst;rw[if_pos rfl]at h;cases h;rw[VZ (by rw[hL.size];exact hs)];exact hc
  ·rw[if_neg hst]at h;rw[Zu hst];exact hL.slots t c' h
 dR:=fun t b o h=>by
  simp only[Env.put,mK]at h;by_cases hst:s=t
  ·rw[if_pos hst]at h;cases h
  ·rw[if_neg hst]at h;rw[Zu hst];exact hL.dR t b o h
 boxes:=hL.boxes
 defers:=by rw[XA];exact hL.defers
theorem eI.putL(hL:eI I j own lb N e a w){s:Nat}(hs:s<N){b off B:Nat}(hB:lb b=some B):eI I j own lb N (e.pR (some s) (.l b off)) (a.put (some s) (.pointer (some ⟨B,off,none⟩))) w where
 size:=by rw[ZT];exact hL.size
 slots:=fun t c' h=>by
  simp only[Env.pR,mK]at h;by_cases hst:s=t
  ·rw[if_pos hst]at h;cases h
  ·rw[if_neg hst]at h;rw[Zu hst];exact hL.slots t c' h
 dR:=fun t b' o h=>by
  simp only[Env.pR,jM]at h;by_cases hst:s=t
  ·subst hst;rw[if_pos rfl]at h;cases h;exact⟨B,hB,VZ (by rw[hL.size];exact hs)⟩
  ·rw[if_neg hst]at h;rw[Zu hst];exact hL.dR t b' o h
 boxes:=hL.boxes
 defers:=by rw[XA];exact hL.defers
theorem eI.jd(hL:eI I j own lb N e a w){s B:Nat}{cs:List Cell}(h1:lb s=some B)(h2:own B=some (.box s))(h3:sJ I j own w B (.cell s) cs):eI I j own lb N {e with boxes:=fF e.boxes s cs} a w where
 size:=hL.size
 slots:=hL.slots
 dR:=hL.dR
 boxes:=fun t cs' h=>by
  simp only[jM]at h;by_cases hst:s=t
  ·subst hst;rw[if_pos rfl]at h;cases h;exact⟨B,h1,h2,h3⟩
  ·rw[if_neg hst]at h;exact hL.boxes t cs' h
 defers:=hL.defers
theorem eI.zi7b(hL:eI I j own lb N e a w){s B:Nat}(hs:s<N){cs:List Cell}(h2:own B=some (.box s))(h3:sJ I j own w B (.cell s) cs) :
  eI I j own (fun t=>if t=s then some B else lb t) N (e.box s cs) (a.put (some s) (.pointer (some ⟨B,0,none⟩))) w where
 size:=by rw[ZT];exact hL.size
 slots:=fun t c' h=>by
  simp only[Env.box,mK]at h;by_cases hst:s=t
  ·rw[if_pos hst]at h;cases h
  ·rw[if_neg hst]at h;rw[Zu hst];exact hL.slots t c' h
 dR:=fun t b o h=>by
  simp only[Env.box,jM]at h;by_cases hst:s=t
  ·subst hst;rw[if_pos rfl]at h;cases h;exact⟨B,if_pos rfl,VZ (by rw[hL.size];exact hs)⟩
  ·rw[if_neg hst]at h;obtain⟨k1,k2⟩:=LH _ _ _ _ _ h;rw[Zu hst];obtain⟨B',q1,q2⟩:=hL.dR t b o k2;exact⟨B',by rw[if_neg k1];exact q1,q2⟩
 boxes:=fun t cs' h=>by
  simp only[Env.box,jM]at h;by_cases hst:s=t
  ·subst hst;rw[if_pos rfl]at h;cases h;exact⟨B,if_pos rfl,h2,h3⟩
  ·rw[if_neg hst]at h;obtain⟨B',q1,q2,q3⟩:=hL.boxes t cs' h;exact⟨B',by rw[if_neg (fun x=>hst x.symm)];exact q1,q2,q3⟩
 defers:=by rw[XA];exact hL.defers
/-! ### Marks that are dropped -/
theorem zaxb(x:dS):∀s c,dC (x.drop e).slots s=some c->∃c0,dC e.slots s=some c0/\c0.d=c.d/\(c.own=true->c0.own=true):=by
 intro s c h;cases x with
 |mv t =>
  simp only[dS.drop]at h;cases ht:dC e.slots t with
  |none=>rw[ht]at h;exact⟨c,h,rfl,id⟩
  |some c1 =>
   rw[ht]at h;simp only[eP,jM]at h;by_cases hts:t=s
   ·subst hts;rw[if_pos rfl]at h;cases h;exact⟨c1,ht,rfl,fun h=>by cases h⟩
   ·rw[if_neg hts]at h;exact⟨c,h,rfl,id⟩
 |tmp t=>exact⟨c,h,rfl,id⟩
 |const d=>exact⟨c,h,rfl,id⟩
theorem YD(x:dS):(x.drop e).dR=e.dR/\(x.drop e).boxes=e.boxes/\(x.drop e).defers=e.defers:=by
 cases x with
 |mv t =>simp only[dS.drop];cases dC e.slots t<;>exact⟨rfl,rfl,rfl⟩
 |_=>exact⟨rfl,rfl,rfl⟩
theorem eI.drop(hL:eI I j own lb N e a w)(x:dS):eI I j own lb N (x.drop e) a w:=by obtain⟨h1,h2,h3⟩:=YD (e:=e) x;exact hL.sub (zaxb x) (fun s p h=>by rw[h1]at h;exact h) (fun s cs h=>by rw[h2]at h;exact⟨cs,h,pL.refl cs⟩) h3
theorem zx9{s:Nat}{t:Nat}{c:Cell}(h:dC ((dS.mv s).drop e).slots t=some c)(ho:c.own=true)(hs:(dC e.slots s).isSome=true):t≠s:=by intro hts;subst hts;simp only[dS.drop]at h;obtain⟨c1,h1⟩:=aT.1 hs;rw[h1]at h;simp only[eP,jM,if_true]at h;cases h;cases ho
theorem TY{t t':Tag}(hb:t.Qp=false)(hb':t'.Qp=false)(hG:eH I j own O w)(hL:eI I j own lb N e a w)
  (f1:∀s c,dC e.slots s=some c->c.own=true->Tag.slot s≠t) (f2:∀s cs,dC e.boxes s=some cs->∀(i:Nat)(c:Cell),cs[i]?=some c->c.own=true->Tag.cell s i≠t)
  (f3:∀id cs,dC O.dE id=some cs->∀(i:Nat)(c:Cell),cs[i]?=some c->c.own=true->Tag.uV id i≠t)
  {d:D} {x:Value} (ho:mD I own w t d x):∃own',eH I j own' O w/\eI I j own' lb N e a w/\mD I own' w t' d x/\fD I j own w I j own' w (fun u=>u=t):=by
 classical
 let own':gZ:=fun b=>if own b=some t then some t' else own b
 have hE:fD I j own w I j own' w (fun u=>u=t) :=
  ⟨rfl,rfl,rfl,aM _,fun _ _ _ h=>h,fun _ _ h=>h,fun b _ ht=>⟨rfl,if_neg (fun h=>ht t h rfl),fun _=>rfl⟩⟩
 have hown:∀b u,own' b=some u->u.Qp=true->own b=some u:=by
  intro b u h hu;by_cases hbt:own b=some t
  ·simp only[own',if_pos hbt,aA]at h;subst h;rw[hb']at hu;cases hu
  ·simpa only[own',if_neg hbt]using h
 refine⟨own',hG.kN hE hG.holds (fun b u h hu=>hG.kS b u (hown b u h hu) hu) (fun b u h=>?_) hG.mG (fun id cs h=>⟨fun k=>by(subst k;cases hb),f3 id cs h⟩) (fun id x _ k=>by(subst k;cases hb)),
  hL.kN hE (fun s c h k=>f1 s c h k) (fun s cs h=>⟨fun k=>by(subst k;cases hb),f2 s cs h⟩),?_,hE⟩
 ·by_cases hbt:own b=some t
  ·exact hG.jU b t hbt
  ·exact hG.jU b u (by simpa only[own',if_neg hbt]using h)
 ·unfold mD at ho ⊢;cases hp:yJ d x with
  |none=>trivial
  |some p =>
   rw[hp]at ho;rcases ho with ho|⟨b,cap,cur,T,h1,h2,h3,h4,h5⟩
   ·exact .inl ho
   ·exact .inr ⟨b,cap,cur,T,h1,if_pos h2,h3,h4,h5⟩
end
end Go.Mx
