/- A part of the proof. -/
import Derived.Test.YtldfbnbckiifeaaGreatDoorFgDz
set_option maxHeartbeats 4000000
set_option linter.all false
namespace Go.Fu
open Go Go.Mx
set_option maxRecDepth 10000
theorem YG{n:Nat}{k:RowK}{l:List D}{os:mU}:kR (n+1) (gX k l) os=some (gX k l,os):=by cases l<;>rfl
theorem cu{n:Nat}{ds:List D}{os:mU}(h:∀d∈ds,kR n d os=some (d,os)):kR (n+1) (.agg ds) os=some (.agg ds,os):=by have:=XH ds h;simp only[kR,this,dH,eP]
theorem zexb(c:Co)(os:mU):kR 39 (dM c) os=some (dM c,os):=by rw[mH];refine cu fun d hd=>?_;simp only[aS,aK,or_false]at hd;rcases hd with rfl|rfl|rfl|rfl|rfl|rfl|rfl|rfl|rfl|rfl<;>first|rfl|exact YG
theorem zihb(b:Tx×Co)(os:mU):kR 39 (dB b) os=some (dB b,os):=by rw[Wy];refine cu fun d hd=>?_;simp only[aS,aK,or_false]at hd;rcases hd with rfl|rfl|rfl|rfl|rfl|rfl|rfl|rfl|rfl|rfl|rfl|rfl|rfl|rfl|rfl<;>first|rfl|exact YG
theorem zigb(b:Hd×Co)(os:mU):kR 39 (dA b) os=some (dA b,os):=by rw[vX];refine cu fun d hd=>?_;simp only[aS,aK,or_false]at hd;rcases hd with rfl|rfl|rfl|rfl|rfl|rfl|rfl|rfl|rfl|rfl|rfl|rfl|rfl|rfl<;>first|rfl|exact YG
theorem aj{k:RowK}{a b n:Nat}(h:n≠0->a=b):kY k a n=kY k b n:=by
 cases n with
 |zero=>rfl
 |succ n=>rw[h (by omega)]
theorem zcjb(p:Nat)(t:Tx)(c:Co)(lz:Bool)(ar:List Tx)(hw:Wf c)(hsz:ar.length+c.size<10000000)(kE:rC c lz=false)(ht:t.length<10000000)
  (ihB:∀b∈c.bs,Kw p t b.2 true (ar++dW c) (fS b.2 true (ar++dW c) t)) (ihK:∀x∈c.ks,Kw p t x (lz||(c.f==4)) (ar++dW c) (fS x (lz||(c.f==4)) (ar++dW c) t)) (ihA:∀b∈c.al,Kw p t b.2 false ((ar++dW c)++b.1.vars) (fS b.2 false ((ar++dW c)++b.1.vars) t)):Kw p t c lz ar (fS c lz ar t):=by
 intro O aa m hh hm;have hse:=jD c;have lB:=mY c.bs;have lK:=yY c.ks;have lA:=pY c.al;have hp:=hh.pn;obtain⟨⟨w1,w2,_⟩,_,_,_⟩:=hw.bnd;obtain⟨bi0,O1,q1,f1,r1,s1⟩:=zrm (S:=SP) rfl O c.bs (by omega);obtain⟨ki0,O2,q2,f2,r2,s2⟩:=zut (S:=SP) rfl O1 c.ks (by omega);obtain⟨ai0,O3,q3,f3,r3,s3⟩:=zx1 (S:=SP) rfl O2 c.al (by omega);have n1:=f1.nx;have n2:=f2.nx;have n3:=f3.nx;obtain⟨a,h,ha⟩:∃a,oY O p a t m/\((a=aa/\a<O.next)\/O3.next+10<=a):=by
  by_cases e:m=[]
  ·exact⟨O3.next+10,hh.any e (by omega),.inr (aM _)⟩
  ·exact⟨aa,hh,.inl ⟨rfl,hh.an e⟩⟩
 obtain⟨bi,hbi,JI⟩:∃bi,(c.bs≠[]->bi=bi0)/\(c.bs=[]->bi=O3.next+1):=by
  by_cases e:c.bs=[]
  ·exact⟨_,fun h=>absurd e h,fun _=>rfl⟩
  ·exact⟨_,fun _=>rfl,fun h=>absurd h e⟩
 obtain⟨ki,hki,JO⟩:∃ki,(c.ks≠[]->ki=ki0)/\(c.ks=[]->ki=O3.next+2):=by
  by_cases e:c.ks=[]
  ·exact⟨_,fun h=>absurd e h,fun _=>rfl⟩
  ·exact⟨_,fun _=>rfl,fun h=>absurd h e⟩
 obtain⟨ai,hai,hai2⟩:∃ai,(c.al≠[]->ai=ai0)/\(c.al=[]->ai=O3.next+3):=by
  by_cases e:c.al=[]
  ·exact⟨_,fun h=>absurd e h,fun _=>rfl⟩
  ·exact⟨_,fun _=>rfl,fun h=>absurd h e⟩
 have gB:kY iS bi0 c.bs.length=kY iS bi c.bs.length:=aj fun e=>(hbi fun h=>e (by rw[h];rfl)).symm;have gK:kY gV ki0 c.ks.length=kY gV ki c.ks.length:=aj fun e=>(hki fun h=>e (by rw[h];rfl)).symm;have gA:kY jC ai0 c.al.length=kY jC ai c.al.length:=aj fun e=>(hai fun h=>e (by rw[h];rfl)).symm;rw[gB]at q1;rw[gK]at q2;rw[gA]at q3;have bB:c.bs≠[]->O.next<=bi/\bi<O1.next/\dC O3.dE bi=some (cellsOf (c.bs.map dB)):=fun e=>by
  have:=s1 e;rw[hbi e];exact⟨r1,this.2,by rw[f3.ob _ (by omega),f2.ob _ (by omega),this.1]⟩
 have bK:c.ks≠[]->O1.next<=ki/\ki<O2.next/\dC O3.dE ki=some (cellsOf (c.ks.map dM)):=fun e=>by
  have:=s2 e;rw[hki e];exact⟨r2,this.2,by rw[f3.ob _ (by omega),this.1]⟩
 have bA:c.al≠[]->O2.next<=ai/\ai<O3.next/\dC O3.dE ai=some (cellsOf (c.al.map dA)):=fun e=>by
  have:=s3 e;rw[hai e];exact⟨r3,this.2,this.1⟩
 have dBK:bi≠ki:=by
  by_cases e1:c.bs=[]<;>by_cases e2:c.ks=[]
  ·rw[JI e1,JO e2];omega
  ·have:=bK e2;rw[JI e1];omega
  ·have:=bB e1;rw[JO e2];omega
  ·have:=bB e1;have:=bK e2;omega
 have dBA:bi≠ai:=by
  by_cases e1:c.bs=[]<;>by_cases e2:c.al=[]
  ·rw[JI e1,hai2 e2];omega
  ·have:=bA e2;rw[JI e1];omega
  ·have:=bB e1;rw[hai2 e2];omega
  ·have:=bB e1;have:=bA e2;omega
 have dKA:ki≠ai:=by
  by_cases e1:c.ks=[]<;>by_cases e2:c.al=[]
  ·rw[JO e1,hai2 e2];omega
  ·have:=bA e2;rw[JO e1];omega
  ·have:=bK e1;rw[hai2 e2];omega
  ·have:=bK e1;have:=bA e2;omega
 have lbi:O.next<=bi:=by
  by_cases e1:c.bs=[]
  ·rw[JI e1];omega
  ·exact(bB e1).1
 have lki:O.next<=ki:=by
  by_cases e1:c.ks=[]
  ·rw[JO e1];omega
  ·have:=bK e1;omega
 have lai:O.next<=ai:=by
  by_cases e1:c.al=[]
  ·rw[hai2 e1];omega
  ·have:=bA e1;omega
 have f13:iH O O3:=(f1.trans f2).trans f3;have hgl:∀b∈c.al,(ar++dW c).length+b.1.vars.length<100000000:=fun b hb=>by
  have:=qP c.al b hb;simp[dW];omega
 have obi:bi<O3.next\/c.bs=[]:=by
  by_cases e:c.bs=[]
  ·exact .inr e
  ·exact .inl (by have:=bB e;omega)
 obtain⟨O4,a4,x4,w4,h4,b4,v4,fa4⟩:=zg2 (lz:=lz) (g:=ar++dW c) (ki:=ki) (bi:=bi) (ai:=ai) (by omega) (fun x m=>fS x true (ar++dW c) t m) ihB (fun b _ m=>Ox _ _ _ _ _) c.bs [] [] O3 a m rfl rfl (h.fa f13) (fun e=>(bB e).2.2) obi (fun e=>by have:=bB e;omega) (fun e=>by have:=bB e;omega) (by omega);simp only[aH,bG]at w4 b4;have m4:=NC (fun x m=>fS x true (ar++dW c) t m) c.bs m fun q _ m=>Ox _ _ _ _ _;have nv4:=v4.nx;have oki:ki<O4.next\/c.ks=[]:=by
  by_cases e:c.ks=[]
  ·exact .inr e
  ·exact .inl (by have:=bK e;omega)
 have kK4:c.ks≠[]->dC O4.dE ki=some (cellsOf (c.ks.map dM)):=fun e=>by
  have:=bK e;rw[v4.ob ki (by omega) (fun e=>by rcases e with e|e|⟨_,e|e⟩<;>omega),this.2.2]
 obtain⟨O5,a5,x5,w5,h5,b5,v5,fa5⟩:=zg3 (lz:=lz) (g:=ar++dW c) (ki:=ki) (bi:=bi) (ai:=ai) (by omega) (fun x m=>fS x (lz||(c.f==4)) (ar++dW c) t m) ihK (fun b _ m=>Ox _ _ _ _ _) c.ks [] [] O4 a4 _ rfl rfl h4 (fun e=>kK4 e) oki (fun e=>by have:=bK e;omega) (fun e=>by have:=bK e;rcases fa4 with e|e<;>omega) (by omega);simp only[aH,bG]at w5 b5;have m5:=ND (fun x m=>fS x (lz||(c.f==4)) (ar++dW c) t m) c.ks (iP (fun x m=>fS x true (ar++dW c) t m) c.bs m).2 fun q _ m=>Ox _ _ _ _ _;have nv5:=v5.nx;have oai:ai<O5.next\/c.al=[]:=by
  by_cases e:c.al=[]
  ·exact .inr e
  ·exact .inl (by have:=bA e;omega)
 have aA5:c.al≠[]->dC O5.dE ai=some (cellsOf (c.al.map dA)):=fun e=>by
  have:=bA e;rw[v5.ob ai (by omega) (fun e=>by rcases e with e|e|⟨_,e|e⟩<;>rcases fa4 with e2|e2<;>omega),v4.ob ai (by omega) (fun e=>by rcases e with e|e|⟨_,e|e⟩<;>omega),this.2.2]
 obtain⟨O6,a6,x6,w6,h6,b6,v6,fa6⟩:=zg4 (g:=ar++dW c) (ki:=ki) (bi:=bi) (ai:=ai) (by omega) (fun hd x m=>fS x false ((ar++dW c)++hd.vars) t m) ihA hgl (fun b _ m=>Ox _ _ _ _ _) c.al [] [] O5 a5 _ rfl rfl h5 (fun e=>aA5 e) oai (fun e=>by have:=bA e;omega) (fun e=>by have:=bA e;rcases fa4 with e|e<;>rcases fa5 with e2|e2<;>omega) (by omega);simp only[aH,bG]at w6 b6;have nv6:=v6.nx;have cB6:c.bs≠[]->dC O6.dE bi=some (cellsOf ((iP (fun x m=>fS x true (ar++dW c) t m) c.bs m).1.map dB)):=fun e=>by
  have:=bB e;rw[v6.ob bi (by omega) (fun e=>by rcases e with e|e|⟨_,e|e⟩<;>rcases fa4 with e2|e2<;>rcases fa5 with e3|e3<;>omega),v5.ob bi (by omega) (fun e=>by rcases e with e|e|⟨_,e|e⟩<;>rcases fa4 with e2|e2<;>omega),b4 e]
 have cK6:c.ks≠[]->dC O6.dE ki=some (cellsOf ((jL (fun x m=>fS x (lz||(c.f==4)) (ar++dW c) t m) c.ks (iP (fun x m=>fS x true (ar++dW c) t m) c.bs m).2).1.map dM)):=fun e=>by
  have:=bK e;rw[v6.ob ki (by omega) (fun e=>by rcases e with e|e|⟨_,e|e⟩<;>rcases fa4 with e2|e2<;>rcases fa5 with e3|e3<;>omega),b5 e]
 have zlab:fS c lz ar t m=(.mk c.f c.n c.s (jL (fun x m=>fS x (lz||(c.f==4)) (ar++dW c) t m) c.ks (iP (fun x m=>fS x true (ar++dW c) t m) c.bs m).2).1 (iP (fun x m=>fS x true (ar++dW c) t m) c.bs m).1 (jT (fun hd x m=>fS x false ((ar++dW c)++hd.vars) t m) c.al (jL (fun x m=>fS x (lz||(c.f==4)) (ar++dW c) t m) c.ks (iP (fun x m=>fS x true (ar++dW c) t m) c.bs m).2).2).1,
   (jT (fun hd x m=>fS x false ((ar++dW c)++hd.vars) t m) c.al (jL (fun x m=>fS x (lz||(c.f==4)) (ar++dW c) t m) c.ks (iP (fun x m=>fS x true (ar++dW c) t m) c.bs m).2).2).2):=by
  have hA:∀m,fA c ar t m c.al.length=jT (fun hd x m=>fS x false ((ar++dW c)++hd.vars) t m) c.al m:=fun m=>by
   unfold fA;rw[aV];by_cases e:c.al=[]
   ·rw[e];rfl
   ·have e8:c.f≠8:=fun e8=>e (w2 e8);have:dW c=[]:=by simp[dW,w1 e8]
    rw[this,bQ]
  rw[Kq c lz ar t m kE,hA];unfold fK fB;rw[aV,aV];rfl
 rw[zlab];have lb:=NS (fun x m=>fS x true (ar++dW c) t m) c.bs m;have lk:=NT (fun x m=>fS x (lz||(c.f==4)) (ar++dW c) t m) c.ks (iP (fun x m=>fS x true (ar++dW c) t m) c.bs m).2;have la:=NR (fun hd x m=>fS x false ((ar++dW c)++hd.vars) t m) c.al (jL (fun x m=>fS x (lz||(c.f==4)) (ar++dW c) t m) c.ks (iP (fun x m=>fS x true (ar++dW c) t m) c.bs m).2).2;simp only;generalize hB:(iP (fun x m=>fS x true (ar++dW c) t m) c.bs m).1=B' at *
 generalize(iP (fun x m=>fS x true (ar++dW c) t m) c.bs m).2=M4 at *
 generalize(jL (fun x m=>fS x (lz||(c.f==4)) (ar++dW c) t m) c.ks M4).1=K' at *
 generalize(jL (fun x m=>fS x (lz||(c.f==4)) (ar++dW c) t m) c.ks M4).2=M5 at *
 generalize(jT (fun hd x m=>fS x false ((ar++dW c)++hd.vars) t m) c.al M5).1=A' at *
 generalize(jT (fun hd x m=>fS x false ((ar++dW c)++hd.vars) t m) c.al M5).2=M6 at *
 have neB:B'≠[]->c.bs≠[]:=fun e e2=>e (aR.1 (by rw[lb,e2];rfl));have neK:K'≠[]->c.ks≠[]:=fun e e2=>e (aR.1 (by rw[lk,e2];rfl));have neA:A'≠[]->c.al≠[]:=fun e e2=>e (aR.1 (by rw[la,e2];rfl));obtain⟨os1,z1,y1⟩:=cz (g:=dM) (k:=gV) (sz:=10) rfl rfl uC (fun x=>by rw[mH];rfl) zexb K' ki O6.dE (fun e=>cK6 (neK e));obtain⟨os2,z2,y2⟩:=cz (g:=dB) (k:=iS) (sz:=15) rfl rfl Vx (fun x=>by rw[Wy];rfl) zihb B' bi os1 (fun e=>by rw[y1 _ (fun _=>dBK)];exact cB6 (neB e));obtain⟨os3,z3,y3⟩:=cz (g:=dA) (k:=jC) (sz:=14) rfl rfl y8 (fun x=>by rw[vX];rfl) zigb A' ai os2 (fun e=>by rw[y2 _ (fun _=>dBA.symm),y1 _ (fun _=>dKA.symm)];exact b6 (neA e));rw[lk]at z1;rw[lb]at z2;rw[la]at z3;have z1':kR 40 (kY gV ki c.ks.length) O6.dE=some (kD (.mk c.f c.n c.s K' B' A'),os1):=z1;have z2':kR 40 (kY iS bi c.bs.length) os1=some (bD (.mk c.f c.n c.s K' B' A'),os2):=z2;have z3':kR 40 (kY jC ai c.al.length) os2=some (aD (.mk c.f c.n c.s K' B' A'),os3):=z3;have hdr:=mH (.mk c.f c.n c.s K' B' A');simp only[co]at hdr;rw[hdr];have hor:=kZ (.mk c.f c.n c.s K' B' A');generalize kD (.mk c.f c.n c.s K' B' A')=kd at *
 generalize bD (.mk c.f c.n c.s K' B' A')=bd at *
 generalize aD (.mk c.f c.n c.s K' B' A')=ad at *
 have hos:∀j,(K'≠[]->j≠ki)->(B'≠[]->j≠bi)->(A'≠[]->j≠ai)->dC os3 j=dC O6.dE j:=fun j e1 e2 e3=>by rw[y3 j e3,y2 j e2,y1 j e1]
 have hpa6:=h6.pa;have hpn6:=h6.pn;have han6:=h6.an;have hfa:a6=a\/O3.next<=a6:=by rcases fa4 with e|e<;>rcases fa5 with e2|e2<;>rcases fa6 with e3|e3<;>omega
 have hp3:dC os3 p=dC O6.dE p:=hos p (fun _=>by omega) (fun _=>by omega) (fun _=>by omega);have ha3:M6≠[]->dC os3 a6=dC O6.dE a6:=fun _=>hos a6 (fun e=>by have:=bK (neK e);omega) (fun e=>by have:=bB (neB e);omega) (fun e=>by have:=bA (neA e);omega);have hF:oY {O6 with dE:=os3} p a6 t M6:=⟨by show dC os3 p=_;rw[hp3];exact h6.obj,fun e=>⟨by show dC os3 a6=_;rw[ha3 e];exact(h6.arr e).1,(h6.arr e).2⟩,hpa6,hpn6,han6⟩;have hFr:iD p aa 0 a6 0 O {O6 with dE:=os3}:=by
  refine⟨by show O.next<=O6.next;omega,fun j hj e1 e2=>?_,fun j hj=>?_,fun j hj e=>?_,by rcases hfa with e|e<;>omega,.inl rfl⟩
  ·show dC os3 j=_
   rw[hos j (fun _=>by omega) (fun _=>by omega) (fun _=>by omega),v6.ob j (by omega) (fun e=>by rcases e with e|e|⟨_,e|e⟩<;>rcases fa4 with e2|e2<;>rcases fa5 with e3|e3<;>omega),
    v5.ob j (by omega) (fun e=>by rcases e with e|e|⟨_,e|e⟩<;>rcases fa4 with e2|e2<;>omega),v4.ob j (by omega) (fun e=>by rcases e with e|e|⟨_,e|e⟩<;>omega),f13.ob j hj]
  ·show dC O6.fH j=_;rw[v6.ty j (by omega),v5.ty j (by omega),v4.ty j (by omega),f13.ty j hj]
  ·show dC O6.dP j=_;rw[v6.ot j (by omega) e,v5.ot j (by omega) e,v4.ot j (by omega) e,f13.ot j hj]
 refine⟨_,a6,⟨max x4 (max x5 x6)+c.size+5,fun n hn=>?_⟩,hF,hFr⟩;obtain⟨n,rfl⟩:∃k,n=k+3:=⟨n-3,by omega⟩;rw[fW (af:=Jj) rfl rfl rfl];have q1:=q1 (n+1);have q2:=q2 (n+1);have q3:=q3 (n+1);have qn:=zyv (P:=SP) rfl rfl O3 bi c.bs (fun e=>(bB e).2.2) (by omega) (n+1) (by omega);have qc:=FJ (S:=SP) rfl ar (dW c) (by simp[dW];omega) (n+1) O3;have w4:=w4 (n+2) (n+2) (by omega) (by omega);have w5:=w5 (n+2) (n+2) (by omega) (by omega);have w6:=w6 (n+2) (n+2) (by omega) (by omega);have ob:=NV iS bi c.bs.length;have ok:=NV gV ki c.ks.length;have oa:=NV jC ai c.al.length;have lnb:=CW iS bi c.bs.length;have lnk:=CW gV ki c.ks.length;have lna:=CW jC ai c.al.length;have Av:(dG ar).ok=true:=qM;have qJ:(dG (dW c)).ok=true:=qM;have Am:(dG ar).cells=[dG ar]:=qZ;have Ao:(dG (dW c)).cells=[dG (dW c)]:=qZ;have hnc:c.bs.map Prod.fst=dW c:=rfl;rw[hnc]at qn;have hU:=mH c;have hon:=kZ c;have hbD:bD c=gX iS (c.bs.map dB):=rfl;have hkD:kD c=gX gV (c.ks.map dM):=rfl;have haD:aD c=gX jC (c.al.map dA):=rfl;rw[<-hbD]at q1;rw[<-hkD]at q2;rw[<-haD]at q3;simp only[vP]at qn;simp only[dd]at qc;simp only[Nr,Ix,Ns,zW,zC,iG]at w4 w5 w6;have hkB:∀k id n,Cell.keeps ⟨false,kY k id n⟩=false:=fun k id n=>by cases n<;>rfl
 have hfc:Bj [⟨false,.int .i64 c.f⟩,⟨false,.int .i64 c.n⟩,⟨false,.str c.s⟩,⟨false,.int .i64 0⟩,⟨false,.int .i64 0⟩,⟨false,.str []⟩,⟨false,.dN⟩,⟨false,kY gV ki c.ks.length⟩,⟨false,kY iS bi c.bs.length⟩,⟨false,kY jC ai c.al.length⟩] O6.dE=some ([⟨false,.int .i64 c.f⟩,⟨false,.int .i64 c.n⟩,⟨false,.str c.s⟩,⟨false,.int .i64 0⟩,⟨false,.int .i64 0⟩,⟨false,.str []⟩,⟨false,.dN⟩,⟨false,kd⟩,⟨false,bd⟩,⟨false,ad⟩],os3):=(by have i1:∀k os,kR 40 (.int .i64 k) os=some (.int .i64 k,os):=fun _ _=>rfl;have i2:∀s os,kR 40 (.str s) os=some (.str s,os):=fun _ _=>rfl;have i3:∀os,kR 40 .dN os=some (.dN,os):=fun _=>rfl;have j1:∀k,Cell.keeps ⟨false,.int .i64 k⟩=false:=fun _=>rfl;have j2:∀s,Cell.keeps ⟨false,.str s⟩=false:=fun _=>rfl;have j3:Cell.keeps ⟨false,.dN⟩=false:=rfl;simp only[Bj,i1,i2,i3,j1,j2,j3,z1',z2',z3',hkB,dH,eP]);cases lz with
 |false=>simp only[Jj,sA,Nat.reduceAdd,Nat.reduceMul,Nat.reduceBEq,Nat.reduceLeDiff,kn,mB,hU,q1,q2,q3,ob,ok,oa,qn,Av,qJ,Am,Ao,qc,lnb,w4,lnk,w5,lna,w6,Gv,tK,uI,hfc]
 |true =>obtain⟨e9,e10,e11⟩:=(zyt kE).resolve_left (by simp);simp only[Jj,sA,Nat.reduceAdd,Nat.reduceMul,Nat.reduceBEq,Nat.reduceLeDiff,kn,mB,hU,e9,e10,e11,q1,q2,q3,ob,ok,oa,qn,Av,qJ,Am,Ao,qc,lnb,w4,lnk,w5,lna,w6,Gv,tK,uI,hfc]
end Go.Fu
