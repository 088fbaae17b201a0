/- A part of the proof. -/
import Derived.Test.YtldfbnbckiifeaaGreatDoorFgEa
set_option maxHeartbeats 4000000
set_option linter.all false
namespace Go.Fu
open Go Go.Mx Go.Proofs
set_option maxRecDepth 10000
theorem zjtb(p:Nat)(t:Tx)(ht:t.length<10000000):∀(k:Nat)(c:Co)(lz:Bool)(ar:List Tx),c.size=k->Wf c->ar.length+c.size<10000000->Kw p t c lz ar (fS c lz ar t):=by
 intro k;induction k using Nat.strongRecOn with
 |ind k ih =>
  intro c lz ar hk hw hsz;have hse:=jD c;have lB:=mY c.bs;obtain⟨hbd,wb,wk,wa⟩:=hw.bnd;cases kE:rC c lz with
  |true =>
   have hlz:lz=true:=by
    unfold rC at kE;cases lz with
    |true=>rfl
    |false=>simp at kE
   subst hlz;have:fS c true ar t=vI c ar t:=funext fun m=>y9 c true ar t m kE;rw[this];exact zckb c hw (by omega) ar (by omega) p t ht kE
  |false =>
   refine zcjb p t c lz ar hw hsz kE ht (fun b hb=>?_) (fun x hx=>?_) (fun b hb=>?_)
   ·have:=Pe c.bs b hb;exact ih b.2.size (by omega) b.2 true _ rfl (wb b hb) (by simp[dW];omega)
   ·have:=Bn c.ks x hx;exact ih x.size (by omega) x _ _ rfl (wk x hx) (by simp[dW];omega)
   ·have:=qP c.al b hb;exact ih b.2.size (by omega) b.2 false _ rfl (wa b hb) (by simp[dW];omega)
def kB:Nat->Su->List Su
 |0,u=>[u]
 |k+1,u=>⟨u.name,u.ps,(fS u.body false u.ps u.name []).1⟩::(fS u.body false u.ps u.name []).2.flatMap (kB k)
def kW(u:Su):List Su:=kB u.body.size u
def spG(k:Nat):FuncId->List D->Cell->Prop:=fun _ ds c=>∀u,ds=[dU u]->c=⟨false,eG (kB k u)⟩
open Classical in
noncomputable def Yr(k n:Nat):eV:=fun f ds O=>dK (f==zZ) (Zd Tryz.prog κ (spG k) f ds O) (W SP n f ds O)
theorem zxe(k n:Nat):rM Tryz.prog κ (Yr k n):=by
 intro f ds O out O' h;unfold Yr at h;cases e:f==zZ with
 |true=>rw[e,dQ]at h;exact zdj _ _ _ _ _ h
 |false=>rw[e,dX]at h;exact uH SP n _ _ _ _ _ h
section
variable{C:eV}{n:Nat}{O:Store}
def Uh(a:Nat)(m acc:List Su)(i:Nat):Env:={slots:=[(4,⟨true,eG acc⟩),(23,⟨false,zV a m⟩),(24,⟨false,.int .i64 m.length⟩),(25,⟨false,.int .i64 i⟩)],dR:=[],boxes:=[],defers:=[]}
theorem ze1b(a:Nat)(m acc us:List Su)(i:Nat)(h:i<m.length)(hm:m.length<100000000)(ha:dC O.dE a=some (cellsOf (m.map dU)))(hl:acc.length+us.length<1000000000)(hc:C zZ [dU m[i]] O=some (.ret ⟨false,eG us⟩,O)):exec C n none J6 (Uh a m acc i) O=some (.normal,Uh a m (acc++us) (i+1),O):=by
 have hlt:((i:Int)<(m.length:Int)):=by omega
 have w:=iE (i:=i) (by omega);have ht:=DC (g:=dU) (sz:=11) CQ m i h;have es:(jA.sz==12)=true:=rfl;have hag:zV a m=.arr jA a 0 m.length:=Gx _ _ _ (by omega);have hap:=ry acc us true (fun _=>rfl) hl;have iV:=CP us;generalize m[i]=u at ht hc;have hon:=kZ u.body;have sQ:=lP u.ps;rw[G5]at ht hc;simp only[D.cells]at ht;simp only[J6,Uh,hag,sA,Nat.reduceAdd,Nat.reduceBEq,kn,hlt,Ea,h,ha,ht,hc,iV,hap,w]
theorem zilb(a:Nat)(m acc:List Su):exec C n none J6 (Uh a m acc m.length) O=some (.exit 0,{Uh a m acc m.length with slots:=[(4,⟨true,eG acc⟩),(23,⟨false,zV a m⟩),(24,⟨false,.int .i64 m.length⟩),(25,⟨false,.int .i64 m.length⟩),(26,⟨false,.bool false⟩)]},O):=by
 have hlt:¬((m.length:Int)<(m.length:Int)):=by omega
 simp only[J6,Uh,sA,Nat.reduceBEq,kn,hlt]
end
theorem ZE{B B':Nat}(hB:B<=B')(hB':B'<=9000000):∀(k:Nat)(s:Su),s.body.size<=k->Ci B B' s->eW zZ [dU s] ⟨false,eG (kB k s)⟩/\FO B' s.body.size (kB k s):=by
 intro k;induction k with
 |zero=>intro s h;have:=lT s.body;omega
 |succ k ih =>
  intro s hk ⟨hs,hn,hps,hsz⟩;have hpos:=lT s.body;have hhp:=jo s.body;obtain⟨r1,r2,r3,r4⟩:=DZ (B:=B) (B':=B') (t:=s.name) hs hB (by omega) false s.ps [];have r5:=zee (B:=B) (B':=B') (t:=s.name) hs hB (by omega) s.ps [];have r6:=zc1 s.body s.ps s.name;obtain⟨O1,e1⟩:∃O1,O1=GA cH zkk [⟨false,.str s.name⟩,⟨false,.dN⟩]:=⟨_,rfl⟩;have n0:cH.next=0:=rfl;have n1:O1.next=1:=by rw[e1,nO];rfl
  have h1:oY O1 0 5 s.name []:=⟨by rw[e1];rfl,fun e=>absurd rfl e,by decide,by omega,fun e=>absurd rfl e⟩;obtain⟨O2,a2,⟨x2,w2⟩,h2,_⟩:=zjtb 0 s.name (by omega) s.body.size s.body false s.ps rfl (pU.wf hs) (by omega) O1 5 [] h1 (by simp;omega);have hfu:kB (k+1) s=⟨s.name,s.ps,(fS s.body false s.ps s.name []).1⟩::(fS s.body false s.ps s.name []).2.flatMap (kB k):=rfl;rw[hfu];generalize fS s.body false s.ps s.name []=fr at *
  obtain⟨b,m⟩:=fr;simp only[mW,aN]at w2 h2 r1 r2 r3 r4 r5 r6;have pre:∀u∈m,Ci B B' u/\u.body.size<s.body.size:=fun u hu=>by
   have h2:=OU m u hu;have h6:=r6 u hu;rcases r4 u hu with h|⟨h3,h4,h5,_⟩
   ·cases h
   ·exact⟨⟨h3,by omega,by omega,by omega⟩,by omega⟩
  have AJ:=il m;have hu0:Yu B' ⟨s.name,s.ps,b⟩:=⟨r1,by simp only;omega,by simp only;omega⟩;have ym:∀u∈m,eW zZ [dU u] ⟨false,eG (kB k u)⟩/\FO B' u.body.size (kB k u):=fun u hu=>ih u (by have:=(pre u hu).2;omega) (pre u hu).1;have zhu:∀l:List Su,(∀u∈l,u∈m)->(∀u∈l.flatMap (kB k),Yu B' u)/\(l.flatMap (kB k)).length<=mW l/\mW (l.flatMap (kB k))<=3*s.body.size*mW l:=by
   intro l;induction l with
   |nil=>intro _;exact⟨fun u hu=>by simp at hu,by simp,by simp[mW]⟩
   |cons x r ihr =>
    intro hl;obtain⟨p1,p2,p3⟩:=ihr fun u hu=>hl u (aI _ hu);have hx:=hl x (aQ ..);obtain⟨g1,g2,g3⟩:=(ym x hx).2;have hlt:=(pre x hx).2;rw[bE];refine⟨fun u hu=>?_,?_,?_⟩
    ·rcases bJ.1 hu with h|h
     ·exact g1 u h
     ·exact p1 u h
    ·rw[aF];simp only[mW];omega
    ·rw[XX];simp only[mW];have:3*x.body.size*x.body.size<=3*s.body.size*x.body.size:=Nat.mul_le_mul_right _ (by omega);rw[Nat.mul_add];omega
  obtain⟨t1,t2,t3⟩:=zhu m fun _ h=>h
  dsimp only
  refine⟨?_,?_,?_,?_⟩
  ·have hrun:=nI (body:=exec (Yr k (x2+1)) (m.length+1) none J6) (fun i=>Uh a2 m ([⟨s.name,s.ps,b⟩]++(m.take i).flatMap (kB k)) i) (fun _=>O2) m.length (r:=_) (fun _ _ h=>by cases h) (fun i hi=>by
    have hmem:=aX hi;have hne:m≠[]:=List.ne_nil_of_mem hmem
    obtain⟨c,hc1,hc2⟩:=zg1 (P:=Tryz.prog) (κ:=κ) (vL:=spG k) (f:=zZ) (ds:=[dU m[i]]) ⟨⟨false,eG (kB k m[i])⟩,fun u hu=>by
     simp only[aL,and_true]at hu;rw[Xb hu],(ym _ hmem).1⟩
    have hcc:Yr k (x2+1) zZ [dU m[i]] O2=some (.ret ⟨false,eG (kB k m[i])⟩,O2):=(by unfold Yr;rw[bW,dQ,hc2,hc1 _ rfl]);obtain⟨p1,p2,p3⟩:=zhu (m.take i) fun u hu=>bH hu;obtain⟨g1,g2,g3⟩:=(ym _ hmem).2;have htl:=ztn m i;have hz:=OU m _ hmem;have:=ze1b (C:=Yr k (x2+1)) (n:=m.length+1) (O:=O2) a2 m ([⟨s.name,s.ps,b⟩]++(m.take i).flatMap (kB k)) (kB k m[i]) i hi (by omega) (h2.arr hne).1 (by rw[aF,List.length_singleton];omega) hcc;have e:[⟨s.name,s.ps,b⟩]++(m.take i).flatMap (kB k)++kB k m[i]=[⟨s.name,s.ps,b⟩]++(m.take (i+1)).flatMap (kB k):=by
     rw[<-mC m i hi,List.flatMap_append,bR];simp
    rw[e]at this;exact this) (zilb a2 m _) 0 (m.length+1) (by omega) (by omega)
   rw[aV]at hrun;have hput:Yr k (x2+1) yF [.ptr 0 0,dM s.body,.bool false,dG s.ps] O1=some (.ret ⟨false,dM b⟩,O2):=w2 (x2+1) (by omega);have pW:eG [⟨s.name,s.ps,b⟩]=.list jA [dU ⟨s.name,s.ps,b⟩]:=rfl;have e0:([⟨s.name,s.ps,b⟩]:List Su)++(m.take 0).flatMap (kB k)=[⟨s.name,s.ps,b⟩]:=by simp
   have JL:([⟨s.name,s.ps,b⟩]:List Su)++m.flatMap (kB k)=⟨s.name,s.ps,b⟩::m.flatMap (kB k):=rfl;rw[JL]at hrun;generalize(⟨s.name,s.ps,b⟩::m.flatMap (kB k):List Su)=R at *
   have hoR:(eG R).one=true:=rX;have hobj:=h2.obj;have hon:=kZ s.body;have honb:=kZ b;have sQ:=lP s.ps;have hla:lenOf (zV a2 m)=some m.length:=CW _ _ _;simp only[Uh,iG,e0,pW]at hrun;rw[G5]at hrun;simp only at hrun;rw[mH,mH]at hput;refine eW.weak (o:=true) rfl (uN (af:=QK) (n:=m.length+1) (O':=O2) (zxe k (x2+1)) rfl rfl (by simp[fO,CX]) (uD _) ?_);rw[G5];simp only[QK,sA,Nat.reduceAdd,Nat.reduceMul,Nat.reduceBEq,Nat.reduceLeDiff,kn,fP,mB,n0,<-e1,hput,hobj,hla,hrun]
  ·intro u hu;rcases aS.1 hu with rfl|hu
   ·exact hu0
   ·exact t1 u hu
  ·rw[aG];omega
  ·simp only[mW];have h6:3*s.body.size*mW m<=3*s.body.size*(s.body.size-1):=Nat.mul_le_mul_left _ (by omega);have h7:3*s.body.size+3*s.body.size*(s.body.size-1)=3*s.body.size*s.body.size:=by
    obtain⟨j,hj⟩:∃j,s.body.size=j+1:=⟨s.body.size-1,by omega⟩;rw[hj];simp only[Nat.add_sub_cancel];generalize 3*(j+1)=z;rw[Nat.mul_succ];omega
   omega
open Go Go.Mx
def zk6(us:List Su):List D->Cell->Prop:=fun ds c=>ds=[gJ FL,eG us]->c=⟨false,.int .i64 0⟩
def zk5:List D->Cell->Prop:=fun ds c=>∀u,ds=[dU u]->c=⟨false,eG (kW u)⟩
def zk4:List D->Cell->Prop:=fun ds c=>∀u,ds=[dU u]->c=⟨false,dD (kH u)⟩
def wT(us:List Su):fC:=[(Xx,zk6 us),(zZ,zk5),(To,zk4)]
def xK(us:List Su):List Cd:=FL.map lO++us.flatMap fun u=>(kW u).map kH
def Hw(us:List Su)(acc:List Cd)(o:Bool)(i:Nat):Env:={slots:=[(1,⟨false,eG us⟩),(7,⟨o,kF acc⟩),(23,⟨false,gJ FL⟩),(24,⟨false,.int .i64 5⟩),(25,⟨false,.int .i64 i⟩)],dR:=[],boxes:=[],defers:=[]}
def Rf:D:=.list dY [.str [85,80,68,65,84,69],.str [80,79,80],.str [85,78,87,73,78,68]]
def bxF(f:Fd):List Cell:=[⟨false,.str f.name⟩,⟨false,.int .i64 f.tag⟩,⟨false,.int .i64 f.many⟩,⟨false,.int .i64 f.arity⟩,⟨false,.int .i64 0⟩,⟨false,.int .i64 0⟩,⟨false,.str []⟩,⟨false,.dN⟩]
def Rm(us:List Su)(acc:List Cd)(o:Bool)(i:Nat)(f:Fd)(p j:Nat):Env:={slots:=[(1,⟨false,eG us⟩),(7,⟨o,kF acc⟩),(10,⟨false,.ptr p 0⟩),(23,⟨false,gJ FL⟩),(24,⟨false,.int .i64 5⟩),(25,⟨false,.int .i64 i⟩),(39,⟨true,Rf⟩),(40,⟨false,.int .i64 3⟩),(41,⟨false,.int .i64 j⟩)],dR:=[(9,(9,0))],boxes:=[(9,bxF f)],defers:=[]}
section
variable{C:eV}{n:Nat}
theorem bu(us:List Su)(acc:List Cd)(o:Bool)(i:Nat)(f:Fd)(p j:Nat)(hj:j<3)(s:Tx)(hx:kU 1 Rf j=some (.gC (.str s)))(O O':Store)(h:C mI [.ptr p 0,.str s,.int .i64 0] O=some (.ret ⟨false,.fN []⟩,O')):exec C n none Zr (Rm us acc o i f p j) O=some (.normal,Rm us acc o i f p (j+1),O'):=by
 have hlt:((j:Int)<3):=by omega
 have w:=iE (i:=j) (by omega);simp only[Zr,Rm,sA,Nat.reduceBEq,kn,hlt,hx,h,w]
theorem ziab(us:List Su)(acc:List Cd)(o:Bool)(i:Nat)(f:Fd)(p:Nat)(O:Store):exec C n none Zr (Rm us acc o i f p 3) O=some (.exit 2,{Rm us acc o i f p 3 with slots:=[(1,⟨false,eG us⟩),(7,⟨o,kF acc⟩),(10,⟨false,.ptr p 0⟩),(23,⟨false,gJ FL⟩),(24,⟨false,.int .i64 5⟩),(25,⟨false,.int .i64 i⟩),(39,⟨true,Rf⟩),(40,⟨false,.int .i64 3⟩),(41,⟨false,.int .i64 (3:Nat)⟩),(42,⟨false,.bool false⟩)]},O):=by
 have hlt:¬(((3:Nat):Int)<3):=by omega
 simp only[Zr,Rm,sA,Nat.reduceBEq,kn,hlt]
end
theorem CA.Dw{O:Store}{p a:Nat}{L:List In}(h:CA O p a .lH L):∃os,Bj [⟨false,qS a L⟩,⟨false,.lH⟩] (gI O.dE p)=some ([⟨false,eM L⟩,⟨false,.lH⟩],os):=by
 have hk:=zbx a L;have hk2:Cell.keeps ⟨false,.lH⟩=false:=rfl;have hn:∀os,kR 40 .lH os=some (.lH,os):=fun _=>rfl;have Og:=h.pa;by_cases hL:L=[]
 ·subst hL;exact⟨_,rfl⟩
 ·have hr:=Zz (k:=fE) (id:=a) (n:=39) (ds:=L.map dI) (os:=gI O.dE p) (os':=gI (gI O.dE p) a) (by rw[Fv _ _ (fun e=>Og e.symm),(h.arr hL).1,Ej]) rfl rfl (ER L) (fun d hd=>by
   obtain⟨x,_,rfl⟩:=bF.1 hd;rfl)
  rw[aJ]at hr;have hd:eM L=.list fE (L.map dI):=by
   cases L with
   |nil=>exact absurd rfl hL
   |cons a b=>rfl
  rw[<-hd]at hr;rw[DK _ _ hL]at hk ⊢;exact⟨gI (gI O.dE p) a,by simp only[Bj,hr,hk,hk2,hn,dH,eP]⟩
theorem zejb(us:List Su)(acc:List Cd)(o:Bool)(ho:acc≠[]->o=true)(i:Nat)(hi:i<FL.length)(hacc:acc.length<1000)(O:Store)(N n:Nat)(hn:3<n):∃O',exec (W (wT us) (N+1)) n none Zs (Hw us acc o i) O=some (.normal,Hw us (acc++[lO FL[i]]) true (i+1),O'):=by
 have hF:FL.length=5:=rfl;have hlt:((i:Int)<5):=by omega
 have w:=iE (i:=i) (by omega);have hx:=Hn FL i hi;generalize FL[i]=f at hx ⊢;obtain⟨L0,hL0⟩:∃L0:List In,L0=[⟨TZ,f.arity,f.tag,f.name⟩]:=⟨_,rfl⟩;obtain⟨O1,e1⟩:∃O1,O1=fR O fE (cI L0):=⟨_,rfl⟩;have n1:O1.next=O.next+2:=by rw[e1];rfl
 obtain⟨O2,e2⟩:∃O2,O2=GA O1 X0 [⟨false,.arr fE O.next 0 1⟩,⟨false,.lH⟩]:=⟨_,rfl⟩;have n2:O2.next=O.next+3:=by rw[e2,nO,n1]
 have c2:CA O2 (O.next+2) O.next .lH L0:=by
  refine⟨?_,fun _=>⟨?_,?_⟩,by omega,by omega,by omega⟩
  ·rw[e2,<-n1,pA,hL0];rfl
  ·rw[e2,nP (by omega),e1];exact oO _ _ _
  ·rw[e2,PQ (by omega),e1];exact oO _ _ _
 obtain⟨O3,w3,c3,_,_⟩:=E9 (S:=wT us) rfl c2 (by rw[hL0];simp) [85,80,68,65,84,69] 0;obtain⟨O4,w4,c4,_,_⟩:=E9 (S:=wT us) rfl c3 (by rw[hL0];simp) [80,79,80] 0;obtain⟨O5,w5,c5,_,_⟩:=E9 (S:=wT us) rfl c4 (by rw[hL0];simp) [85,78,87,73,78,68] 0;have hbody:L0++[eJ [85,80,68,65,84,69] 0]++[eJ [80,79,80] 0]++[eJ [85,78,87,73,78,68] 0]=(lO f).body:=by rw[hL0];rfl
 rw[hbody]at c5;have x0:kU 1 Rf 0=some (.gC (.str [85,80,68,65,84,69])):=rfl;have x1:kU 1 Rf 1=some (.gC (.str [80,79,80])):=rfl;have x2:kU 1 Rf 2=some (.gC (.str [85,78,87,73,78,68])):=rfl;obtain⟨m,rfl⟩:∃m,n=m+4:=⟨n-4,by omega⟩;have l0:jI (exec (W (wT us) (N+1)) (m+4) none Zr) (m+4) (Rm us acc o i f (O.next+2) 0) O2=_:=(rK (bu us acc o i f (O.next+2) 0 (by omega) _ x0 O2 O3 (w3 N))).trans ((rK (bu us acc o i f (O.next+2) 1 (by omega) _ x1 O3 O4 (w4 N))).trans ((rK (bu us acc o i f (O.next+2) 2 (by omega) _ x2 O4 O5 (w5 N))).trans (rW (ziab us acc o i f (O.next+2) O5))));have xy:=c5.obj;obtain⟨os,hfz⟩:=c5.Dw;have hap:=RZ acc (lO f) o ho (by omega);have hdd:dD (lO f)=.agg [.str f.name,.int .i64 f.arity,eM (lO f).body]:=rfl;have hoI:(eM (lO f).body).one=true:=rX;have okI:(eM (lO f).body).ok=true:=qM;have ceI:(eM (lO f).body).cells=[eM (lO f).body]:=qZ;rw[hdd]at hap;generalize(lO f).body=B at *
 have hb0:[D.agg [.str TZ,.int .i64 f.arity,.int .i64 f.tag,.str f.name]]=L0.map dI:=by rw[hL0];rfl
 have hcl:cellsOf [D.agg [.str [80,65,67,75],.int .i64 f.arity,.int .i64 f.tag,.str f.name]]=cI L0:=by rw[hL0];rfl
 have hos:dC (fF os (O.next+2) [⟨false,eM B⟩,⟨false,.lH⟩]) (O.next+2)=some [⟨false,eM B⟩,⟨false,.lH⟩]:=JV _ _ _;have hln:lenOf Rf=some 3:=rfl;have zipb:D.list dY [.str [85,80,68,65,84,69],.str [80,79,80],.str [85,78,87,73,78,68]]=Rf:=rfl;refine⟨{O5 with dE:=fF os (O.next+2) [⟨false,eM B⟩,⟨false,.lH⟩]},?_⟩;simp only[dF]at hx;have q3:((3:Nat):Int)=3:=rfl;simp only[Rm,bxF,iG,q3]at l0;have one3:(([.str [85,80,68,65,84,69],.str [80,79,80],.str [85,78,87,73,78,68]]:List D).length:Int)=3:=rfl;simp only[Zs,Hw,sA,Nat.reduceAdd,Nat.reduceMul,Nat.reduceBEq,Nat.reduceLeDiff,kn,fP,mB,hlt,hx,hcl,<-e1,n1,<-e2,zipb,hln,q3,l0,Gv,tK,uI,xy,hfz,hos,hap,okI,ceI,w]
 done
end Go.Fu
namespace Go.Fu.X
open Go Go.Mx Go.Fu
set_option maxRecDepth 10000
set_option maxHeartbeats 4000000
def qR(R:Co->List Tx->Bool)(us:List Su):Bool:=us.all fun u=>mN R u.body.size u.body u.ps
def mM(us:List Su):Int :=
 dK (qR (fun c _=>nC c) us)
  (dK ((iQ (FL.map Fd.name++us.map Su.name)||us.any fun u=>iQ u.ps)||!qR (fun c _=>qB c) us) 20
   (dK (qR (wA (us.map Su.name)) us) 0 21)) 1
theorem zhub{u:Su}{ab:Nat}{yB:D}(na:Nat)(O O':Store)(b:Bool)(hb:dC O.dE ab=some [⟨false,yB⟩])(h:∀n,na<=n->W kM n wL [dM u.body,dG u.ps,yB] O=some (.ret ⟨false,.bool b⟩,O')):∀n,na+1<=n->W kM n TE [dU u,.ptr ab 0] O=some (.ret ⟨false,.bool (!b)⟩,O'):=fun n hn=>by
 obtain⟨n,rfl⟩:∃k,n=k+1:=⟨n-1,by omega⟩;rw[fW (af:=QR) rfl rfl rfl];have h:=h n (by omega);have hon:=kZ u.body;have sQ:=lP u.ps;rw[mH]at h;simp only[QR,D8,sA,seval,kn,hb,h]
theorem ah{α:Type}(P:α->Bool):∀l:List α,(!l.any fun x=>!P x)=l.all P
 |[]=>rfl
 |x::r=>by
  rw[List.any_cons,List.all_cons,<-ah P r];cases P x<;>rfl
theorem ny{us:List Su}(sR:us.length<100000000)(Ob:Store)(yB:D)(hok:yB.ok=true)(hce:yB.cells=[yB])(na:Nat)(B:Su->Bool)(zk9b:∀u∈us,∀O,iH Ob O->∃O',iH O O'/\∀n,na<=n->W kM n wL [dM u.body,dG u.ps,yB] O=some (.ret ⟨false,.bool (B u)⟩,O'))
  {lb:Nat} (hlb:dC Ob.dE lb=some [⟨false,eG us⟩]) (hln:lb<Ob.next) (O:Store) (hJ:iH Ob O):∃O',iH Ob O'/\∀n,na+us.length+10<=n->W kM n IA [yB,.ptr lb 0] O=some (.ret ⟨false,.bool (us.all B)⟩,O'):=by
 obtain⟨O1,e1⟩:∃O1,O1=GA O zki [⟨false,yB⟩]:=⟨_,rfl⟩;have f1:iH O O1:=by rw[e1];exact iH.ga
 have j1:iH Ob O1:=hJ.trans f1;have a1:dC O1.dE O.next=some [⟨false,yB⟩]:=by rw[e1,pA]
 have n1:O1.next=O.next+1:=by rw[e1,nO]
 have l1:dC O1.dE lb=some [⟨false,eG us⟩]:=by rw[j1.ob _ hln,hlb]
 obtain⟨O',hj',hw⟩:=zcx (S:=kM) rfl rfl us (.fn (.func TE) [] [.ptr O.next 0]) TE [.ptr O.next 0] rfl (by omega) (iH O1) (na+1) (fun u=>!B u) (fun u hu τ hτ=>by
  obtain⟨τ',hf,hw⟩:=zk9b u hu τ (j1.trans hτ);exact⟨τ',hτ.trans hf,zhub na τ τ' (B u) (by rw[hτ.ob _ (by omega),a1]) hw⟩) O1 iH.refl
 refine⟨O',j1.trans hj',fun n hn=>?_⟩;obtain⟨n,rfl⟩:∃k,n=k+1:=⟨n-1,by omega⟩;rw[fW (af:=QQ) rfl rfl rfl,<-ah];have hw:=hw n (by omega);simp only[QQ,sA,seval,kn,fP,mB,hok,hce,<-e1,l1,hw]
theorem ji{u:Su}(hsz:u.ps.length+u.body.size<=50000000)(yB:D)(jJ:FuncId)(nS:List D)(yE:D.mA yB=some (jJ,[],nS))(R:Co->List Tx->Bool)(O:Store)
  (hrun:∀τ,iH O τ->∀c g,g.length<=50000000->c.size<=50000000->∃τ',iH O τ'/\∀n,60000000<=n->W kM n jJ ([dM c,dG g]++nS) τ=some (.ret ⟨false,.bool (R c g)⟩,τ')) :
  ∃O',iH O O'/\∀n,120000000<=n->W kM n wL [dM u.body,dG u.ps,yB] O=some (.ret ⟨false,.bool (mN R u.body.size u.body u.ps)⟩,O'):=by
 obtain⟨O',h1,h2⟩:=zayb (P:=kM) rfl rfl rfl (iH O) yB jJ nS yE 60000000 50000000 (by omega) R (fun τ hτ c g e1 e2=>hrun τ hτ c g e1 e2) u.body u.ps O iH.refl hsz;exact⟨O',h1,fun n hn=>h2 n (by omega)⟩
theorem zcgb{u:Su}(hl:u.ps.length<100000000)(n:Nat)(O:Store):W kM (n+2) TH [dU u] O=some (.ret ⟨false,.bool (iQ u.ps)⟩,O):=by have hon:=kZ u.body;have sQ:=lP u.ps;have ht:=UJ (S:=kM) rfl u.ps (by omega) n O;rw[fW (af:=QT) rfl rfl rfl];simp only[QT,D8,sA,seval,kn,ht]
theorem zeh(us:List Su)(Ey:us.length<1000)(hsz:∀u∈us,u.ps.length+u.body.size<=50000000):eW Xx [gJ FL,eG us] ⟨false,.int .i64 (mM us)⟩:=by
 have hF:FL.length=5:=rfl;obtain⟨gl,hgl⟩:∃gl,gl=us.map Su.name:=⟨_,rfl⟩;have hgll:gl.length=us.length:=by rw[hgl,aJ]
 obtain⟨O1,e1⟩:∃O1,O1=GA cH qm [⟨false,gJ FL⟩]:=⟨_,rfl⟩;obtain⟨O2,e2⟩:∃O2,O2=GA O1 zkg [⟨false,eG us⟩]:=⟨_,rfl⟩;obtain⟨O3,e3⟩:∃O3,O3=GA O2 rI [⟨false,.dN⟩]:=⟨_,rfl⟩;obtain⟨O4,e4⟩:∃O4,O4=SO O3 2 [⟨false,dG gl⟩]:=⟨_,rfl⟩;obtain⟨O5,e5⟩:∃O5,O5=GA O4 zkj [⟨false,.tP⟩]:=⟨_,rfl⟩;obtain⟨O6,e6⟩:∃O6,O6=SO O5 3 [⟨false,.fn (.func My) [] [.ptr 0 0]⟩]:=⟨_,rfl⟩;have n0:cH.next=0:=rfl;have n1:O1.next=1:=by rw[e1,nO];rfl
 have n2:O2.next=2:=by rw[e2,nO,n1]
 have n3:O3.next=3:=by rw[e3,nO,n2]
 have n4:O4.next=3:=by rw[e4,oJ,n3]
 have n5:O5.next=4:=by rw[e5,nO,n4]
 have n6:O6.next=4:=by rw[e6,oJ,n5]
 have b0:dC O1.dE 0=some [⟨false,gJ FL⟩]:=by rw[e1];rfl
 have b1:dC O2.dE 1=some [⟨false,eG us⟩]:=by rw[e2,<-n1,pA]
 have b2:dC O3.dE 2=some [⟨false,.dN⟩]:=by rw[e3,<-n2,pA]
 have b14:dC O4.dE 1=some [⟨false,eG us⟩]:=by rw[e4,mS (by decide),e3,nP (by omega),b1]
 have b3:dC O5.dE 3=some [⟨false,.tP⟩]:=by rw[e5,<-n4,pA]
 have c0:dC O6.dE 0=some [⟨false,gJ FL⟩]:=by rw[e6,mS (by decide),e5,nP (by omega),e4,mS (by decide),e3,nP (by omega),e2,nP (by omega),b0]
 have c1:dC O6.dE 1=some [⟨false,eG us⟩]:=by rw[e6,mS (by decide),e5,nP (by omega),b14]
 have c2:dC O6.dE 2=some [⟨false,dG gl⟩]:=by rw[e6,mS (by decide),e5,nP (by omega),e4,rL]
 have c3:dC O6.dE 3=some [⟨false,.fn (.func My) [] [.ptr 0 0]⟩]:=by rw[e6,rL]
 have hT:TB O6 gl 2 3 0:=⟨c2,c3,c0,by omega⟩
 obtain⟨O7,j7,w7⟩:=ny (us:=us) (by omega) O6 (.fn (.func HZ) [] []) rfl rfl 120000000 (fun u=>mN (fun c _=>nC c) u.body.size u.body u.ps) (fun u hu O hO=>ji (hsz u hu) _ HZ [] rfl (fun c _=>nC c) O fun τ hτ c g e1 e2=>by
  obtain⟨τ',h3,h4⟩:=zcub g c (by omega) O τ hτ;have:=jD c;have:=pY c.al;exact⟨τ',h3,fun n hn=>h4 n (by omega)⟩) c1 (by omega) O6 iH.refl
 obtain⟨O8,j8,w8⟩:=ny (us:=us) (by omega) O6 (.fn (.func TF) [] []) rfl rfl 120000000 (fun u=>mN (fun c _=>qB c) u.body.size u.body u.ps) (fun u hu O hO=>ji (hsz u hu) _ TF [] rfl (fun c _=>qB c) O fun τ hτ c g e1 e2=>by
  have:=jD c;have:=pY c.al;exact⟨τ,hτ,fun n hn=>zjib g c (by omega) τ n (by omega)⟩) c1 (by omega) O7 j7
 have later:∀Os,iH O6 Os->∃O9,iH O6 O9/\∀n,120000000+us.length+10<=n->W kM n IA [.fn (.func IB) [] [.ptr 2 0,.ptr 3 0],.ptr 1 0] Os=some (.ret ⟨false,.bool (qR (wA gl) us)⟩,O9):=fun Os js=>ny (us:=us) (by omega) O6 (.fn (.func IB) [] [.ptr 2 0,.ptr 3 0]) rfl rfl 120000000 (fun u=>mN (wA gl) u.body.size u.body u.ps) (fun u hu O hO=>ji (hsz u hu) _ IB [.ptr 2 0,.ptr 3 0] rfl (wA gl) O fun τ hτ c g e1 e2=>by
  obtain⟨τ',h3,h4⟩:=zgwb (gl:=gl) g c (by omega) (by omega) (by omega) O τ (hT.fa hO) hτ;have:=jD c;have:=pY c.al;exact⟨τ',h3,fun n hn=>h4 n (by omega)⟩) c1 (by omega) Os js
 obtain⟨O9,j9,w9⟩:=later O8 j8
 obtain⟨Op,rfl,wp⟩:=zcx (S:=kM) rfl rfl us (.fn (.func TH) [] []) TH [] rfl (by omega) (fun τ=>τ=O4) 2 (fun u=>iQ u.ps) (fun u hu τ hτ=>⟨τ,hτ,fun n hn=>by
  obtain⟨n,rfl⟩:∃k,n=k+2:=⟨n-2,by omega⟩;have:=hsz u hu;exact zcgb (by omega) n τ⟩) O4 rfl
 obtain⟨N,hN⟩:∃N,N=200000000:=⟨_,rfl⟩;have w7:=w7 (N+1) (by omega);have w8:=w8 (N+1) (by omega);have w9:=w9 (N+1) (by omega);have wp:=wp (N+1) (by omega);have wn:=zxj (S:=kM) rfl us (by omega) N O2;have wf:=zxi (S:=kM) rfl FL (by omega) N O7;have wc:=FJ (S:=kM) rfl (FL.map Fd.name) gl (by simp;omega) N O7;have wt:=UJ (S:=kM) rfl (FL.map Fd.name++gl) (by simp;omega) N O7;rw[<-hgl]at wn;have d0:dC O7.dE 0=some [⟨false,gJ FL⟩]:=by rw[j7.ob _ (by omega),c0]
 have d2:dC O7.dE 2=some [⟨false,dG gl⟩]:=by rw[j7.ob _ (by omega),c2]
 have oF:(gJ FL).ok=true:=rfl;have Z4:(gJ FL).cells=[gJ FL]:=rfl;have oU:(eG us).ok=true:=qM;have Z5:(eG us).cells=[eG us]:=qZ;have oG:(dG gl).ok=true:=qM;have cG:(dG gl).cells=[dG gl]:=qZ;have oN:(dG (FL.map Fd.name)).ok=true:=qM;have cN:(dG (FL.map Fd.name)).cells=[dG (FL.map Fd.name)]:=qZ;have AP:=lP gl;have f1:D.mA (.fn (.func IA) [] [.ptr 1 0])=some (IA,[],[.ptr 1 0]):=rfl;simp only[Px]at wn;simp only[Pv]at wf;simp only[dd]at wc;have Ux:fO [gJ FL,eG us]=true:=by simp[fO,Jr,uD]
 have a1:(us.all fun u=>mN (fun c _=>nC c) u.body.size u.body u.ps)=qR (fun c _=>nC c) us:=rfl;have a2:(us.all fun u=>mN (fun c _=>qB c) u.body.size u.body u.ps)=qR (fun c _=>qB c) us:=rfl;rw[a1]at w7;rw[a2]at w8;unfold mM;rw[<-hgl];generalize gJ FL=fl at *
 generalize FL.map Fd.name=fnm at *
 generalize(us.any fun u=>iQ u.ps)=tp at *
 cases h7:qR (fun c _=>nC c) us with
 |false =>rw[h7]at w7;refine uN (af:=xX) (n:=1) (O':=O7) (uH kM (N+1)) rfl rfl Ux rfl ?_;simp only[xX,sA,seval,kn,fP,mB,oF,Z4,oU,Z5,n0,<-e1,n1,<-e2,b1,wn,n2,<-e3,b2,oG,cG,AP,<-e4,b14,wp,n4,<-e5,b3,<-e6,f1,w7]
 |true =>
  rw[h7]at w7;cases ht:iQ (fnm++gl)with
  |true =>rw[ht]at wt;refine uN (af:=xX) (n:=1) (O':=O7) (uH kM (N+1)) rfl rfl Ux rfl ?_;simp only[xX,sA,seval,kn,fP,mB,oF,Z4,oU,Z5,n0,<-e1,n1,<-e2,b1,wn,n2,<-e3,b2,oG,cG,AP,<-e4,b14,wp,n4,<-e5,b3,<-e6,f1,w7,d0,d2,wf,oN,cN,wc,wt]
  |false =>
   rw[ht]at wt;cases tp with
   |true =>refine uN (af:=xX) (n:=1) (O':=O7) (uH kM (N+1)) rfl rfl Ux rfl ?_;simp only[xX,sA,seval,kn,fP,mB,oF,Z4,oU,Z5,n0,<-e1,n1,<-e2,b1,wn,n2,<-e3,b2,oG,cG,AP,<-e4,b14,wp,n4,<-e5,b3,<-e6,f1,w7,d0,d2,wf,oN,cN,wc,wt]
   |false =>
    cases h8:qR (fun c _=>qB c) us with
    |false =>rw[h8]at w8;refine uN (af:=xX) (n:=1) (O':=O8) (uH kM (N+1)) rfl rfl Ux rfl ?_;simp only[xX,sA,seval,kn,fP,mB,oF,Z4,oU,Z5,n0,<-e1,n1,<-e2,b1,wn,n2,<-e3,b2,oG,cG,AP,<-e4,b14,wp,n4,<-e5,b3,<-e6,f1,w7,d0,d2,wf,oN,cN,wc,wt,w8]
    |true =>
     rw[h8]at w8;cases h9:qR (wA gl) us with
     |false =>rw[h9]at w9;refine uN (af:=xX) (n:=1) (O':=O9) (uH kM (N+1)) rfl rfl Ux rfl ?_;simp only[xX,sA,seval,kn,fP,mB,oF,Z4,oU,Z5,n0,<-e1,n1,<-e2,b1,wn,n2,<-e3,b2,oG,cG,AP,<-e4,b14,wp,n4,<-e5,b3,<-e6,f1,w7,d0,d2,wf,oN,cN,wc,wt,w8,w9]
     |true =>rw[h9]at w9;refine uN (af:=xX) (n:=1) (O':=O9) (uH kM (N+1)) rfl rfl Ux rfl ?_;simp only[xX,sA,seval,kn,fP,mB,oF,Z4,oU,Z5,n0,<-e1,n1,<-e2,b1,wn,n2,<-e3,b2,oG,cG,AP,<-e4,b14,wp,n4,<-e5,b3,<-e6,f1,w7,d0,d2,wf,oN,cN,wc,wt,w8,w9]
def uq:List D->Cell->Prop:=fun ds c=>∀us,ds=[gJ FL,eG us]->c=⟨false,.int .i64 (mM us)⟩
theorem zr0{us:List Su}(Ey:us.length<1000)(hsz:∀u∈us,u.ps.length+u.body.size<=50000000)(hw:mM us≠0):eW Tn [gJ FL,eG us] ⟨false,.fN [.dN,.int .i64 (mM us)]⟩:=by
 obtain⟨cw,hw1,hw2⟩:=vH (S:=[(Xx,uq)]) (s:=uq) rfl rfl (ds:=[gJ FL,eG us]) (c:=⟨false,.int .i64 (mM us)⟩) (fun vs e=>by
  simp only[aL,and_true,true_and]at e;rw[DX e]) (zeh us Ey hsz)
 rw[hw1 us rfl]at hw2;have hw3:=hw2 1 cH;have hb:(mM us != 0)=true:=by simpa using hw
 generalize mM us=w at *
 refine uN (af:=Oj) (n:=100000) (O':=cH) (uH [(Xx,uq)] 2) rfl rfl (by simp[fO,uD];rfl) rfl ?_;simp only[Oj,sA,seval,kn,hw3,hb]
/-! ### All that is within, with the names that are given -/
def X5(R:Co->List Tx->Bool):Nat->Co->List Tx->Bool
 |0,_,_=>true
 |k+1,c,g=>R c g&&(nV c).all fun p=>X5 R k p.1 (g++p.2)
theorem ZQ{c:Co}{p:Co×List Tx}(h:p∈nV c):p.1.size<c.size:=Vl c p.1 (by rw[<-EH];exact bF.2 ⟨p,h,rfl⟩)
theorem vE{α:Type}{p q:α->Bool}:∀l:List α,(∀x∈l,p x=q x)->l.all p=l.all q
 |[],_=>rfl
 |x::r,h=>by rw[List.all_cons,List.all_cons,h x (aQ ..),vE r fun y hy=>h y (aI _ hy)]
theorem zxm(R:Co->List Tx->Bool):∀(n:Nat)(c:Co),c.size=n->∀(k k':Nat)(g:List Tx),c.size<=k->c.size<=k'->X5 R k c g=X5 R k' c g:=by
 intro n;induction n using Nat.strongRecOn with
 |ind n ih =>
  intro c hn k k' g hk hk';have hp:=lT c;obtain⟨k,rfl⟩:∃j,k=j+1:=⟨k-1,by omega⟩;obtain⟨k',rfl⟩:∃j,k'=j+1:=⟨k'-1,by omega⟩;simp only[X5];congr 1;exact vE _ fun p hp=>by
   have:=ZQ hp;exact ih _ (by omega) p.1 rfl k k' _ (by omega) (by omega)
def A(R:Co->List Tx->Bool)(c:Co)(g:List Tx):Bool:=X5 R c.size c g
theorem F6(R:Co->List Tx->Bool)(c:Co)(g:List Tx):A R c g=(R c g&&(nV c).all fun p=>A R p.1 (g++p.2)):=by
 have hp:=lT c;obtain⟨k,hk⟩:∃j,c.size=j+1:=⟨c.size-1,by omega⟩;unfold A;rw[hk];simp only[X5];congr 1;exact vE _ fun p hp=>by
  have:=ZQ hp;exact zxm R _ p.1 rfl _ _ _ (by omega) (aM _)
def Rs:Co->List Tx->Bool:=fun c _=>nC c
def Ro:Co->List Tx->Bool:=fun c _=>qB c
def Rt(c:Co)(ns:List Tx):Bool:=!((((c.f==1)&&!ns.any (·==c.s))&&!(dW c).any (·==c.s))||((c.f==2)&&!rB FL c.s (-1)))&&!(c.al.any fun a=>wP a.1)
theorem FD{R:Co->Bool}:∀(n:Nat)(c:Co),c.size=n->∀(g g':List Tx),A (fun c _=>R c) c g=A (fun c _=>R c) c g':=by
 intro n;induction n using Nat.strongRecOn with
 |ind n ih =>
  intro c hn g g';rw[F6,F6];congr 1;exact vE _ fun p hp=>by
   have:=ZQ hp;exact ih _ (by omega) p.1 rfl _ _
theorem ae{R:Co->Bool}(c:Co)(g:List Tx):A (fun c _=>R c) c g=(R c&&(eT c).all fun x=>A (fun c _=>R c) x []):=by rw[F6,<-EH,List.all_map];congr 1;exact vE _ fun p hp=>FD _ p.1 rfl _ _
/-! ### Loops that end early -/
theorem A7{β:Type}{body:Env->Store->oC}(E:Nat->Env)(l:List β)(P:β->Bool)(eN eF:Env)(id:Nat)(O:Store)(hstep:∀i (hi:i<l.length),body (E i) O=dK (P l[i]) (some (.ret,eF,O)) (some (.normal,E (i+1),O)))
  (hend:body (E l.length) O=some (.exit id,eN,O)):∀(rest done:List β)(n:Nat),l=done++rest->rest.length<n->jI body n (E done.length) O=dK (rest.any P) (some (.ret,eF,O)) (some (.exit id,eN,O))
 |[],done,n,hd,hn=>by
  obtain⟨n,rfl⟩:∃k,n=k+1:=⟨n-1,by omega⟩;have e:done.length=l.length:=by rw[hd];simp
  rw[e];exact rW hend
 |x::rest,done,n,hd,hn=>by
  obtain⟨n,rfl⟩:∃k,n=k+1:=⟨n-1,by omega⟩;have hi:done.length<l.length:=by rw[hd];simp
  have hs:l[done.length]=x:=by
   have:∀(l:List β)(hl:l=done++x::rest)(hi:done.length<l.length),l[done.length]=x:=fun l hl hi=>by subst hl;simp
   exact this _ hd hi
  have h1:=hstep done.length hi;rw[hs]at h1;rw[List.any_cons];cases hP:P x with
  |true =>rw[hP,dQ]at h1;rw[CB h1];rfl
  |false =>rw[hP,dX]at h1;rw[rK h1,bY];have:=A7 E l P eN eF id O hstep hend rest (done++[x]) n (by rw[hd];simp) (by simp at hn;omega);simpa only[aF,aG,aH,aN]using this
theorem NA{β:Type}{body:Env->Store->oC}(go:Bool)(E:Bool->Nat->Env)(X:Bool->Nat->Env)(l:List β)(G:β->Bool)(id:Nat)(O:Store)(hstep:∀i (hi:i<l.length),body (E go i) O=some (.normal,E (G l[i]) (i+1),O))
  (hstop:∀i,i<=l.length->body (E (!go) i) O=some (.exit id,X (!go) i,O)) (hend:body (E go l.length) O=some (.exit id,X go l.length,O)):∀(rest done:List β)(n:Nat),l=done++rest->rest.length+1<n->∃i,jI body n (E go done.length) O=some (.exit id,X (dK (rest.all fun x=>G x==go) go (!go)) i,O)
 |[],done,n,hd,hn=>by
  obtain⟨n,rfl⟩:∃k,n=k+1:=⟨n-1,by omega⟩;have e:done.length=l.length:=by rw[hd];simp
  rw[e];exact⟨l.length,rW hend⟩
 |x::rest,done,n,hd,hn=>by
  obtain⟨n,rfl⟩:∃k,n=k+1:=⟨n-1,by omega⟩;have hi:done.length<l.length:=by rw[hd];simp
  have hs:l[done.length]=x:=by
   have:∀(l:List β)(hl:l=done++x::rest)(hi:done.length<l.length),l[done.length]=x:=fun l hl hi=>by subst hl;simp
   exact this _ hd hi
  have h1:=hstep done.length hi;rw[hs]at h1;rw[rK h1,List.all_cons];cases hG:G x==go with
  |true =>
   have e:G x=go:=by simpa using hG
   rw[e,bX];have:=NA go E X l G id O hstep hstop hend rest (done++[x]) n (by rw[hd];simp) (by simp at hn;omega);simpa only[aF,aG,aH,aN]using this
  |false =>
   have e:G x=!go:=by
    revert hG
    cases G x<;>cases go<;>decide
   obtain⟨n,rfl⟩:∃k,n=k+1:=⟨n-1,by simp at hn;omega⟩;rw[e];exact⟨done.length+1,rW (hstop _ (by omega))⟩
/-! ### The document's shape -/
section
variable{C:eV}{n:Nat}{O:Store}
def OL:Env:={slots:=[(2,⟨false,.bool false⟩)],dR:=[],boxes:=[],defers:=[]}
theorem zcxb(c:Co)(i:Nat)(h:i<c.al.length)(hl:c.size<100000000):exec C n none zU (wS c i) O=dK (Fj c.al[i].1) (some (.ret,OL,O)) (some (.normal,wS c (i+1),O)):=by
 have ha:=pY c.al;have hsz:=jD c;have hi:((i:Int)<(c.al.length:Int)):=by omega
 have hx:=Hm c.al i h;have w:=iE (i:=i) (by omega);have hd:=xM c.al[i];simp only[eX]at hd;rw[hd]at hx;generalize c.al[i]=a at hx;unfold Fj OL;by_cases hg:((a.1.vars.length:Int)>0)
 ·cases e1:a.1.form != 1 with
  |false=>simp only[zU,wS,bC,sA,seval,kn,mT,hi,hx,e1,w]
  |true =>
   cases e2:a.1.form != 2 with
   |false=>simp only[zU,wS,bC,sA,seval,kn,mT,hi,hx,e1,e2,lE,hg]
   |true =>
    cases e3:a.1.form != 3 with
    |false=>simp only[zU,wS,bC,sA,seval,kn,mT,hi,hx,e1,e2,e3,lE,hg]
    |true=>simp only[zU,wS,bC,sA,seval,kn,mT,hi,hx,e1,e2,e3]
 ·cases e1:a.1.form != 1 with
  |false=>simp only[zU,wS,bC,sA,seval,kn,mT,hi,hx,e1,w]
  |true =>
   cases e2:a.1.form != 2 with
   |false=>simp only[zU,wS,bC,sA,seval,kn,mT,hi,hx,e1,e2,lE,hg,w]
   |true =>
    cases e3:a.1.form != 3 with
    |false=>simp only[zU,wS,bC,sA,seval,kn,mT,hi,hx,e1,e2,e3,lE,hg,w]
    |true=>simp only[zU,wS,bC,sA,seval,kn,mT,hi,hx,e1,e2,e3]
end
theorem s2(b a:Nat):((b:Int)+a==0)=(((b:Int)==0)&&((a:Int)==0)):=by rw[Bool.eq_iff_iff];simp only[beq_iff_eq,aC];omega
theorem s3(k b a:Nat):((k:Int)+b+a==0)=((((k:Int)==0)&&((b:Int)==0))&&((a:Int)==0)):=by rw[Bool.eq_iff_iff];simp only[beq_iff_eq,aC];omega
theorem zgpb(c:Co)(hl:c.size<100000000):eW qb [dM c] ⟨false,.bool (nC c)⟩:=by
 refine jH (af:=zR) (n:=c.size+2) (O':=cH) (jG Fu.ve 1) rfl rfl (by simp[fO,mL]) rfl ?_;have hp:=zcu (S:=Fu.ve) rfl c.s 0 cH;have ha:=pY c.al;have hsz:=jD c;have hloop:=A7 (body:=exec (T Fu.ve 1) (c.size+2) none zU) (wS c) c.al (fun a=>Fj a.1) _ OL 1 cH (fun i hi=>zcxb c i hi hl) (zjzb c) c.al [] (c.size+2) rfl (by omega);simp only[wS,bC,iG,aH]at hloop;unfold nC;rw[s3,s2];cases e1:c.f==1 with
 |true =>cases k0:(c.ks.length:Int)==0<;>cases b0:(c.bs.length:Int)==0<;>simp only[zR,sA,seval,kn,eO,eX,hp,nX,tO,mT,e1,k0,b0]
 |false =>
  cases e2:c.f==2 with
  |true =>cases k0:(c.ks.length:Int)==0<;>cases b0:(c.bs.length:Int)==0<;>simp only[zR,sA,seval,kn,eO,eX,hp,nX,tO,mT,e1,e2,k0,b0]
  |false =>
   cases e3:c.f==3 with
   |true =>cases k0:(c.ks.length:Int)==0<;>cases b0:(c.bs.length:Int)==0<;>simp only[zR,sA,seval,kn,eO,eX,hp,nX,tO,mT,e1,e2,e3,k0,b0]
   |false =>
    cases e11:c.f==11 with
    |true =>cases k0:(c.ks.length:Int)==0<;>cases b0:(c.bs.length:Int)==0<;>simp only[zR,sA,seval,kn,eO,eX,hp,nX,tO,mT,e1,e2,e3,e11,k0,b0]
    |false =>
     cases e4:c.f==4 with
     |true =>cases k2:(c.ks.length:Int)==2<;>cases b0:(c.bs.length:Int)==0<;>simp only[zR,sA,seval,kn,eO,eX,hp,nX,tO,mT,e1,e2,e3,e11,e4,k2,b0]
     |false =>
      cases e10:c.f==10 with
      |true =>cases k2:(c.ks.length:Int)==2<;>cases b0:(c.bs.length:Int)==0<;>cases a0:(c.al.length:Int)==0<;>simp only[zR,sA,seval,kn,eO,eX,hp,nX,tO,mT,e1,e2,e3,e11,e4,e10,k2,b0,a0]
      |false =>
       cases e8:c.f==8 with
       |true =>cases k1:(c.ks.length:Int)==1<;>simp only[zR,sA,seval,kn,eO,eX,hp,nX,mT,e1,e2,e3,e11,e4,e10,e8,k1]
       |false =>
        cases e9:c.f==9 with
        |false=>simp only[zR,sA,seval,kn,eO,eX,hp,nX,e1,e2,e3,e11,e4,e10,e8,e9]
        |true =>
         cases ho:c.al.any fun a=>Fj a.1 with
         |true =>rw[ho,dQ]at hloop;unfold OL at hloop;cases k1:(c.ks.length:Int)==1<;>cases b0:(c.bs.length:Int)==0<;>simp only[zR,sA,seval,kn,eO,eX,hp,nX,e1,e2,e3,e11,e4,e10,e8,e9,hloop]
         |false =>rw[ho,dX]at hloop;cases k1:(c.ks.length:Int)==1<;>cases b0:(c.bs.length:Int)==0<;>simp only[zR,sA,seval,kn,eO,eX,hp,nX,tO,mT,e1,e2,e3,e11,e4,e10,e8,e9,hloop,k1,b0]
def zzo:List D->Cell->Prop:=fun ds c=>∀co,ds=[dM co]->c=⟨false,.bool (nC co)⟩
def zcc:List D->Cell->Prop:=fun ds c=>∀co,ds=[dM co]->c=⟨false,.bool (A Rs co [])⟩
def zbe:List D->Cell->Prop:=fun ds c=>∀co,ds=[dM co]->c=⟨false,.bool (!A Ro co [])⟩
def WX:List D->Cell->Prop:=fun ds c=>∀ns co,ds=[gJ FL,dG ns,dM co]->c=⟨false,.bool (!A Rt co ns)⟩
theorem EM{S:fC}{f:FuncId}{v:Co->Bool}(hS:dC S f=some (fun ds c=>∀co,ds=[dM co]->c=⟨false,.bool (v co)⟩))(hY:jK f=false)(c:Co)(h:eW f [dM c] ⟨false,.bool (v c)⟩)(n:Nat)(O:Store):T S (n+1) f [dM c] O=some (.ret ⟨false,.bool (v c)⟩,O):=by
 obtain⟨x,h1,h2⟩:=lD (S:=S) hS hY (c:=⟨false,.bool (v c)⟩) (fun co e=>by
  simp only[aL,and_true]at e;rw[qO e]) h
 rw[h2,h1 c rfl]
theorem zu{S:fC}(hS:dC S Ff=some WX)(ns:List Tx)(c:Co)(h:eW Ff [gJ FL,dG ns,dM c] ⟨false,.bool (!A Rt c ns)⟩)(n:Nat)(O:Store):T S (n+1) Ff [gJ FL,dG ns,dM c] O=some (.ret ⟨false,.bool (!A Rt c ns)⟩,O):=by
 obtain⟨x,h1,h2⟩:=lD (S:=S) hS rfl (c:=⟨false,.bool (!A Rt c ns)⟩) (fun ms co e=>by
  simp only[aL,and_true,true_and]at e;rw[lN e.1,qO e.2]) h
 rw[h2,h1 ns c rfl]
def Yx:fC:=[(qb,zzo),(Qw,zcc),(Fe,DD)]
section
variable{C:eV}{n:Nat}{O:Store}
def Ft(l:List Co)(b:Bool)(i:Nat):Env:={slots:=[(3,⟨false,.bool b⟩),(4,⟨false,iI l⟩),(5,⟨false,.int .i64 i⟩)],dR:=[],boxes:=[],defers:=[]}
def Uo(l:List Co)(b:Bool)(i:Nat):Env:={slots:=[(3,⟨false,.bool b⟩),(4,⟨false,iI l⟩),(5,⟨false,.int .i64 i⟩),(16,⟨false,.bool false⟩)],dR:=[],boxes:=[],defers:=[]}
theorem zgtb(l:List Co)(i:Nat)(h:i<l.length)(hl:l.length<100000000)(b:Bool)(hc:C Qw [dM l[i]] O=some (.ret ⟨false,.bool b⟩,O)):exec C n none Lx (Ft l true i) O=some (.normal,Ft l b (i+1),O):=by
 have hi:((i:Int)<(l.length:Int)):=by omega
 have hx:=GN l i h;have hd:=eO l[i];rw[hd]at hc hx;simp only[Lx,Ft,sA,seval,kn,nX,hi,hx,sX,hc,iE (i:=i) (by omega)]
theorem zhd(l:List Co)(i:Nat):exec C n none Lx (Ft l (!true) i) O=some (.exit 0,Uo l (!true) i,O):=by
 by_cases hi:((i:Int)<(l.length:Int))
 ·simp only[Lx,Ft,Uo,sA,seval,kn,nX,hi]
 ·simp only[Lx,Ft,Uo,sA,seval,kn,nX,hi]
theorem zj0b(l:List Co):exec C n none Lx (Ft l true l.length) O=some (.exit 0,Uo l true l.length,O):=by
 have hi:¬((l.length:Int)<(l.length:Int)):=by omega
 simp only[Lx,Ft,Uo,sA,seval,kn,nX,hi]
end
theorem zps{α:Type}(G:α->Bool)(l:List α):(l.all fun x=>G x==true)=l.all G:=vE _ fun x _=>by cases G x<;>rfl
theorem zbab(b:Bool):dK b true (!true)=b:=by cases b<;>rfl
theorem zgo(b:Bool):dK b false (!false)=!b:=by cases b<;>rfl
theorem zcvb:∀(k:Nat)(c:Co),c.size=k->c.size<100000000->eW Qw [dM c] ⟨false,.bool (A Rs c [])⟩:=by
 intro k;induction k using Nat.strongRecOn with
 |ind k ih =>
  intro c hk hl;have hlen:=Vo c;have hsz:=jD c;have hb:=mY c.bs;have hks:=yY c.ks;have ha:=pY c.al;refine jH (af:=FV) (n:=c.size+2) (O':=cH) (jG Yx 1) rfl rfl (by simp[fO,mL]) rfl ?_;have h1:=EM (S:=Yx) (v:=nC) rfl rfl c (zgpb c hl) 0 cH;have h2:=LM (S:=Yx) rfl c hl 0 cH;have hrec:∀i (hi:i<(eT c).length),T Yx 1 Qw [dM (eT c)[i]] cH=some (.ret ⟨false,.bool (A Rs (eT c)[i] [])⟩,cH):=fun i hi=>by
   have hlt:=Vl c _ (aX hi);exact EM (S:=Yx) (v:=fun co=>A Rs co []) rfl rfl _ (ih _ (by omega) (eT c)[i] rfl (by omega)) 0 cH
  have hA:A Rs c []=(nC c&&(eT c).all fun x=>A Rs x []):=ae (R:=nC) c [];rw[hA];cases hs:nC c with
  |false =>rw[hs]at h1;have hst:=rW (n:=c.size+1) (zhd (C:=T Yx 1) (n:=c.size+2) (O:=cH) (eT c) 0);simp only[Ft,Uo,iG,bZ]at hst;simp only[eO c,eX]at h1 h2;simp only[FV,sA,seval,kn,eO c,eX,h1,h2,hst]
  |true =>rw[hs]at h1;obtain⟨i,hloop⟩:=NA (body:=exec (T Yx 1) (c.size+2) none Lx) true (Ft (eT c)) (Uo (eT c)) (eT c) (fun x=>A Rs x []) 0 cH (fun i hi=>zgtb (eT c) i hi (by omega) _ (hrec i hi)) (fun i _=>zhd (eT c) i) (zj0b (eT c)) (eT c) [] (c.size+2) rfl (by omega);rw[zps,zbab]at hloop;generalize((eT c).all fun x=>A Rs x [])=r at hloop ⊢;simp only[Ft,Uo,iG,aH]at hloop;simp only[eO c,eX]at h1 h2;simp only[FV,sA,seval,kn,eO c,eX,h1,h2,hloop]
def Jc:fC:=[(yI,Wa),(Fg,ZW),(Fe,DD),(Qu,zbe)]
section
variable{C:eV}{n:Nat}{O:Store}
def Ua(c:Co)(b:Bool)(i:Nat):Env:={slots:=[(3,⟨false,.bool (b||((c.al.take i).any fun a=>iQ a.1.vars))⟩),(4,⟨false,.int .i64 i⟩)],dR:=[(1,1,0)],boxes:=[(1,bC c)],defers:=[]}
theorem zakb{α:Type}(P:α->Bool)(l:List α)(x:α):(l++[x]).any P=(l.any P||P x):=by simp
theorem zedb(c:Co)(b:Bool)(i:Nat)(h:i<c.al.length)(hl:c.size<100000000)(hc:C Fg [dG c.al[i].1.vars] O=some (.ret ⟨false,.bool (iQ c.al[i].1.vars)⟩,O)):exec C n none Xo (Ua c b i) O=some (.normal,Ua c b (i+1),O):=by
 have ha:=pY c.al;have hsz:=jD c;have hi:((i:Int)<(c.al.length:Int)):=by omega
 have hp:=V9 c.al[i];have w:=iE (i:=i) (by omega);have e:(b||((c.al.take (i+1)).any fun a=>iQ a.1.vars))=((b||((c.al.take i).any fun a=>iQ a.1.vars))||iQ c.al[i].1.vars):=(by rw[<-mC c.al i h,zakb,Bool.or_assoc]);unfold Ua;rw[e];generalize(b||((c.al.take i).any fun a=>iQ a.1.vars))=b0;cases b0 with
 |true=>simp only[Xo,bC,sA,seval,kn,mT,hi,Hm _ i h,Pj,hp,lP,hc,w]
 |false=>simp only[Xo,bC,sA,seval,kn,mT,hi,Hm _ i h,Pj,hp,lP,hc,w]
theorem zh8b(c:Co)(b:Bool):exec C n none Xo (Ua c b c.al.length) O=some (.exit 0,{Ua c b c.al.length with slots:=[(3,⟨false,.bool (b||(c.al.any fun a=>iQ a.1.vars))⟩),(4,⟨false,.int .i64 c.al.length⟩),(15,⟨false,.bool false⟩)]},O):=by
 have hi:¬((c.al.length:Int)<(c.al.length:Int)):=by omega
 simp only[Xo,Ua,bC,sA,seval,kn,mT,hi,aV]
def Fq(l:List Co)(b:Bool)(i:Nat):Env:={slots:=[(3,⟨false,.bool b⟩),(6,⟨false,iI l⟩),(7,⟨false,.int .i64 i⟩)],dR:=[],boxes:=[],defers:=[]}
def Ue(l:List Co)(b:Bool)(i:Nat):Env:={slots:=[(3,⟨false,.bool b⟩),(6,⟨false,iI l⟩),(7,⟨false,.int .i64 i⟩),(38,⟨false,.bool false⟩)],dR:=[],boxes:=[],defers:=[]}
theorem zeib(l:List Co)(i:Nat)(h:i<l.length)(hl:l.length<100000000)(b:Bool)(hc:C Qu [dM l[i]] O=some (.ret ⟨false,.bool b⟩,O)):exec C n none Ls (Fq l false i) O=some (.normal,Fq l b (i+1),O):=by
 have hi:((i:Int)<(l.length:Int)):=by omega
 have hx:=GN l i h;have hd:=eO l[i];rw[hd]at hc hx;simp only[Ls,Fq,sA,seval,kn,nX,hi,hx,sX,hc,iE (i:=i) (by omega)]
theorem zgf(l:List Co)(i:Nat):exec C n none Ls (Fq l (!false) i) O=some (.exit 2,Ue l (!false) i,O):=by
 by_cases hi:((i:Int)<(l.length:Int))
 ·simp only[Ls,Fq,Ue,sA,seval,kn,nX,hi]
 ·simp only[Ls,Fq,Ue,sA,seval,kn,nX,hi]
theorem zh9b(l:List Co):exec C n none Ls (Fq l false l.length) O=some (.exit 2,Ue l false l.length,O):=by
 have hi:¬((l.length:Int)<(l.length:Int)):=by omega
 simp only[Ls,Fq,Ue,sA,seval,kn,nX,hi]
end
theorem zoo{α:Type}(G:α->Bool)(l:List α):(l.all fun x=>(!G x)==false)=l.all G:=vE _ fun x _=>by cases G x<;>rfl
theorem zx8:∀(k:Nat)(c:Co),c.size=k->c.size<100000000->eW Qu [dM c] ⟨false,.bool (!A Ro c [])⟩:=by
 intro k;induction k using Nat.strongRecOn with
 |ind k ih =>
  intro c hk hl;have hlen:=Vo c;have hsz:=jD c;have hb:=mY c.bs;have hks:=yY c.ks;have ha:=pY c.al;refine jH (af:=FP) (n:=c.size+2) (O':=cH) (jG Jc 1) rfl rfl (by simp[fO,mL]) rfl ?_;have h1:=BI (S:=Jc) rfl c hl 0 cH;have h2:=LP (S:=Jc) rfl (c.bs.map Prod.fst) (by simp;omega) 0 cH;have h3:=LM (S:=Jc) rfl c hl 0 cH;have hrec:∀i (hi:i<(eT c).length),T Jc 1 Qu [dM (eT c)[i]] cH=some (.ret ⟨false,.bool (!A Ro (eT c)[i] [])⟩,cH):=fun i hi=>by
   have hlt:=Vl c _ (aX hi);exact EM (S:=Jc) (v:=fun co=>!A Ro co []) rfl rfl _ (ih _ (by omega) (eT c)[i] rfl (by omega)) 0 cH
  have hA:A Ro c []=(qB c&&(eT c).all fun x=>A Ro x []):=ae (R:=qB) c [];have hO:qB c=!(iQ (c.bs.map Prod.fst)||(c.al.any fun a=>iQ a.1.vars)):=(by unfold qB dW;cases iQ (c.bs.map Prod.fst)<;>rfl)
  have hl0:=nI (body:=exec (T Jc 1) (c.size+2) none Xo) (Ua c (iQ (c.bs.map Prod.fst))) (fun _=>cH) c.al.length (r:=_) (fun _ _ h=>by cases h) (fun i hi=>zedb c _ i hi hl (by
   have:=qP c.al _ (aX hi);exact LP (S:=Jc) rfl c.al[i].1.vars (by omega) 0 cH)) (zh8b c _) 0 (c.size+2) (by omega) (by omega)
  rw[hA,hO];simp only[Ua,bC,iG,List.take_zero,List.any_nil,Bool.or_false]at hl0;generalize iQ (c.bs.map Prod.fst)=b1 at *
  generalize(c.al.any fun a=>iQ a.1.vars)=b2 at *
  cases hbb:b1||b2 with
  |true =>rw[hbb]at hl0;have hst:=rW (n:=c.size+1) (zgf (C:=T Jc 1) (n:=c.size+2) (O:=cH) (eT c) 0);simp only[Fq,Ue,iG,cC]at hst;simp only[eO c,eX]at h1 h3;simp only[FP,sA,seval,kn,eO c,eX,h1,h2,h3,hl0,hst]
  |false =>rw[hbb]at hl0;obtain⟨i,hloop⟩:=NA (body:=exec (T Jc 1) (c.size+2) none Ls) false (Fq (eT c)) (Ue (eT c)) (eT c) (fun x=>!A Ro x []) 2 cH (fun i hi=>zeib (eT c) i hi (by omega) _ (hrec i hi)) (fun i _=>zgf (eT c) i) (zh9b (eT c)) (eT c) [] (c.size+2) rfl (by omega);rw[zoo,zgo]at hloop;generalize((eT c).all fun x=>A Ro x [])=r at hloop ⊢;simp only[Fq,Ue,iG,aH]at hloop;simp only[eO c,eX]at h1 h3;simp only[FP,sA,seval,kn,eO c,eX,h1,h2,h3,hl0,hloop]
def tZ:fC:=[(Im,ql),(Qv,zfd),(yI,Wa),(Fe,DD),(Fb,ZV),(mJ,Wu),(Ff,WX)]
def Xd:Env:={slots:=[(6,⟨false,.bool true⟩)],dR:=[],boxes:=[],defers:=[]}
section
variable{C:eV}{n:Nat}{O:Store}
theorem zdqb(ns:List Tx)(c:Co)(i:Nat)(h:i<c.al.length)(hl:c.size<100000000)(hc:C Qv [gJ FL,.str c.al[i].1.name,.int .i64 c.al[i].1.vars.length] O=some (.ret ⟨false,.bool (rB FL c.al[i].1.name c.al[i].1.vars.length)⟩,O)) :
  exec C n none Ss (Iy ns c i) O=dK (wP c.al[i].1) (some (.ret,Xd,O)) (some (.normal,Iy ns c (i+1),O)):=by
 have ha:=pY c.al;have hsz:=jD c;have hi:((i:Int)<(c.al.length:Int)):=by omega
 have hp:=V9 c.al[i];have w:=iE (i:=i) (by omega);unfold wP Xd;cases e1:c.al[i].1.form==1 with
 |false=>simp only[Ss,Iy,bC,sA,seval,kn,mT,hi,Hm _ i h,Pj,hp,lP,lE,hc,e1,w]
 |true =>
  cases hf:rB FL c.al[i].1.name c.al[i].1.vars.length with
  |true =>rw[hf]at hc;simp only[Ss,Iy,bC,sA,seval,kn,mT,hi,Hm _ i h,Pj,hp,lP,lE,hc,e1,w]
  |false =>rw[hf]at hc;simp only[Ss,Iy,bC,sA,seval,kn,mT,hi,Hm _ i h,Pj,hp,lP,lE,hc,e1]
theorem zg6b(ns:List Tx)(c:Co)(i:Nat)(h:i<(eT c).length)(hl:(eT c).length<100000000)(b:Bool)(hg:C Fb [dM c,.int .i64 i] O=some (.ret ⟨false,dG (lC c i)⟩,O))(hb:C mJ [dG ns,dG (lC c i)] O=some (.ret ⟨false,dG (ns++lC c i)⟩,O))
  (hc:C Ff [gJ FL,dG (ns++lC c i),dM (eT c)[i]] O=some (.ret ⟨false,.bool b⟩,O)):exec C n none Xq (Nu ns c i) O=dK b (some (.ret,Xd,O)) (some (.normal,Nu ns c (i+1),O)):=by
 have hi:((i:Int)<((eT c).length:Int)):=by omega
 have hx:=GN (eT c) i h;have hd:=eO (eT c)[i];rw[hd]at hc hx;rw[eO c,eX]at hg;unfold Xd;cases b with
 |true=>simp only[Xq,Nu,bC,sA,seval,kn,nX,hi,hx,sX,hg,hb,hc]
 |false=>simp only[Xq,Nu,bC,sA,seval,kn,nX,hi,hx,sX,hg,hb,hc,iE (i:=i) (by omega)]
end
theorem zh8(c:Co)(i:Nat)(hi:i<(nV c).length):(nV c)[i].1=(eT c)[i]'(by rw[<-Py];exact hi):=by
 have h1:=EH c;have:(nV c)[i].1=((nV c).map Prod.fst)[i]'(by simpa using hi):=by simp
 rw[this];simp only[h1]
theorem zzs:∀(k:Nat)(c:Co)(ns:List Tx),c.size=k->ns.length+c.size<100000000->eW Ff [gJ FL,dG ns,dM c] ⟨false,.bool (!A Rt c ns)⟩:=by
 intro k;induction k using Nat.strongRecOn with
 |ind k ih =>
  intro c ns hk hl;have hlen:=Vo c;have hsz:=jD c;have hb:=mY c.bs;have hks:=yY c.ks;have ha:=pY c.al;refine jH (af:=yA) (n:=c.size+1) (O':=cH) (jG tZ 1) rfl rfl (by simp[fO,mL,jY,Jr]) rfl ?_;have h1:=DV (S:=tZ) rfl ns c.s (by omega) 0 cH;have h2:=zbp (S:=tZ) rfl FL c.s (-1) (by decide) 0 cH;have h3:=LM (S:=tZ) rfl c (by omega) 0 cH;have h4:=BI (S:=tZ) rfl c (by omega) 0 cH;have h5:=DV (S:=tZ) rfl (c.bs.map Prod.fst) c.s (by simp;omega) 0 cH;have hgl:∀i (hi:i<(eT c).length),(lC c i).length+(eT c)[i].size<=c.size:=fun i hi=>by
   have KI:i<(nV c).length:=by rw[Py];exact hi
   have e1:=fq c i KI;have e2:=zh8 c i KI;rw[<-e1,<-e2];have hm:=aX KI;generalize(nV c)[i]=p at hm;simp only[nV,bJ,bF]at hm;have hnl:(dW c).length=c.bs.length:=aJ ..;rcases hm with(⟨b,hb,rfl⟩|⟨b,hb,rfl⟩)|⟨b,hb,rfl⟩
   ·have:=Pe c.bs b hb;simp only;omega
   ·have:=Bn c.ks b hb;simp only;omega
   ·have:=qP c.al b hb;simp only;omega
  have hg:∀i (hi:i<(eT c).length),T tZ 1 Fb [dM c,.int .i64 i] cH=some (.ret ⟨false,dG (lC c i)⟩,cH):=fun i hi=>zbq (S:=tZ) rfl c i hi (by omega) 0 cH;have Uu:∀i (hi:i<(eT c).length),T tZ 1 mJ [dG ns,dG (lC c i)] cH=some (.ret ⟨false,dG (ns++lC c i)⟩,cH):=fun i hi=>by
   have:=hgl i hi;exact Vq (S:=tZ) rfl ns (lC c i) (by omega) 0 cH
  have hrec:∀i (hi:i<(eT c).length),T tZ 1 Ff [gJ FL,dG (ns++lC c i),dM (eT c)[i]] cH=some (.ret ⟨false,.bool (!A Rt (eT c)[i] (ns++lC c i))⟩,cH):=fun i hi=>by
   have hlt:=Vl c _ (aX hi);have:=hgl i hi;exact zu (S:=tZ) rfl _ _ (ih _ (by omega) (eT c)[i] _ rfl (by rw[aF];omega)) 0 cH
  have hf:∀i (hi:i<c.al.length),T tZ 1 Qv [gJ FL,.str c.al[i].1.name,.int .i64 c.al[i].1.vars.length] cH=some (.ret ⟨false,.bool (rB FL c.al[i].1.name c.al[i].1.vars.length)⟩,cH):=fun i hi=>zbp (S:=tZ) rfl FL _ _ (by decide) 0 cH;have hl0:=A7 (body:=exec (T tZ 1) (c.size+1) none Ss) (Iy ns c) c.al (fun a=>wP a.1) _ Xd 0 cH (fun i hi=>zdqb ns c i hi (by omega) (hf i hi)) (zjvb ns c) c.al [] (c.size+1) rfl (by omega)
  have hl1:=A7 (body:=exec (T tZ 1) (c.size+1) none Xq) (Nu ns c) (nV c) (fun p=>!A Rt p.1 (ns++p.2)) _ Xd 2 cH (fun i hi=>by
   have hi2:i<(eT c).length:=by rw[<-Py];exact hi
   have:=zg6b (C:=T tZ 1) (n:=c.size+1) (O:=cH) ns c i hi2 (by omega) _ (hg i hi2) (Uu i hi2) (hrec i hi2);rw[<-fq c i hi,<-zh8 c i hi]at this;exact this) (by rw[Py];exact zjxb ns c) (nV c) [] (c.size+1) rfl (by rw[Py];omega)
  have hany:((nV c).any fun p=>!A Rt p.1 (ns++p.2))=!((nV c).all fun p=>A Rt p.1 (ns++p.2)):=(by rw[<-ah];cases(nV c).any fun p=>!A Rt p.1 (ns++p.2)<;>rfl);rw[hany]at hl1;rw[F6];unfold Rt at *
  generalize((nV c).all fun p=>A (fun c ns=>!((((c.f==1)&&!ns.any (·==c.s))&&!(dW c).any (·==c.s))||((c.f==2)&&!rB FL c.s (-1)))&&!(c.al.any fun a=>wP a.1)) p.1 (ns++p.2))=ap at hl1 ⊢;generalize(c.al.any fun a=>wP a.1)=an at hl0 ⊢;have en:(c.bs.map Prod.fst)=dW c:=rfl;rw[en]at h4 h5;simp only[Iy,bC,iG,aH]at hl0;simp only[Nu,bC,iG,aH]at hl1;unfold Xd at hl0 hl1;generalize ns.any (·==c.s)=q1 at *
  generalize(dW c).any (·==c.s)=q2 at *
  generalize rB FL c.s (-1)=q3 at *
  simp only[eO c,eX]at h3 h4;have done:∀{bad:Bool},(((((c.f==1)&&!q1)&&!q2)||((c.f==2)&&!q3))=bad)->nA Ra (fun _ _ _=>none) yA 0 (exec (T tZ 1) (c.size+1) none yA.body (mX [gJ FL,dG ns,dM c]) cH)=some (.ret ⟨false,.bool (!((!bad&&!an)&&ap))⟩,cH):=fun{bad} hbad=>by
   cases an with
   |true =>
    rw[dQ]at hl0;cases e1:c.f==1 with
    |true =>
     have e2:(c.f==2)=false:=by
      have:c.f=1:=by simpa using e1
      rw[this];rfl
     rw[e1,e2]at hbad;cases q1<;>cases q2<;>subst hbad<;>simp only[yA,sA,seval,kn,eO c,eX,h1,h2,h4,h5,e1,e2,hl0]
    |false =>
     cases e2:c.f==2 with
     |true =>rw[e1,e2]at hbad;cases q3<;>subst hbad<;>simp only[yA,sA,seval,kn,eO c,eX,h1,h2,e1,e2,hl0]
     |false =>rw[e1,e2]at hbad;subst hbad;simp only[yA,sA,seval,kn,eO c,eX,h1,h2,e1,e2,hl0]
   |false =>
    rw[dX]at hl0;cases ap with
    |true =>
     rw[bZ,dX]at hl1;cases e1:c.f==1 with
     |true =>
      have e2:(c.f==2)=false:=by
       have:c.f=1:=by simpa using e1
       rw[this];rfl
      rw[e1,e2]at hbad;cases q1<;>cases q2<;>subst hbad<;>simp only[yA,sA,seval,kn,eO c,eX,h1,h2,h3,h4,h5,e1,e2,hl0,hl1]
     |false =>
      cases e2:c.f==2 with
      |true =>rw[e1,e2]at hbad;cases q3<;>subst hbad<;>simp only[yA,sA,seval,kn,eO c,eX,h1,h2,h3,e1,e2,hl0,hl1]
      |false =>rw[e1,e2]at hbad;subst hbad;simp only[yA,sA,seval,kn,eO c,eX,h1,h2,h3,e1,e2,hl0,hl1]
    |false =>
     rw[cC,dQ]at hl1;cases e1:c.f==1 with
     |true =>
      have e2:(c.f==2)=false:=by
       have:c.f=1:=by simpa using e1
       rw[this];rfl
      rw[e1,e2]at hbad;cases q1<;>cases q2<;>subst hbad<;>simp only[yA,sA,seval,kn,eO c,eX,h1,h2,h3,h4,h5,e1,e2,hl0,hl1]
     |false =>
      cases e2:c.f==2 with
      |true =>rw[e1,e2]at hbad;cases q3<;>subst hbad<;>simp only[yA,sA,seval,kn,eO c,eX,h1,h2,h3,e1,e2,hl0,hl1]
      |false =>rw[e1,e2]at hbad;subst hbad;simp only[yA,sA,seval,kn,eO c,eX,h1,h2,h3,e1,e2,hl0,hl1]
  exact done rfl
end Go.Fu.X
