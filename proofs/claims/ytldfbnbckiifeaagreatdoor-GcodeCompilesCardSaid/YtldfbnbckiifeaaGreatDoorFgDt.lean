/- A part of the proof. -/
import Derived.Test.YtldfbnbckiifeaaGreatDoorFgDo
set_option maxHeartbeats 4000000
set_option linter.all false
namespace Go.Fu
open Go Go.Mx
set_option maxRecDepth 10000
theorem iH.to{O O1 O':Store}{p a m a' m':Nat}(h:iH O O1)(k:iD p a m a' m' O1 O'):iD p a m a' m' O O':=(h.Oc p a m).trans k
theorem zfu{c:Co}(h:c.size<100000000):∀a∈c.al,a.1.vars.length<100000000:=fun a ha=>by
 have:=qP c.al a ha;have:=jD c;omega
theorem rT.Oc{st:Bool}{p a eb ea m a' m' oQ:Nat}{O O':Store}(h:rT (VX st p eb a ea) (VX st p eb a' oQ) m m' O O'){cH:Store}(h0:iH cH O)(Og:p≠a')(he:cH.next<=eb/\cH.next<=ea):iD p a m a' m' cH O':=by
 have hn:=h0.nx;refine⟨Nat.le_trans h0.nx h.nx,fun j hj h1 h2=>?_,fun j hj=>?_,fun j hj hm=>?_,?_,?_⟩
 ·rw[h.ob j (by omega) (fun e=>by rcases e with e|e|⟨_,e|e⟩<;>omega),h0.ob j hj]
 ·rw[h.ty j (by omega),h0.ty j hj]
 ·rw[h.ot j (by omega) hm,h0.ot j hj]
 ·rcases h.fv a' (.inr (.inl rfl))with(e|e|⟨_,e|e⟩)|e
  ·exact absurd e.symm Og
  ·exact .inl e
  ·exact .inr (by omega)
  ·exact .inr (by omega)
  ·exact .inr (by omega)
 ·rcases h.fm with e|e
  ·exact .inl e
  ·exact .inr (by omega)
theorem zea(st:Bool)(body:Co->At->Int->List In->List In)(M:At)(d:Int):∀(l:List (Hd×Co))(s:List In×List Nat),(iY st body M d l s).1.2.length<=s.2.length+l.length
 |[],s=>aM _
 |a::l,s=>by
  have h0:(lX st body M d a s).2.length<=s.2.length+1:=(by unfold lX;cases st<;>simp only[dQ,dX,aF,aG,aH]<;>omega);have h1:=zea st body M d l (lX st body M d a s);unfold iY;cases a.1.form==3<;>simp only[dQ,dX,aG]<;>omega
theorem zbqb(ea:Nat)(es:List (Nat×Nat×Nat)):lenOf (uW ea es)=some es.length:=by cases es<;>rfl
theorem zcf{B:Nat}:∀(n:Nat)(c:Co),c.size<=n->c.size<40000000->Fl B false c->yN Fa c (gU n c):=by
 intro n;induction n with
 |zero=>intro c h;have:=lT c;omega
 |succ n ih =>
  intro c hn hsz hf O p a m L M d h hl;have hp:=h.ca.pn;have ha:=h.ca.an;have hse:=jD c;have hU:=mH c;have hon:=kZ c;have AA:L.length<100000000:=by have:=Bg (n+1) c M d L;omega
  obtain⟨O1,e1⟩:∃O1,O1=GA O Ae [⟨false,.ptr p 0⟩]:=⟨_,rfl⟩;have n1:O1.next=O.next+1:=by rw[e1,nO]
  have fA:iH O O1:=by rw[e1];exact iH.ga
  have h1:=h.fa fA;have x1:dC O1.dE O.next=some [⟨false,.ptr p 0⟩]:=by rw[e1,pA]
  have hbx:Bx O1 p a [(O.next,[⟨false,.ptr p 0⟩])]:=fun q hq=>by
   rw[bP]at hq;subst hq;exact⟨x1,by show O.next<_;omega,by show O.next≠p;omega,by show O.next≠a;omega⟩
  have plain:(c.f=1\/c.f=2\/c.f=3\/c.f=4)->Ri Fa [.ptr p 0,dM c,.int .i64 d] O p a m (gU (n+1) c M d L) M:=fun iZ=>by
   have e8:(c.f==8)=false:=beq_false_of_ne (by omega);have e10:(c.f==10)=false:=beq_false_of_ne (by omega);have e11:(c.f==11)=false:=beq_false_of_ne (by omega);have e9:(c.f==9)=false:=beq_false_of_ne (by omega);unfold gU at hl ⊢;rw[e8,e10,e11,e9,dX,dX,dX,dX]at hl ⊢;have hm:=tG c.size c M d L;simp only[aF,aG,aH]at hl;obtain⟨O2,a2,m2,⟨k2,w2⟩,c2,f2⟩:=NQ c.size c false (aM _) (by omega) hf (.inr iZ) O1 p a m L M d h1 (by omega);obtain⟨O3,w3,c3,f3⟩:=sV c2 (by omega) Hr 0;refine⟨O3,_,_,Ev.of (k2+1) fun k hk=>?_,c3,fA.to (f2.trans f3)⟩;obtain⟨k,rfl⟩:∃j,k=j+1:=⟨k-1,by omega⟩;rw[fW (af:=Cm) rfl rfl rfl];have w2:=w2 (k+1) (by omega);have w3:=w3 k;have x2:=(hbx.keep f2 _ (bP.2 rfl)).1;rw[hU]at w2;simp only[Hr]at w3;simp only[Cm,sA,Nat.reduceAdd,Nat.reduceBEq,kn,fP,mB,hU,<-e1,e8,e10,e11,e9,x1,w2,x2,w3]
  rcases ZB hf with iZ|⟨iZ,_⟩|⟨iZ,b1,hks,Jg,hbs⟩|⟨_,iZ|⟨iZ,a1,b1,hks,hfa,Jg⟩|⟨iZ,x,hks,hfx,hal⟩⟩
  ·exact plain (by omega)
  ·exact plain (by omega)
  ·have e8:(c.f==8)=true:=by rw[iZ];rfl
   have hz1:fV c.ks=b1.size+0:=by rw[hks];rfl
   have hbl:=mY c.bs;unfold gU at hl ⊢;rw[e8,dQ]at hl ⊢;simp only[aF,aG,aH]at hl
   obtain⟨O2,a2,m2,⟨k2,w2⟩,c2,f2⟩:=dz (d:=d) (M:=M) (lz:=fun b=>kA b.size b) (go:=gU n) (g:=Fa) hks (by omega) (fun b hb=>by
    have:=xB c.bs b hb;exact NQ _ b.2 true (aM _) (by omega) (hbs b hb) (.inl rfl)) (fun b _=>tG _ b.2) rfl (ih b1 (by omega) (by omega) Jg) (Bg n b1) h1 (by omega)
   obtain⟨O3,w3,c3,f3⟩:=sV c2 (by omega) lU c.bs.length;refine⟨O3,_,_,Ev.of (k2+1) fun k hk=>?_,c3,fA.to (f2.trans f3)⟩;obtain⟨k,rfl⟩:∃j,k=j+1:=⟨k-1,by omega⟩;rw[fW (af:=Cm) rfl rfl rfl];have w2:=w2 (k+1) (by omega);have w3:=w3 k;have x2:=(hbx.keep f2 _ (bP.2 rfl)).1;have hln:=PD c;rw[hU]at w2;simp only[pF]at w2;simp only[lU]at w3;simp only[Cm,sA,Nat.reduceAdd,Nat.reduceBEq,kn,fP,mB,hU,<-e1,e8,x1,w2,x2,hln,w3]
  ·have e8:(c.f==8)=false:=by rw[iZ];rfl
   have e10:(c.f==10)=false:=by rw[iZ];rfl
   have e11:(c.f==11)=true:=by rw[iZ];rfl
   unfold gU at hl ⊢;rw[e8,e10,e11,dX,dX,dQ]at hl ⊢;obtain⟨O3,w3,c3,f3⟩:=sV h1 (by omega) mO 0;refine⟨O3,_,_,Ev.of 1 fun k hk=>?_,c3,fA.to f3⟩;obtain⟨k,rfl⟩:∃j,k=j+1:=⟨k-1,by omega⟩;rw[fW (af:=Cm) rfl rfl rfl];have w3:=w3 k;simp only[mO]at w3;simp only[Cm,sA,Nat.reduceAdd,Nat.reduceBEq,kn,fP,mB,hU,<-e1,e8,e10,e11,x1,w3]
  ·have e8:(c.f==8)=false:=by rw[iZ];rfl
   have e10:(c.f==10)=true:=by rw[iZ];rfl
   have k0:jX c 0=a1:=by simp[jX,hks]
   have k1:jX c 1=b1:=by simp[jX,hks]
   unfold gU at hl ⊢;rw[e8,e10,dX,dQ,k0,k1]at hl ⊢;have hz1:fV c.ks=a1.size+(b1.size+0):=by rw[hks];rfl
   have q1:=Bg n a1 M d L;have q2:=Bg n b1 M (fQ (d+1)) (gU n a1 M d L);simp only[aF,aG,aH]at hl;obtain⟨O2,a2,m2,⟨k2,w2⟩,c2,f2⟩:=ih a1 (by omega) (by omega) hfa O1 p a m L M d h1 (by omega);obtain⟨O3,a3,m3,⟨k3,w3⟩,c3,f3⟩:=ih b1 (by omega) (by omega) Jg O2 p a2 m2 _ M (fQ (d+1)) c2 (by omega);obtain⟨O4,e4⟩:∃O4,O4=GM O3 (.map Tu 6):=⟨_,rfl⟩;have c4:CS O4 p a3 m3 (gU n b1 M (fQ (d+1)) (gU n a1 M d L)) M:=by rw[e4];exact c3.gm
   have f4:iD p a3 m3 a3 m3 O3 O4:=by rw[e4];exact iD.gm
   obtain⟨O5,w5,c5,f5⟩:=sV c4 (by omega) (rF c.s) 0;refine⟨O5,_,_,Ev.of (max k2 k3+1) fun k hk=>?_,c5,fA.to (((f2.trans f3).trans f4).trans f5)⟩;obtain⟨k,rfl⟩:∃j,k=j+1:=⟨k-1,by omega⟩;rw[fW (af:=Cm) rfl rfl rfl];have w2:=w2 (k+1) (by omega);have w3:=w3 (k+1) (by omega);have w5:=w5 k;have b2:=hbx.keep f2;have b3:=b2.keep f3;have x2:=(b2 _ (bP.2 rfl)).1;have x3:=(b3 _ (bP.2 rfl)).1;have x4:=((b3.keep f4) _ (bP.2 rfl)).1;have i0:=G6 hks 0 (by simp);have i1:=G6 hks 1 (by simp);simp only[List.getElem_cons_zero,List.getElem_cons_succ]at i0 i1;have g0:=Ov a1;have g1:=Ov b1;have l0:=sX a1;have l1:=sX b1;have ho:=zf9b k O3;rw[<-e4]at ho;have hmo:Cb O4.dP (.map O3.next)=some Tu:=by rw[e4];exact zet
   obtain⟨r,hr1,hr2⟩:=ze0 c.s;simp only[fQ]at w3;simp only[Cm,sA,Nat.reduceAdd,Nat.reduceBEq,kn,fP,mB,hU,<-e1,e8,e10,x1,i0,i1,g0,g1,l0,l1,w2,x2,w3,x3,ho,WZ,pN,x4,BL,hmo,tW,hr1,hr2,w5]
  ·have e8:(c.f==8)=false:=by rw[iZ];rfl
   have e10:(c.f==10)=false:=by rw[iZ];rfl
   have e11:(c.f==11)=false:=by rw[iZ];rfl
   have e9:(c.f==9)=true:=by rw[iZ];rfl
   have k0:jX c 0=x:=by simp[jX,hks]
   unfold gU at hl ⊢;rw[e8,e10,e11,e9,dX,dX,dX,dQ,k0]at hl ⊢;rw[x8]at hl;have hz1:fV c.ks=x.size+0:=by rw[hks];rfl
   have hala:=pY c.al;obtain⟨O2,e2⟩:∃O2,O2=GA O1 zkh [⟨false,.dN⟩]:=⟨_,rfl⟩;have n2:O2.next=O.next+2:=by rw[e2,nO,n1]
   have f12:iH O1 O2:=by rw[e2];exact iH.ga
   have x2:dC O2.dE O.next=some [⟨false,.ptr p 0⟩]:=by rw[e2,nP (by omega),x1]
   have b2:dC O2.dE (O.next+1)=some [⟨false,.dN⟩]:=by rw[e2,<-n1,pA]
   have hke:KE O2 p a (O.next+1) (O.next+1) []:=⟨b2,fun e=>absurd rfl e,fun q hq=>(by cases hq),⟨by omega,by omega,by omega,by omega,fun e=>absurd rfl e,by omega,by omega⟩⟩;have hxb:sO O2 (VX true p (O.next+1) a (O.next+1)) [(O.next,[⟨false,.ptr p 0⟩])]:=fun q hq=>by
    rw[bP]at hq;subst hq;exact⟨x2,by show O.next<_;omega,fun e=>by rcases e with e|e|⟨_,e|e⟩<;>simp only at e<;>omega⟩
   have hcs:=zcv (gU n) M d c.al (gU n x M d L,[]) (fun a _=>Bg n a.2) (fun e he=>(by cases he));have hcc:=zea true (gU n) M d c.al (gU n x M d L,[])
   obtain⟨O3,a3,m3,wy,KA,⟨k3,w3⟩,c3,k3',q3,f3⟩:=MN' true (body:=gU n) (g:=Fa) rfl c (by omega) (fun a ha=>by
     have:=qP c.al a ha;exact ih a.2 (by omega) (by omega) (hal a ha)) (fun a _=>Bg n a.2) (zfu (by omega)) hks (ih x (by omega) (by omega) hfx) (h1.fa f12) ⟨fun _=>hke,fun _=>rfl⟩ hxb hl
   have hKE:=k3'.1 rfl;rw[<-q3]at hcs hcc;rw[<-q3];generalize hres:wG true (iY true (gU n) M d c.al (gU n x M d L,[])).2 (iY true (gU n) M d c.al (gU n x M d L,[])).1.1=R at *
   have hmo:=MS true (iY true (gU n) M d c.al (gU n x M d L,[])).2 (iY true (gU n) M d c.al (gU n x M d L,[])).1.1;rw[hres]at hmo;rw[aJ]at hcc;simp only[aH,aN]at hcc;obtain⟨O4,w4,c4,f4⟩:=zgu (es:=KA) (by omega) KA [] R O3 rfl c3 hKE (fun q hq=>aP (hcs q.1 (List.mem_map_of_mem hq)) hmo);have fall:=(f3.trans (f4.v true (O.next+1) wy)).Oc (fA.trans f12) c4.ca.pa ⟨by omega,by omega⟩;refine⟨O4,_,_,Ev.of (k3+KA.length+1) fun k hk=>?_,c4,fall⟩;rw[fW (af:=Cm) rfl rfl rfl];have w3:=w3 k (by omega);have w4:=w4 k k (by omega) (by omega);have hb3:=hKE.box;have hlf:=zbqb wy KA;rw[hU]at w3;simp only[pF,rG,X8,dQ]at w3;simp only[Ys,aH,iG]at w4;simp only[Cm,sA,Nat.reduceAdd,Nat.reduceBEq,kn,fP,mB,hU,<-e1,n1,<-e2,e8,e10,e11,e9,x2,w3,hb3,hlf,w4]
theorem OV(d:Int)(L:List In):(Vb d L).length=L.length+3:=by unfold Vb;simp only[aF,aG,aH]
theorem DF:∀(n:Nat)(c:Co),tA (lL n c)
 |0,c=>fun M d L=>aM _
 |n+1,c=>fun M d L=>by
  have h1:=MX (lz:=fun b=>kA b.size b) (go:=lL n) c (fun b _=>tG _ b.2) (DF n (jX c 0)) M d L;have h2:=Bg n (jX c 0) M d L;have h4:=BO false M d c.al (gU n (jX c 0) M d L,[]) (fun a _=>DF n a.2);have h5:=MS false (iY false (lL n) M d c.al (gU n (jX c 0) M d L,[])).2 (iY false (lL n) M d c.al (gU n (jX c 0) M d L,[])).1.1;have h6:=tG c.size c M d L;have h7:=Bg (n+1) c M d L;have h8:=OV d (gU (n+1) c M d L);have h9:=OV d (kA c.size c M d L);simp only at h4;unfold lL;cases c.f==8<;>cases c.f==10<;>cases c.f==11<;>cases c.f==9<;>simp only[dQ,dX,aF,aG,aH]<;>omega
theorem zfm{O:Store}{p a m:Nat}{L:List In}{M:At}(h:CS O p a m L M)(hl:L.length<100000000)(d:Int):∃O1 O2 O3,(∀n,W SD (n+1) mI [.ptr p 0,.str nJ,.int .i64 d] O=some (.ret ⟨false,.fN []⟩,O1))/\(∀n,W SD (n+1) mI [.ptr p 0,.str kT,.int .i64 d] O1=some (.ret ⟨false,.fN []⟩,O2)) /\
  (∀n,W SD (n+1) mI [.ptr p 0,.str yX,.int .i64 0] O2=some (.ret ⟨false,.fN []⟩,O3))/\∃a1 a3,iD p a m a1 m O O1/\(∃a2,iD p a m a2 m O O2)/\CS O3 p a3 m (Vb d L) M/\iD p a m a3 m O O3:=by
 obtain⟨O1,h1,c1,f1⟩:=sV h (by omega) nJ d;obtain⟨O2,h2,c2,f2⟩:=sV c1 (by simp;omega) kT d;obtain⟨O3,h3,c3,f3⟩:=sV c2 (by simp;omega) yX 0;exact⟨O1,O2,O3,h1,h2,h3,_,_,f1,⟨_,f1.trans f2⟩,c3,(f1.trans f2).trans f3⟩
theorem zc8b{B:Nat}:∀(n:Nat)(c:Co),c.size<=n->c.size<40000000->Fl B false c->yN Xw c (lL n c):=by
 intro n;induction n with
 |zero=>intro c h;have:=lT c;omega
 |succ n ih =>
  intro c hn hsz hf O p a m L M d h hl;have hp:=h.ca.pn;have ha:=h.ca.an;have hse:=jD c;have hU:=mH c;have hon:=kZ c;have AA:L.length<100000000:=by have:=DF (n+1) c M d L;omega
  obtain⟨O1,e1⟩:∃O1,O1=GA O Ae [⟨false,.ptr p 0⟩]:=⟨_,rfl⟩;have n1:O1.next=O.next+1:=by rw[e1,nO]
  have fA:iH O O1:=by rw[e1];exact iH.ga
  have h1:=h.fa fA;have x1:dC O1.dE O.next=some [⟨false,.ptr p 0⟩]:=by rw[e1,pA]
  have hbx:Bx O1 p a [(O.next,[⟨false,.ptr p 0⟩])]:=fun q hq=>by
   rw[bP]at hq;subst hq;exact⟨x1,by show O.next<_;omega,by show O.next≠p;omega,by show O.next≠a;omega⟩
  have plain:(c.f=1\/c.f=2\/c.f=3\/c.f=4)->Ri Xw [.ptr p 0,dM c,.int .i64 d] O p a m (lL (n+1) c M d L) M:=fun iZ=>by
   have e8:(c.f==8)=false:=beq_false_of_ne (by omega);have e10:(c.f==10)=false:=beq_false_of_ne (by omega);have e11:(c.f==11)=false:=beq_false_of_ne (by omega);have e9:(c.f==9)=false:=beq_false_of_ne (by omega);unfold lL at hl ⊢;rw[e8,e10,e11,e9,dX,dX,dX,dX]at hl ⊢;rw[OV]at hl;obtain⟨O2,a2,m2,⟨k2,w2⟩,c2,f2⟩:=NQ c.size c false (aM _) (by omega) hf (.inr iZ) O1 p a m L M d h1 (by omega);obtain⟨O3,O4,O5,w3,w4,w5,a3,a5,f3,⟨a4,f4⟩,c5,f5⟩:=zfm c2 (by omega) d;refine⟨O5,_,_,Ev.of (k2+1) fun k hk=>?_,c5,fA.to (f2.trans f5)⟩;obtain⟨k,rfl⟩:∃j,k=j+1:=⟨k-1,by omega⟩;rw[fW (af:=Da) rfl rfl rfl];have w2:=w2 (k+1) (by omega);have w3:=w3 k;have w4:=w4 k;have w5:=w5 k;have b2:=hbx.keep f2;have x2:=(b2 _ (bP.2 rfl)).1;have x3:=(b2.keep f3 _ (bP.2 rfl)).1;have x4:=(b2.keep f4 _ (bP.2 rfl)).1;rw[hU]at w2;simp only[nJ]at w3;simp only[kT]at w4;simp only[yX]at w5;simp only[Da,sA,Nat.reduceAdd,Nat.reduceBEq,kn,fP,mB,hU,<-e1,e8,e10,e11,e9,x1,w2,x2,w3,x3,w4,x4,w5]
  rcases ZB hf with iZ|⟨iZ,_⟩|⟨iZ,b1,hks,Jg,hbs⟩|⟨_,iZ|⟨iZ,a1,b1,hks,hfa,Jg⟩|⟨iZ,x,hks,hfx,hal⟩⟩
  ·exact plain (by omega)
  ·exact plain (by omega)
  ·have e8:(c.f==8)=true:=by rw[iZ];rfl
   have hz1:fV c.ks=b1.size+0:=by rw[hks];rfl
   have hbl:=mY c.bs;unfold lL at hl ⊢;rw[e8,dQ]at hl ⊢
   obtain⟨O2,a2,m2,⟨k2,w2⟩,c2,f2⟩:=dz (d:=d) (M:=M) (lz:=fun b=>kA b.size b) (go:=lL n) (g:=Xw) hks (by omega) (fun b hb=>by
    have:=xB c.bs b hb;exact NQ _ b.2 true (aM _) (by omega) (hbs b hb) (.inl rfl)) (fun b _=>tG _ b.2) rfl (ih b1 (by omega) (by omega) Jg) (DF n b1) h1 (by omega)
   refine⟨O2,_,_,Ev.of k2 fun k hk=>?_,c2,fA.to f2⟩;rw[fW (af:=Da) rfl rfl rfl];have w2:=w2 k (by omega);rw[hU]at w2;simp only[pF]at w2;simp only[Da,sA,Nat.reduceAdd,Nat.reduceBEq,kn,fP,mB,hU,<-e1,e8,x1,w2]
  ·have e8:(c.f==8)=false:=by rw[iZ];rfl
   have e11:(c.f==11)=true:=by rw[iZ];rfl
   unfold lL at hl ⊢;rw[e8,e11,dX,dQ]at hl ⊢;obtain⟨O3,w3,c3,f3⟩:=sV h1 (by omega) mO 0;refine⟨O3,_,_,Ev.of 1 fun k hk=>?_,c3,fA.to f3⟩;obtain⟨k,rfl⟩:∃j,k=j+1:=⟨k-1,by omega⟩;rw[fW (af:=Da) rfl rfl rfl];have w3:=w3 k;simp only[mO]at w3;simp only[Da,sA,Nat.reduceAdd,Nat.reduceBEq,kn,fP,mB,hU,<-e1,e8,e11,x1,w3]
  ·have e8:(c.f==8)=false:=by rw[iZ];rfl
   have e10:(c.f==10)=true:=by rw[iZ];rfl
   have e11:(c.f==11)=false:=by rw[iZ];rfl
   have e9:(c.f==9)=false:=by rw[iZ];rfl
   unfold lL at hl ⊢;rw[e8,e11,e9,e10,dX,dX,dX,dQ]at hl ⊢;rw[OV]at hl;obtain⟨O2,a2,m2,⟨k2,w2⟩,c2,f2⟩:=zcf (n+1) c hn hsz hf O1 p a m L M d h1 (by omega);obtain⟨O3,O4,O5,w3,w4,w5,a3,a5,f3,⟨a4,f4⟩,c5,f5⟩:=zfm c2 (by omega) d;refine⟨O5,_,_,Ev.of (k2+1) fun k hk=>?_,c5,fA.to (f2.trans f5)⟩;obtain⟨k,rfl⟩:∃j,k=j+1:=⟨k-1,by omega⟩;rw[fW (af:=Da) rfl rfl rfl];have w2:=w2 (k+1) (by omega);have w3:=w3 k;have w4:=w4 k;have w5:=w5 k;have b2:=hbx.keep f2;have x2:=(b2 _ (bP.2 rfl)).1;have x3:=(b2.keep f3 _ (bP.2 rfl)).1;have x4:=(b2.keep f4 _ (bP.2 rfl)).1;rw[hU]at w2;simp only[nJ]at w3;simp only[kT]at w4;simp only[yX]at w5;simp only[Da,sA,Nat.reduceAdd,Nat.reduceBEq,kn,fP,mB,hU,<-e1,e8,e10,e11,e9,x1,w2,x2,w3,x3,w4,x4,w5]
  ·have e8:(c.f==8)=false:=by rw[iZ];rfl
   have e11:(c.f==11)=false:=by rw[iZ];rfl
   have e9:(c.f==9)=true:=by rw[iZ];rfl
   have k0:jX c 0=x:=by simp[jX,hks]
   unfold lL at hl ⊢;rw[e8,e11,e9,dX,dX,dQ,k0]at hl ⊢;have hz1:fV c.ks=x.size+0:=by rw[hks];rfl
   have hala:=pY c.al;have hxb:sO O1 (VX false p O.next a O.next) [(O.next,[⟨false,.ptr p 0⟩])]:=fun q hq=>by
    rw[bP]at hq;subst hq;exact⟨x1,by show O.next<_;omega,fun e=>by rcases e with e|e|⟨e,_⟩<;>first|(cases e;done)|(simp only at e;omega)⟩
   obtain⟨O3,a3,m3,wy,KA,⟨k3,w3⟩,c3,k3',q3,f3⟩:=MN' false (body:=lL n) (g:=Xw) rfl c (by omega) (fun a ha=>by
     have:=qP c.al a ha;exact ih a.2 (by omega) (by omega) (hal a ha)) (fun a _=>DF n a.2) (zfu (by omega)) hks (zcf n x (by omega) (by omega) hfx) h1 ⟨fun e=>(by cases e),fun _=>rfl⟩ hxb hl
   have Z9:rT (VX true p O.next a O.next) (VX true p O.next a3 O.next) m m3 O1 O3:=⟨f3.nx,fun j h1 h2=>f3.ob j h1 fun e=>h2 (by rcases e with e|e|⟨e,_⟩<;>first|(cases e;done)|exact .inl e|exact .inr (.inl e)),f3.ty,f3.ot,fun j hj=>by
    rcases hj with e|e|⟨_,e⟩
    ·exact .inl (.inl e)
    ·rcases f3.fv j (.inr (.inl e))with(e|e|⟨e,_⟩)|e
     ·exact .inl (.inl e)
     ·exact .inl (.inr (.inl e))
     ·cases e
     ·exact .inr e
    ·exact .inl (.inr (.inr ⟨rfl,e⟩)),f3.fm⟩
   refine⟨O3,_,_,Ev.of k3 fun k hk=>?_,c3,Z9.Oc fA c3.ca.pa ⟨aM _,aM _⟩⟩;rw[fW (af:=Da) rfl rfl rfl];have w3:=w3 k (by omega);rw[hU]at w3;simp only[pF,rG,X8,dX]at w3;simp only[Da,sA,Nat.reduceAdd,Nat.reduceBEq,kn,fP,mB,hU,<-e1,e8,e11,e9,x1,w3]
theorem zx4{B:Nat}(u:Su)(hf:Fl B false u.body)(hsz:u.body.size<40000000){O:Store}{p a m:Nat}{L:List In}{M:At}(h:CS O p a m L M){xb sb ob:Nat}{own:D}{k:Nat}(hown:lenOf own=some k)(h1:own.one=true)
  (hb:Bx O p a [(xb,[⟨false,.ptr p 0⟩]),(sb,(cU u).map Cell.of),(ob,[⟨false,own⟩])]) (hn:(lL u.body.size u.body M k L).length<50000000) :
  Ri GU [.ptr xb 0,.ptr sb 0,.ptr ob 0] O p a m (lL u.body.size u.body M k L) M:=by
 obtain⟨O1,a1,m1,⟨n1,e1⟩,c1,f1⟩:=zc8b u.body.size u.body (aM _) hsz hf O p a m L M k h hn;refine⟨O1,a1,m1,Ev.of n1 fun n hN=>?_,c1,f1⟩;rw[fW (af:=PZ) rfl rfl rfl];have q0:=(hb (xb,[⟨false,.ptr p 0⟩]) (by simp)).1;have q1:=(hb (sb,(cU u).map Cell.of) (by simp)).1;have q2:=(hb (ob,[⟨false,own⟩]) (by simp)).1;have hev:=e1 n hN;rw[mH]at hev;have xq:cU u=[.str u.name,dG u.ps,.int .i64 u.body.f,.int .i64 u.body.n,.str u.body.s,.int .i64 0,.int .i64 0,.str [],.dN,kD u.body,bD u.body,aD u.body]:=rfl;rw[xq]at q1;simp only[aO,aZ,Cell.of]at q1;simp only[PZ,sA,Nat.reduceAdd,Nat.reduceBEq,kn,q0,q1,q2,hown,hev]
theorem zalb{O:Store}{p a:Nat}{md:D}{L:List In}(h:CA O p a md L):∃os,kR 40 (qS a L) O.dE=some (eM L,os):=by
 by_cases hL:L=[]
 ·subst hL;exact⟨O.dE,rfl⟩
 ·rw[DK _ _ hL]
  have hr:=Zz (k:=fE) (id:=a) (n:=39) (ds:=L.map dI) (os:=O.dE) (os':=gI O.dE a) (by rw[(h.arr hL).1,Ej]) rfl rfl (ER L) (fun d hd=>by
   obtain⟨x,_,rfl⟩:=bF.1 hd;rfl)
  rw[aJ]at hr;have hd:eM L=.list fE (L.map dI):=by
   cases L with
   |nil=>exact absurd rfl hL
   |cons a b=>rfl
  exact⟨_,by rw[hr,hd]⟩
theorem zbx(a:Nat)(L:List In):Cell.keeps ⟨false,qS a L⟩=false:=by cases L<;>rfl
theorem zx5{B:Nat}(u:Su)(hf:Fl B false u.body)(hsz:u.body.size<40000000)(hps:u.ps.length<100000000)(hn:(kH u).body.length<50000000):eW To [dU u] ⟨false,dD (kH u)⟩:=by
 have xq:cU u=[.str u.name,dG u.ps,.int .i64 u.body.f,.int .i64 u.body.n,.str u.body.s,.int .i64 0,.int .i64 0,.str [],.dN,kD u.body,bD u.body,aD u.body]:=rfl;obtain⟨O1,e1⟩:∃O1,O1=GA cH qp ((cU u).map Cell.of):=⟨_,rfl⟩;obtain⟨O2,e2⟩:∃O2,O2=GM O1 (.map [] 0):=⟨_,rfl⟩;obtain⟨O3,e3⟩:∃O3,O3=GA O2 X0 [⟨false,.dN⟩,⟨false,.map 1⟩]:=⟨_,rfl⟩;obtain⟨O4,e4⟩:∃O4,O4=GA O3 Ae [⟨false,.rR⟩]:=⟨_,rfl⟩;obtain⟨O5,e5⟩:∃O5,O5=SO O4 3 [⟨false,.ptr 2 0⟩]:=⟨_,rfl⟩;have n0:cH.next=0:=rfl;have n1:O1.next=1:=by rw[e1,nO];rfl
 have n2:O2.next=2:=by rw[e2,D5,n1]
 have n3:O3.next=3:=by rw[e3,nO,n2]
 have n4:O4.next=4:=by rw[e4,nO,n3]
 have n5:O5.next=4:=by rw[e5,oJ,n4]
 have s1:dC O1.dE 0=some ((cU u).map Cell.of):=by rw[e1];exact pA (O:=cH)
 have s5:dC O5.dE 0=some ((cU u).map Cell.of):=by rw[e5,mS (by decide),e4,nP (by omega),e3,nP (by omega),e2,zfq,s1]
 have x4:dC O4.dE 3=some [⟨false,.rR⟩]:=by rw[e4,<-n3,pA]
 have x5:dC O5.dE 3=some [⟨false,.ptr 2 0⟩]:=by rw[e5,rL]
 have p5:dC O5.dE 2=some [⟨false,.dN⟩,⟨false,.map 1⟩]:=by rw[e5,mS (by decide),e4,nP (by omega),e3,<-n2,pA]
 have m5:dC O5.dP 1=some (.map [] 0):=by rw[e5,Qb,e4,F7,e3,F7,e2,<-n1,OE]
 have c5:CS O5 2 1 1 [] Y5:=⟨⟨p5,fun e=>absurd rfl e,by decide,by omega,by omega⟩,⟨[],0,m5,fun _=>rfl⟩,by omega⟩;obtain⟨own,Od,Of,o1,o2,o3,o4,o5,o6,o7,o8,o9,KO⟩:=ze1 O5 2 1 (by omega) (by omega) u.ps hps;have hlo:=KO.len;rw[bV]at hlo;have hbx5:Bx O5 2 1 [(3,[⟨false,.ptr 2 0⟩]),(0,(cU u).map Cell.of)]:=fun q hq=>by
  simp only[aS,aK,or_false]at hq;rcases hq with rfl|rfl
  ·exact⟨x5,by show 3<_;omega,by decide,by decide⟩
  ·exact⟨s5,by show 0<_;omega,by show(0:Nat)≠2;decide,by show(0:Nat)≠1;decide⟩
 have zks:=hbx5.keep (o6.Oc 2 1 1);have hbx:Bx Of 2 1 [(3,[⟨false,.ptr 2 0⟩]),(0,(cU u).map Cell.of),(Od.next,[⟨false,own⟩])]:=fun q hq=>by
  simp only[aS,aK,or_false]at hq;rcases hq with rfl|rfl|rfl
  ·exact zks _ (by simp)
  ·exact zks _ (by simp)
  ·exact⟨o7,o9,by show Od.next≠2;omega,by show Od.next≠1;omega⟩
 obtain⟨O6,a6,m6,⟨k6,w6⟩,c6,f6⟩:=ZZ (S:=SD) rfl rfl rfl (c5.fa o6) KO (by rw[bV];omega) 0 (.fn (.func GU) [] [.ptr 3 0,.ptr 0 0,.ptr Od.next 0]) GU [] [.ptr 3 0,.ptr 0 0,.ptr Od.next 0] rfl rfl (kH u).body
  (fun τ cτ fτ=>by
   obtain⟨O',a',m',g1,g2,g3⟩:=zx4 u hf hsz cτ hlo o2 (hbx.keep fτ) hn;exact⟨O',a',m',_,g1,g2,g3⟩)
 have hb6:=hbx.keep f6;have s6:=(hb6 (0,(cU u).map Cell.of) (by simp)).1;have y6:=(hb6 (3,[⟨false,.ptr 2 0⟩]) (by simp)).1;have z6:=(hb6 (Od.next,[⟨false,own⟩]) (by simp)).1;have p6:=c6.ca.obj;obtain⟨os,hfz⟩:=zalb c6.ca;obtain⟨N,hN⟩:∃N,N=k6+u.ps.length+2:=⟨_,rfl⟩;have w6:=w6 (N+1) (by omega);have o1:=o1 N;have o5:=o5 N (by omega);obtain⟨Oe,ee⟩:∃Oe,Oe=GA Od rI [⟨false,.dN⟩]:=⟨_,rfl⟩;obtain⟨Og,eg⟩:∃Og,Og=SO Oe Od.next [⟨false,own⟩]:=⟨_,rfl⟩;rw[<-ee,<-eg]at o5;have VF:dC Oe.dE Od.next=some [⟨false,.dN⟩]:=by rw[ee,pA]
 have VG:dC Og.dE Od.next=some [⟨false,own⟩]:=by rw[eg,rL]
 have xf:=(hbx (3,[⟨false,.ptr 2 0⟩]) (by simp)).1;have hdu:dU u=.agg (cU u):=rfl;have hka:=zbx a6 (kH u).body;have hoa:=CY a6 (kH u).body;have Of:=zum a6 (kH u).body;have hok:=zfvb a6 (kH u).body;have hoI:(eM (kH u).body).one=true:=rX;refine uN (af:=KY) (n:=1) (O':={O6 with dE:=os}) (uH SD (N+1)) rfl rfl (by simp[fO,CX]) (zey _) ?_;have hnm:(kH u).name=u.name:=rfl;have har:(kH u).arity=(u.ps.length:Int):=rfl;have hdD:dD (kH u)=.agg [.str u.name,.int .i64 u.ps.length,eM (kH u).body]:=rfl;rw[xq]at hdu e1 s6 s5;simp only[aO,aZ,Cell.of]at e1 s6 s5;rw[hdD];have hfc:∀(s:Tx)(k:Int),Bj [⟨false,.str s⟩,⟨false,.int .i64 k⟩,⟨false,qS a6 (kH u).body⟩] O6.dE=some ([⟨false,.str s⟩,⟨false,.int .i64 k⟩,⟨false,eM (kH u).body⟩],os):=fun s k=>by
  have q1:kR 40 (.str s) O6.dE=some (.str s,O6.dE):=rfl;have q2:kR 40 (.int .i64 k) O6.dE=some (.int .i64 k,O6.dE):=rfl;have q3:Cell.keeps ⟨false,.str s⟩=false:=rfl;have q4:Cell.keeps ⟨false,.int .i64 k⟩=false:=rfl;simp only[Bj,q1,q2,q3,q4,hfz,hka,dH,eP]
 generalize kH u=cd at *
 have hon:=kZ u.body;have sQ:=lP u.ps;simp only[KY,sA,Nat.reduceAdd,Nat.reduceBEq,Nat.reduceLeDiff,kn,fP,mB,hdu,n0,<-e1,n1,<-e2,n2,<-e3,n3,<-e4,x4,<-e5,s5,o1,<-ee,VF,o2,o3,o4,<-eg,VG,o5,xf,o7,w6,s6,z6,hlo,y6,p6,hok,Of,Gv,tK,uI,hfc]
theorem WH:∀l:List Tx,cellsOf (l.map D.str)=iM l
 |[]=>rfl
 |y::r=>by rw[aO,cellsOf,WH r];rfl
theorem zaib(l:List Tx):jZ dY.sz (l.map D.str)=true:=Vk fun d hd=>by
 obtain⟨s,_,rfl⟩:=bF.1 hd;exact⟨rfl,rfl⟩
structure SA(O:Store)(id:Nat)(l:List Tx)(r:Nat):Prop where
 a:∃cs,dC O.dE id=some (iM l++cs)/\cs.length=r
 t:dC O.fH id=some ⟨dY.el,dY.sz⟩
theorem SA.app{O:Store}{id r:Nat}{l:List Tx}(h:SA O id l r)(m:List Tx)(hl:l.length+m.length<1000000000):∃O1,lR O dY 16 (.arr dY id 0 l.length) (m.map D.str)=some (.arr dY O.next 0 (l.length+m.length),O1)/\SA O1 O.next (l++m) 0:=by
 obtain⟨cs,h1,_⟩:=h.a;have ek:dY.same dY=true:=rfl;have e0:decide (l.length*dY.sz<=(iM l++cs).length)=true:=by simp[dY,Js]
 have e1:decide ((l.length+m.length)*16<=iN)=true:=decide_eq_true (show(l.length+m.length)*16<=1099511627776 by omega);have e2:decide (l.length+m.length<=iN)=true:=decide_eq_true (show l.length+m.length<=1099511627776 by omega);have ht:((iM l++cs).take (l.length*dY.sz)).map (fun c=>Cell.of c.d)++cellsOf (m.map D.str)=iM (l++m):=(by have:(iM l++cs).take (l.length*dY.sz)=iM l:=(by rw[show l.length*dY.sz=(iM l).length by simp[dY,Js]];exact List.take_left);rw[this,WH,iM,iM,iM,aU,cD];rfl);refine⟨fR {O with dE:=gI O.dE id} dY (iM (l++m)),?_,⟨⟨[],by simp only[fR,bQ];exact oO _ _ _,rfl⟩,oO _ _ _⟩⟩;simp only[lR,zaib,dQ,h1,h.t,dH,eP,ek,bW,aJ,e0,e1,e2,aY,ht]
theorem zb7:∀n:Nat,(Ce [.str []] n).length=n
 |0=>rfl
 |n+1=>by simp only[Ce,aO,aZ,aW,bG,aG,zb7 n]
theorem za6b(n k:Nat)(O:Store)(hk:k<1000000000):W SD (n+1) qd [.dN,.int .i64 k] O=some (.ret ⟨false,dK (k==0) .dN (.arr dY O.next 0 0)⟩,dK (k==0) O (fR O dY (Ce [.str []] k))):=by
 rw[fW (af:=GD) rfl rfl rfl];have g1:¬((k:Int)<0):=by omega
 have w1:IntKind.i64.wrap (0-0)=0:=rfl;have w2:IntKind.i64.wrap ((k:Int)-0)=k:=by rw[lV (by omega) (by omega)];omega
 cases k with
 |zero =>have e:((0:Nat)==0)=true:=rfl;rw[e];simp only[GD,sA,Nat.reduceAdd,Nat.reduceBEq,Int.reduceLT,Int.reduceGT,kn,iG,w1]
 |succ k =>
  have e:((k+1:Nat)==0)=false:=rfl;have g2:(((k+1:Nat):Int)>0):=by omega
  have b1:decide (0<k+1)=true:=by simp
  have b2:decide ((k+1)*16<=iN)=true:=decide_eq_true (show(k+1)*16<=1099511627776 by omega);have b3:decide (k+1<=iN)=true:=decide_eq_true (show k+1<=1099511627776 by omega);rw[e];have hnat:D.int .i64 ((k+1:Nat):Int)=.int .i64 (.ofNat (k+1)):=rfl;have hs:xJ 1 D.dN 0 (some 0)=some .dN:=rfl;have hs2:xJ 1 (.arr dY O.next 0 (k+1)) 0 (some 0)=some (.arr dY O.next 0 0):=rfl;have b2':(k+1)*16<=iN:=of_decide_eq_true b2;have b3':k+1<=iN:=of_decide_eq_true b3;have hp:(0<k+1):=by omega
  have g3:((k:Int)+1>0):=by omega
  generalize hq:((k+1:Nat):Int)=q at *
  have hq2:q=.ofNat (k+1):=by rw[<-hq];rfl
  simp only[GD,sA,Nat.reduceAdd,Nat.reduceBEq,kn,g1,w1,w2,g2,iG,hs];subst hq2;simp only[sA,Nat.reduceBEq,kn,b2',b3',hp,hs2,iG]
def dd(a b:List Tx):D:=.list Dj [dG a,dG b]
section
variable{C:eV}{n:Nat}{O:Store}
def Rk(a b:List Tx)(acc i:Nat):Env:={slots:=[(0,⟨false,dd a b⟩),(3,⟨false,.int .i64 acc⟩),(9,⟨false,dd a b⟩),(10,⟨false,.int .i64 2⟩),(11,⟨false,.int .i64 i⟩)],dR:=[],boxes:=[],defers:=[]}
def Ll(a b:List Tx)(d:D)(i:Nat):Env:={slots:=[(6,⟨false,d⟩),(25,⟨false,dd a b⟩),(26,⟨false,.int .i64 2⟩),(27,⟨false,.int .i64 i⟩)],dR:=[],boxes:=[],defers:=[]}
theorem zeb(a b x:List Tx)(acc i:Nat)(hi:i<2)(hx:kU 1 (dd a b) i=some (.gC (dG x)))(hl:acc+x.length<1000000000):exec C n none Zm (Rk a b acc i) O=some (.normal,Rk a b (acc+x.length) (i+1),O):=by
 have hlt:((i:Int)<2):=by omega
 have w:=iE (i:=i) (by omega);have w2:IntKind.i64.wrap ((acc:Int)+x.length)=((acc+x.length:Nat):Int):=by rw[lV (by omega) (by omega)];omega
 have g:¬(((acc+x.length:Nat):Int)<0):=by omega
 have h1:=lP x;have h2:=lE x;simp only[Zm,Rk,sA,Nat.reduceBEq,kn,hlt,hx,h1,h2,w,w2,g]
theorem zd6b(a b:List Tx)(acc:Nat):exec C n none Zm (Rk a b acc 2) O=some (.exit 0,{slots:=[(0,⟨false,dd a b⟩),(3,⟨false,.int .i64 acc⟩),(9,⟨false,dd a b⟩),(10,⟨false,.int .i64 2⟩),(11,⟨false,.int .i64 2⟩),(12,⟨false,.bool false⟩)],dR:=[],boxes:=[],defers:=[]},O):=by
 have hlt:¬(((2:Nat):Int)<2):=by omega
 simp only[Zm,Rk,sA,Nat.reduceBEq,kn,hlt];rfl
theorem NJ(a b x:List Tx)(d d':D)(O':Store)(i:Nat)(hi:i<2)(hx:kU 1 (dd a b) i=some (.gC (dG x)))(ha:lR O dY 16 d (x.map D.str)=some (d',O')):exec C n none Vd (Ll a b d i) O=some (.normal,Ll a b d' (i+1),O'):=by
 have hlt:((i:Int)<2):=by omega
 have w:=iE (i:=i) (by omega);have h1:=lP x;have kE:nB O.dE (dG x)=some (x.map D.str):=by rw[dG,Ol]
 simp only[Vd,Ll,sA,Nat.reduceBEq,kn,fP,mB,hlt,hx,h1,kE,ha,w]
theorem zf1(a b:List Tx)(d:D):exec C n none Vd (Ll a b d 2) O=some (.exit 2,{slots:=[(6,⟨false,d⟩),(25,⟨false,dd a b⟩),(26,⟨false,.int .i64 2⟩),(27,⟨false,.int .i64 2⟩),(28,⟨false,.bool false⟩)],dR:=[],boxes:=[],defers:=[]},O):=by
 have hlt:¬(((2:Nat):Int)<2):=by omega
 simp only[Vd,Ll,sA,Nat.reduceBEq,kn,hlt];rfl
end
theorem zro(a b:List Tx)(hl:a.length+b.length<100000000):eW tB [dd a b] ⟨false,dG (a++b)⟩:=by
 have x0:kU 1 (dd a b) 0=some (.gC (dG a)):=rfl;have x1:kU 1 (dd a b) 1=some (.gC (dG b)):=rfl;have hlen:lenOf (dd a b)=some 2:=rfl;have l0:jI (exec (W SD 1) 3 none Zm) 3 (Rk a b 0 0) cH=_:=(rK (zeb a b a 0 0 (by omega) x0 (by omega))).trans ((rK (zeb a b b _ 1 (by omega) x1 (by omega))).trans (rW (zd6b a b _)));have hg:=za6b 0 (0+a.length+b.length) cH (by omega);have hn2:fO [dd a b]=true:=by simp[fO,iF,dd,jY]
 have z2:(((2:Nat):Int))=2:=rfl;have two:(([dG a,dG b]:List D).length:Int)=2:=rfl;by_cases hz:a.length+b.length=0
 ·have ha:a=[]:=aR.1 (by omega);have hb:b=[]:=aR.1 (by omega);subst ha hb;have e:dG []=.dN:=rfl;have ap:lR cH dY 16 .dN (([]:List Tx).map D.str)=some (.dN,cH):=rfl;have l1:jI (exec (W SD 1) 3 none Vd) 3 (Ll [] [] .dN 0) cH=_:=(rK (NJ [] [] [] .dN .dN cH 0 (by omega) x0 ap)).trans ((rK (NJ [] [] [] .dN .dN cH 1 (by omega) x1 ap)).trans (rW (zf1 [] [] .dN)));refine uN (af:=Zq) (n:=3) (O':=Store.trunc cH 0) (uH SD 1) rfl rfl hn2 rfl ?_;simp only[aH,Nat.add_zero,aN]at l0 hg;simp only[Rk,iG]at l0;simp only[Ll,iG]at l1;have hfz:kR 40 .dN cH.dE=some (.dN,cH.dE):=rfl;have hkp:Cell.keeps ⟨false,.dN⟩=false:=rfl;simp only[Zq,sA,Nat.reduceBEq,kn,hlen,z2,l0,e];rfl
 ·have ez:((0+a.length+b.length)==0)=false:=beq_false_of_ne (by omega);rw[ez]at hg;simp only[dX]at hg;obtain⟨O1,e1⟩:∃O1,O1=fR cH dY (Ce [.str []] (0+a.length+b.length)):=⟨_,rfl⟩;have s0:SA O1 0 [] (0+a.length+b.length):=⟨⟨_,by rw[e1];exact oO _ _ _,zb7 _⟩,by rw[e1];exact oO _ _ _⟩;obtain⟨O2,g2,s2⟩:=s0.app a (by simp;omega);obtain⟨O3,g3,s3⟩:=s2.app b (by simp;omega);simp only[aH,aN,bG]at g2 g3 s3 s2;rw[<-e1]at hg;have l1:jI (exec (W SD 1) 3 none Vd) 3 (Ll a b (.arr dY 0 0 0) 0) O1=_:=(rK (NJ a b a _ _ O2 0 (by omega) x0 g2)).trans ((rK (NJ a b b _ _ O3 1 (by omega) x1 g3)).trans (rW (zf1 a b _)));obtain⟨cs,h3,hc⟩:=s3.a;have hcs:cs=[]:=aR.1 hc;subst hcs;rw[bQ]at h3
  have hfz:=Zz (k:=dY) (id:=O2.next) (n:=39) (ds:=(a++b).map D.str) (os:=O3.dE) (os':=gI O3.dE O2.next) (by rw[h3,WH]) rfl rfl (fun d hd=>by
   obtain⟨x,_,rfl⟩:=bF.1 hd;exact⟨rfl,rfl⟩) (fun d hd=>by
   obtain⟨x,_,rfl⟩:=bF.1 hd;rfl)
  rw[aJ,aF]at hfz;have hne:a++b≠[]:=fun h=>hz (by have:=congrArg List.length h;simpa using this);have hds:dG (a++b)=.list dY ((a++b).map D.str):=by
   cases hab:a++b with
   |nil=>exact absurd hab hne
   |cons x r=>rfl
  refine uN (af:=Zq) (n:=3) (O':=Store.trunc {O3 with dE:=gI O3.dE O2.next} 0) (uH SD 1) rfl rfl hn2 (jY _) ?_;rw[hds];simp only[aN]at l0 hg;simp only[Rk,iG]at l0;simp only[Ll,iG]at l1;have hn0:cH.next=0:=rfl;rw[hn0]at hg;generalize(a++b).map D.str=ab at *
  have hkp:Cell.keeps ⟨false,.arr dY O2.next 0 (a.length+b.length)⟩=false:=rfl;simp only[Zq,sA,Nat.reduceBEq,kn,hlen,z2,l0,hg,l1,Gv,tK,uI,hfz,hkp]
def H6:List D->Cell->Prop:=fun ds c=>∀a b,ds=[dd a b]->c=⟨false,dG (a++b)⟩
theorem zh4b{a b c d:List Tx}(h:dd a b=dd c d):a=c/\b=d:=by simp only[dd,D.list.injEq,aL,true_and,and_true]at h;exact⟨lN h.1,lN h.2⟩
theorem FJ{S:fC}(hS:dC S tB=some H6)(a b:List Tx)(hl:a.length+b.length<100000000)(n:Nat)(O:Store):W S (n+1) tB [dd a b] O=some (.ret ⟨false,dG (a++b)⟩,O):=by
 obtain⟨c,h1,h2⟩:=vH (S:=S) hS rfl (c:=⟨false,dG (a++b)⟩) (fun a' b' h=>by
  simp only[aL,and_true]at h;obtain⟨rfl,rfl⟩:=zh4b h;rfl) (zro a b hl)
 rw[h2,h1 a b rfl]
def kJ{α β:Type}(F:β->α->Bool×α):List β->α->Bool×α
 |[],s=>(true,s)
 |x::r,s=>dK (F x s).1 (kJ F r (F x s).2) (false,(F x s).2)
theorem MR{α β:Type}(S:α->Store)(F:β->α->Bool×α){body:Env->Store->oC}(E:Nat->Env)(l:List β)(eF eN:Env)(id:Nat)
  (hstep:∀i (hi:i<l.length) s,body (E i) (S s)=dK (F l[i] s).1 (some (.normal,E (i+1),S (F l[i] s).2)) (some (.ret,eF,S (F l[i] s).2)))
  (hend:∀s,body (E l.length) (S s)=some (.exit id,eN,S s)) :
  ∀(rest done:List β)(s:α)(n:Nat),l=done++rest->rest.length<n->jI body n (E done.length) (S s)=dK (kJ F rest s).1 (some (.exit id,eN,S (kJ F rest s).2)) (some (.ret,eF,S (kJ F rest s).2))
 |[],done,s,n,hd,hn=>by
  obtain⟨n,rfl⟩:∃k,n=k+1:=⟨n-1,by omega⟩;have e:done.length=l.length:=by rw[hd];simp
  rw[e];exact rW (hend s)
 |x::rest,done,s,n,hd,hn=>by
  obtain⟨n,rfl⟩:∃k,n=k+1:=⟨n-1,by omega⟩;have hi:done.length<l.length:=by rw[hd];simp
  have hs:l[done.length]=x:=by
   have:∀(l:List β)(hl:l=done++x::rest)(hi:done.length<l.length),l[done.length]=x:=fun l hl hi=>by subst hl;simp
   exact this _ hd hi
  have h1:=hstep done.length hi s;rw[hs]at h1;have he:kJ F (x::rest) s=dK (F x s).1 (kJ F rest (F x s).2) (false,(F x s).2):=rfl;rw[he];cases hf:(F x s).1 with
  |true =>rw[hf,dQ]at h1;rw[rK h1,dQ];have:=MR S F E l eF eN id hstep hend rest (done++[x]) (F x s).2 n (by rw[hd];simp) (by simp at hn;omega);simpa only[aF,aG,aH,aN]using this
  |false =>rw[hf,dX]at h1;rw[CB h1];rfl
def jN{α:Type}(f:α->Co->List Tx->Bool×α):Nat->Co->List Tx->α->Bool×α
 |0,_,_,s=>(true,s)
 |k+1,c,g,s =>
  dK (f s c (dK (c.f==8) (g++dW c) g)).1
   (dK (kJ (fun(b:Tx×Co) s=>jN f k b.2 (dK (c.f==8) (g++dW c) g) s) c.bs (f s c (dK (c.f==8) (g++dW c) g)).2).1
    (dK (kJ (fun(b:Co) s=>jN f k b (dK (c.f==8) (g++dW c) g) s) c.ks (kJ (fun(b:Tx×Co) s=>jN f k b.2 (dK (c.f==8) (g++dW c) g) s) c.bs (f s c (dK (c.f==8) (g++dW c) g)).2).2).1
     (kJ (fun(a:Hd×Co) s=>jN f k a.2 ((dK (c.f==8) (g++dW c) g)++a.1.vars) s) c.al (kJ (fun(b:Co) s=>jN f k b (dK (c.f==8) (g++dW c) g) s) c.ks (kJ (fun(b:Tx×Co) s=>jN f k b.2 (dK (c.f==8) (g++dW c) g) s) c.bs (f s c (dK (c.f==8) (g++dW c) g)).2).2).2)
     (false,(kJ (fun(b:Co) s=>jN f k b (dK (c.f==8) (g++dW c) g) s) c.ks (kJ (fun(b:Tx×Co) s=>jN f k b.2 (dK (c.f==8) (g++dW c) g) s) c.bs (f s c (dK (c.f==8) (g++dW c) g)).2).2).2))
    (false,(kJ (fun(b:Tx×Co) s=>jN f k b.2 (dK (c.f==8) (g++dW c) g) s) c.bs (f s c (dK (c.f==8) (g++dW c) g)).2).2))
   (false,(f s c (dK (c.f==8) (g++dW c) g)).2)
def Ie(c:Co):List Cell:=[⟨false,.int .i64 c.f⟩,⟨false,.int .i64 c.n⟩,⟨false,.str c.s⟩,⟨false,.int .i64 0⟩,⟨false,.int .i64 0⟩,⟨false,.str []⟩,⟨false,.dN⟩,⟨false,kD c⟩,⟨false,bD c⟩,⟨false,aD c⟩]
def Ub(c:Co)(g:List Tx)(ask:D)(i:Nat):Env:={slots:=[(1,⟨false,dG g⟩),(2,⟨false,ask⟩),(28,⟨false,bD c⟩),(29,⟨false,.int .i64 c.bs.length⟩),(30,⟨false,.int .i64 i⟩)],dR:=[(3,(3,0))],boxes:=[(3,Ie c)],defers:=[]}
def Uc(c:Co)(g:List Tx)(ask:D)(i:Nat):Env:={slots:=[(1,⟨false,dG g⟩),(2,⟨false,ask⟩),(42,⟨false,kD c⟩),(43,⟨false,.int .i64 c.ks.length⟩),(44,⟨false,.int .i64 i⟩)],dR:=[(3,(3,0))],boxes:=[(3,Ie c)],defers:=[]}
def Ud(c:Co)(g:List Tx)(ask:D)(i:Nat):Env:={slots:=[(1,⟨false,dG g⟩),(2,⟨false,ask⟩),(55,⟨false,aD c⟩),(56,⟨false,.int .i64 c.al.length⟩),(57,⟨false,.int .i64 i⟩)],dR:=[],boxes:=[],defers:=[]}
def uA:Env:={slots:=[(6,⟨false,.bool false⟩)],dR:=[],boxes:=[],defers:=[]}
section
variable{C:eV}{n:Nat}
theorem Wy(b:Tx×Co):dB b=.agg [.str b.1,.int .i64 0,.int .i64 0,.str [],.dN,.int .i64 b.2.f,.int .i64 b.2.n,.str b.2.s,.int .i64 0,.int .i64 0,.str [],.dN,kD b.2,bD b.2,aD b.2]:=zK b
theorem ziqb(c:Co)(i:Nat)(hi:i<c.bs.length):kU 15 (bD c) i=some (.gC (dB c.bs[i])):=uJ rfl dB _ i hi
theorem zazb(c:Co)(g:List Tx)(ask:D)(i:Nat)(hi:i<c.bs.length)(hl:c.bs.length<1000000000)(O O':Store)(r:Bool)(h1:C wL [dM c.bs[i].2,dG g,ask] O=some (.ret ⟨false,.bool r⟩,O')) :
  exec C n none Xg (Ub c g ask i) O=dK r (some (.normal,Ub c g ask (i+1),O')) (some (.ret,{uA with slots:=[(6,⟨false,.bool false⟩)]},O')):=by
 have hlt:((i:Int)<(c.bs.length:Int)):=by omega
 have w:=iE (i:=i) (by omega);have hx:=ziqb c i hi;generalize c.bs[i]=b at hx h1;have hon:=kZ b.2;rw[Wy]at hx;rw[mH]at h1;cases r with
 |true=>simp only[Xg,Ub,uA,sA,seval,kn,hlt,hx,h1,w]
 |false =>simp only[Xg,Ub,uA,sA,seval,kn,hlt,hx,h1]
theorem zeeb(c:Co)(g:List Tx)(ask:D)(O:Store):exec C n none Xg (Ub c g ask c.bs.length) O=some (.exit 0,{slots:=[(1,⟨false,dG g⟩),(2,⟨false,ask⟩),(28,⟨false,bD c⟩),(29,⟨false,.int .i64 c.bs.length⟩),(30,⟨false,.int .i64 c.bs.length⟩),(31,⟨false,.bool false⟩)],dR:=[(3,(3,0))],boxes:=[(3,Ie c)],defers:=[]},O):=by
 have hlt:¬((c.bs.length:Int)<(c.bs.length:Int)):=by omega
 simp only[Xg,Ub,sA,seval,kn,hlt]
theorem za0b(c:Co)(g:List Tx)(ask:D)(i:Nat)(hi:i<c.ks.length)(hl:c.ks.length<1000000000)(O O':Store)(r:Bool)(h1:C wL [dM c.ks[i],dG g,ask] O=some (.ret ⟨false,.bool r⟩,O')) :
  exec C n none Xh (Uc c g ask i) O=dK r (some (.normal,Uc c g ask (i+1),O')) (some (.ret,uA,O')):=by
 have hlt:((i:Int)<(c.ks.length:Int)):=by omega
 have w:=iE (i:=i) (by omega);have hx:=G6 (c:=c) rfl i hi;generalize c.ks[i]=b at hx h1;have hon:=kZ b;rw[mH]at hx h1;cases r with
 |true=>simp only[Xh,Uc,uA,sA,seval,kn,hlt,hx,h1,w]
 |false=>simp only[Xh,Uc,uA,sA,seval,kn,hlt,hx,h1]
theorem zefb(c:Co)(g:List Tx)(ask:D)(O:Store):exec C n none Xh (Uc c g ask c.ks.length) O=some (.exit 2,{slots:=[(1,⟨false,dG g⟩),(2,⟨false,ask⟩),(42,⟨false,kD c⟩),(43,⟨false,.int .i64 c.ks.length⟩),(44,⟨false,.int .i64 c.ks.length⟩),(45,⟨false,.bool false⟩)],dR:=[(3,(3,0))],boxes:=[(3,Ie c)],defers:=[]},O):=by
 have hlt:¬((c.ks.length:Int)<(c.ks.length:Int)):=by omega
 simp only[Xh,Uc,sA,seval,kn,hlt]
theorem za1b(c:Co)(g:List Tx)(ask:D)(i:Nat)(hi:i<c.al.length)(hl:c.al.length<1000000000)(O O':Store)(r:Bool)(h0:C tB [dd g c.al[i].1.vars] O=some (.ret ⟨false,dG (g++c.al[i].1.vars)⟩,O))(h1:C wL [dM c.al[i].2,dG (g++c.al[i].1.vars),ask] O=some (.ret ⟨false,.bool r⟩,O')) :
  exec C n none Xi (Ud c g ask i) O=dK r (some (.normal,Ud c g ask (i+1),O')) (some (.ret,uA,O')):=by
 have hlt:((i:Int)<(c.al.length:Int)):=by omega
 have w:=iE (i:=i) (by omega);have hx:=zhw c i hi;generalize c.al[i]=b at hx h1 h0;have hon:=kZ b.2;have sQ:=lP b.1.vars;have hoG:=lP g;have Av:(dG g).ok=true:=qM;have qJ:(dG b.1.vars).ok=true:=qM;have Am:(dG g).cells=[dG g]:=qZ;have Ao:(dG b.1.vars).cells=[dG b.1.vars]:=qZ;rw[vX]at hx;rw[mH]at h1;simp only[dd]at h0;cases r with
 |true=>simp only[Xi,Ud,uA,sA,seval,kn,hlt,hx,Av,qJ,Am,Ao,h0,h1,w]
 |false=>simp only[Xi,Ud,uA,sA,seval,kn,hlt,hx,Av,qJ,Am,Ao,h0,h1]
theorem zegb(c:Co)(g:List Tx)(ask:D)(O:Store):exec C n none Xi (Ud c g ask c.al.length) O=some (.exit 4,{slots:=[(1,⟨false,dG g⟩),(2,⟨false,ask⟩),(55,⟨false,aD c⟩),(56,⟨false,.int .i64 c.al.length⟩),(57,⟨false,.int .i64 c.al.length⟩),(58,⟨false,.bool false⟩)],dR:=[],boxes:=[],defers:=[]},O):=by
 have hlt:¬((c.al.length:Int)<(c.al.length:Int)):=by omega
 simp only[Xi,Ud,sA,seval,kn,hlt]
end
theorem zec{α:Type}{P:fC}(xk:iV P wL=false)(hP1:dC P wM=some H7)(hP2:dC P tB=some H6)(S:α->Store)(f:α->Co->List Tx->Bool×α)(ask:D)(jJ:FuncId)(nS:List D)(yE:D.mA ask=some (jJ,[],nS))(na K:Nat)(hK:K<100000000)(Φ:Co->List Tx->Prop)
  (hB:∀c g,Φ c g->∀b∈c.bs,Φ b.2 (dK (c.f==8) (g++dW c) g)) (hKs:∀c g,Φ c g->∀x∈c.ks,Φ x (dK (c.f==8) (g++dW c) g)) (hA:∀c g,Φ c g->∀a∈c.al,Φ a.2 ((dK (c.f==8) (g++dW c) g)++a.1.vars))
  (hrun:∀s c g n,na<=n->Φ c g->(dK (c.f==8) (g++dW c) g).length<=K->c.size<=K->W P n jJ ([dM c,dG (dK (c.f==8) (g++dW c) g)]++nS) (S s)=some (.ret ⟨false,.bool (f s c (dK (c.f==8) (g++dW c) g)).1⟩,S (f s c (dK (c.f==8) (g++dW c) g)).2)) :
  ∀(k:Nat)(c:Co)(g:List Tx)(s:α)(n:Nat),Φ c g->c.size<=k->g.length+c.size<=K->na+3+k<=n->W P n wL [dM c,dG g,ask] (S s)=some (.ret ⟨false,.bool (jN f k c g s).1⟩,S (jN f k c g s).2):=by
 intro k;induction k with
 |zero=>intro c g s n hΦ h;have:=lT c;omega
 |succ k ih =>
  intro c g s n hΦ hc hg hn;obtain⟨n,rfl⟩:∃j,n=j+1:=⟨n-1,by omega⟩;have hse:=jD c;have lB:=mY c.bs;have lK:=yY c.ks;have lA:=pY c.al;obtain⟨g',hg'⟩:∃g',g'=dK (c.f==8) (g++dW c) g:=⟨_,rfl⟩;have hgl:g'.length<=g.length+c.bs.length:=by
   rw[hg'];cases c.f==8<;>simp[dW,dK]
  have hU:=mH c;have hon:=kZ c;have hk1:=hrun s c g n (by omega) hΦ (by rw[<-hg'];omega) (by omega);rw[<-hg']at hk1;have hB:=hB c g hΦ;have hKs:=hKs c g hΦ;have hA:=hA c g hΦ;rw[<-hg']at hB hKs hA
  have hf:jN f (k+1) c g s=dK (f s c g').1
   (dK (kJ (fun(b:Tx×Co) s=>jN f k b.2 g' s) c.bs (f s c g').2).1
    (dK (kJ (fun(b:Co) s=>jN f k b g' s) c.ks (kJ (fun(b:Tx×Co) s=>jN f k b.2 g' s) c.bs (f s c g').2).2).1
     (kJ (fun(a:Hd×Co) s=>jN f k a.2 (g'++a.1.vars) s) c.al (kJ (fun(b:Co) s=>jN f k b g' s) c.ks (kJ (fun(b:Tx×Co) s=>jN f k b.2 g' s) c.bs (f s c g').2).2).2)
     (false,(kJ (fun(b:Co) s=>jN f k b g' s) c.ks (kJ (fun(b:Tx×Co) s=>jN f k b.2 g' s) c.bs (f s c g').2).2).2))
    (false,(kJ (fun(b:Tx×Co) s=>jN f k b.2 g' s) c.bs (f s c g').2).2))
   (false,(f s c g').2):=by rw[hg'];rfl
  rw[hf]
  have L0:=fun s=>MR S (fun(b:Tx×Co) s=>jN f k b.2 g' s) (body:=exec (W P n) n none Xg) (Ub c g' ask) c.bs uA _ 0 (fun i hi s=>by
   have hm:=Pe c.bs _ (aX hi);exact zazb c g' ask i hi (by omega) _ _ _ (ih c.bs[i].2 g' s n (hB _ (aX hi)) (by omega) (by omega) (by omega))) (fun s=>zeeb c g' ask _) c.bs [] s n rfl (by omega)
  have L1:=fun s=>MR S (fun(b:Co) s=>jN f k b g' s) (body:=exec (W P n) n none Xh) (Uc c g' ask) c.ks uA _ 2 (fun i hi s=>by
   have hm:=Bn c.ks _ (aX hi);exact za0b c g' ask i hi (by omega) _ _ _ (ih c.ks[i] g' s n (hKs _ (aX hi)) (by omega) (by omega) (by omega))) (fun s=>zefb c g' ask _) c.ks [] s n rfl (by omega)
  have L2:=fun s=>MR S (fun(a:Hd×Co) s=>jN f k a.2 (g'++a.1.vars) s) (body:=exec (W P n) n none Xi) (Ud c g' ask) c.al uA _ 4 (fun i hi s=>by
   have hm:=qP c.al _ (aX hi);obtain⟨m,rfl⟩:∃j,n=j+1:=⟨n-1,by omega⟩;exact za1b c g' ask i hi (by omega) _ _ _ (FJ hP2 _ _ (by omega) m _) (ih c.al[i].2 _ s (m+1) (hA _ (aX hi)) (by omega) (by rw[aF];omega) (by omega))) (fun s=>zegb c g' ask _) c.al [] s n rfl (by omega)
  have lb:=PD c;have lk:lenOf (kD c)=some c.ks.length:=uK _ _;have la:=jy c;rw[hU]at hk1;simp only[aW,bG]at hk1;rw[fW (af:=zQ) xk rfl rfl];simp only[aH,Ub,Uc,Ud,Ie,iG]at L0 L1 L2;generalize(kJ (fun(a:Hd×Co) s=>jN f k a.2 (g'++a.1.vars) s) c.al)=r2 at *
  generalize(kJ (fun(b:Co) s=>jN f k b g' s) c.ks)=r1 at *
  generalize(kJ (fun(b:Tx×Co) s=>jN f k b.2 g' s) c.bs)=r0 at *
  generalize f s c g'=q at *
  have L0:=L0 q.2;have L1:=L1 (r0 q.2).2;have L2:=L2 (r1 (r0 q.2).2).2;have Av:(dG g).ok=true:=qM;have qJ:(dG (dW c)).ok=true:=qM;have Am:(dG g).cells=[dG g]:=qZ;have Ao:(dG (dW c)).cells=[dG (dW c)]:=qZ;cases h8:c.f==8 with
  |true =>
   rw[h8,dQ]at hg';obtain⟨m,rfl⟩:∃j,n=j+1:=⟨n-1,by omega⟩;have hnm:=nk hP1 c.bs (by omega) m (S s);have Of:=FJ hP2 g (dW c) (by rw[hg']at hgl;simp only[dW,aJ]at hgl ⊢;omega) m (S s);rw[<-hg']at Of;have hbd:bD c=lZ' c.bs:=rfl;simp only[dd]at Of;simp only[vP]at hnm;rw[<-hbd]at hnm;have hnc:c.bs.map Prod.fst=dW c:=rfl;rw[hnc]at hnm;cases hq:q.1 with
   |false =>rw[hq]at hk1;simp only[zQ,sA,seval,kn,hU,h8,hnm,Av,qJ,Am,Ao,Of,yE,hk1]
   |true =>
    rw[hq]at hk1;simp only[dQ];cases hr0:(r0 q.2).1 with
    |false =>rw[hr0]at L0;simp only[dX]at L0 ⊢;simp only[zQ,sA,seval,kn,hU,h8,hnm,Av,qJ,Am,Ao,Of,yE,hk1,lb,L0,uA]
    |true =>
     rw[hr0]at L0;simp only[dQ]at L0 ⊢;cases hr1:(r1 (r0 q.2).2).1 with
     |false =>rw[hr1]at L1;simp only[dX]at L1 ⊢;simp only[zQ,sA,seval,kn,hU,h8,hnm,Av,qJ,Am,Ao,Of,yE,hk1,lb,lk,L0,L1,uA]
     |true =>
      rw[hr1]at L1;simp only[dQ]at L1 ⊢;cases hr2:(r2 (r1 (r0 q.2).2).2).1 with
      |false =>rw[hr2]at L2;simp only[dX]at L2 ⊢;simp only[zQ,sA,seval,kn,hU,h8,hnm,Av,qJ,Am,Ao,Of,yE,hk1,lb,lk,la,L0,L1,L2,uA]
      |true =>rw[hr2]at L2;simp only[dQ]at L2 ⊢;simp only[zQ,sA,seval,kn,hU,h8,hnm,Av,qJ,Am,Ao,Of,yE,hk1,lb,lk,la,L0,L1,L2]
  |false =>
   rw[h8,dX]at hg';subst hg';cases hq:q.1 with
   |false =>rw[hq]at hk1;simp only[zQ,sA,seval,kn,hU,h8,yE,hk1]
   |true =>
    rw[hq]at hk1;simp only[dQ];cases hr0:(r0 q.2).1 with
    |false =>rw[hr0]at L0;simp only[dX]at L0 ⊢;simp only[zQ,sA,seval,kn,hU,h8,yE,hk1,lb,L0,uA]
    |true =>
     rw[hr0]at L0;simp only[dQ]at L0 ⊢;cases hr1:(r1 (r0 q.2).2).1 with
     |false =>rw[hr1]at L1;simp only[dX]at L1 ⊢;simp only[zQ,sA,seval,kn,hU,h8,yE,hk1,lb,lk,L0,L1,uA]
     |true =>
      rw[hr1]at L1;simp only[dQ]at L1 ⊢;cases hr2:(r2 (r1 (r0 q.2).2).2).1 with
      |false =>rw[hr2]at L2;simp only[dX]at L2 ⊢;simp only[zQ,sA,seval,kn,hU,h8,yE,hk1,lb,lk,la,L0,L1,L2,uA]
      |true =>rw[hr2]at L2;simp only[dQ]at L2 ⊢;simp only[zQ,sA,seval,kn,hU,h8,yE,hk1,lb,lk,la,L0,L1,L2]
end Go.Fu
