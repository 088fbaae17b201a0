/- A part of the proof. -/
import Derived.Test.YtldfbnbckiifeaaGreatDoorFgDg
set_option maxHeartbeats 4000000
set_option linter.all false
namespace Go.Fu
open Go Go.Mx
set_option maxRecDepth 10000
theorem MX{lz go:Co->At->Int->List In->List In}(c:Co)(h1:∀b∈c.bs,tA (lz b.2))(h2:tA (go (jX c 0))):tA (Tj lz go c):=fun M d L=>by
 have m1:=h2 (jE M (dW c) d 0) (fQ (d+c.bs.length)) (qU (fun b L=>lz b (jE M (dW c) d 0) (fQ (d+c.bs.length)) L) c.bs.length c.bs 0 (L++[eJ sB c.bs.length]));have m2:=ML c.bs.length c.bs 0 (L++[eJ sB c.bs.length]) (lz:=fun b L=>lz b (jE M (dW c) d 0) (fQ (d+c.bs.length)) L) fun x hx L=>h1 x hx _ _ _;simp only[aF,aG,aH]at m2;unfold Tj;omega
theorem tG:∀(n:Nat)(c:Co),tA (kA n c)
 |0,c=>fun M d L=>aM _
 |n+1,c=>fun M d L=>by
  have h1:=MX (lz:=kA n) (go:=kA n) c (fun b _=>tG n b.2) (tG n (jX c 0)) M d L;have h2:=tG n (jX c 1) M d L;have h3:=tG n (jX c 0) M (fQ (d+1)) (kA n (jX c 1) M d L);unfold kA;cases c.f==1<;>cases c.f==2<;>cases c.f==3<;>cases c.f==4<;>cases M c.s<;>simp only[dQ,dX,qK,eP,aF,aG,aH]<;>omega
theorem ZB{B:Nat}{z:Bool}{c:Co}(h:Fl B z c):(c.f=1\/c.f=2\/c.f=3)\/(c.f=4/\∃a b,c.ks=[a,b]/\Fl B true a/\Fl B true b)\/(c.f=8/\∃b,c.ks=[b]/\Fl B z b/\∀p∈c.bs,Fl B true p.2) \/
  (z=false/\(c.f=11\/(c.f=10/\∃a b,c.ks=[a,b]/\Fl B false a/\Fl B false b)\/(c.f=9/\∃x,c.ks=[x]/\Fl B false x/\∀a∈c.al,Fl B false a.2))):=by
 cases h with
 |leaf h1=>exact .inl h1
 |app _ h1 h2=>exact .inr (.inl ⟨rfl,_,_,rfl,h1,h2⟩)
 |lt _ _ h1 h2=>exact .inr (.inr (.inl ⟨rfl,_,rfl,h2,h1⟩))
 |fail=>exact .inr (.inr (.inr ⟨rfl,.inl rfl⟩))
 |rH _ h1 h2=>exact .inr (.inr (.inr ⟨rfl,.inr (.inl ⟨rfl,_,_,rfl,h1,h2⟩)⟩))
 |qX _ _ h1 h2=>exact .inr (.inr (.inr ⟨rfl,.inr (.inr ⟨rfl,_,rfl,h1,h2⟩)⟩))
theorem sV{O:Store}{p a m:Nat}{L:List In}{M:At}(h:CS O p a m L M)(hl:L.length<1000000000)(op:Tx)(x:Int):∃O',(∀n,W SD (n+1) mI [.ptr p 0,.str op,.int .i64 x] O=some (.ret ⟨false,.fN []⟩,O'))/\CS O' p O.next m (L++[eJ op x]) M/\iD p a m O.next m O O':=by obtain⟨O',h1,h2,h3,h4⟩:=E9 (S:=SD) rfl h.ca hl op x;exact⟨O',h1,⟨h2,by rw[h4];exact h.map,by have:=(h3 m).nx;have:=h.mn;omega⟩,h3 m⟩
theorem zd3{O:Store}{p a m:Nat}{L:List In}{M:At}(h:CS O p a m L M)(hl:L.length<1000000000)(x:In):∃O1,lR O fE 48 (qS a L) [dI x]=some (.arr fE O.next 0 (L.length+1),O1)/\dC O1.dE p=some [⟨false,qS a L⟩,⟨false,.map m⟩] /\
  CS (SO O1 p [⟨false,.arr fE O.next 0 (L.length+1)⟩,⟨false,.map m⟩]) p O.next m (L++[x]) M/\iD p a m O.next m O (SO O1 p [⟨false,.arr fE O.next 0 (L.length+1)⟩,⟨false,.map m⟩]):=by
 obtain⟨O1,h1,h2,h3,h4,h5,h6,_⟩:=h.ca.app x hl;refine⟨O1,h1,h2,⟨h3,?_,by have:=(h4 m).nx;have:=h.mn;omega⟩,h4 m⟩;rw[Qb,h5];exact h.map
section
variable{B:Nat}
def kD(c:Co):D:=gX gV (c.ks.map dM)
def bD(c:Co):D:=gX iS (c.bs.map dB)
def aD(c:Co):D:=gX jC (c.al.map dA)
theorem mH(c:Co):dM c=.agg [.int .i64 c.f,.int .i64 c.n,.str c.s,.int .i64 0,.int .i64 0,.str [],.dN,kD c,bD c,aD c]:=eO c
theorem kZ(c:Co):(kD c).one=true/\(bD c).one=true/\(aD c).one=true:=⟨rX,rX,rX⟩
theorem G6{c:Co}{l:List Co}(h:c.ks=l)(i:Nat)(hi:i<l.length):kU 10 (kD c) i=some (.gC (dM l[i])):=by unfold kD;subst h;exact uJ rfl dM _ i hi
theorem PD(c:Co):lenOf (bD c)=some c.bs.length:=uK _ _
theorem jy(c:Co):lenOf (aD c)=some c.al.length:=uK _ _
theorem NQ:∀(n:Nat)(c:Co)(z:Bool),c.size<=n->c.size<100000000->Fl B z c->(z=true\/c.f=1\/c.f=2\/c.f=3\/c.f=4)->yN uZ c (kA n c):=by
 intro n;induction n with
 |zero=>intro c z h;have:=lT c;omega
 |succ n ih =>
  intro c z hn hsz hf hz O p a m L M d h hl;have hse:=jD c;have hU:=mH c;have hon:=kZ c;obtain⟨es,ck,r,hm1,hm2,hm3⟩:=h.look c.s;have hmo:=zeu hm1;have ho:=h.ca.obj;have AA:L.length<1000000000:=by have:=tG (n+1) c M d L;omega
  rcases ZB hf with iZ|⟨iZ,a1,b1,hks,hfa,Jg⟩|⟨iZ,b1,hks,Jg,hbs⟩|⟨rfl,iZ⟩
  ·rcases iZ with iZ|iZ|iZ
   ·unfold kA at hl ⊢;have e1:(c.f==1)=true:=by rw[iZ];rfl
    rw[e1,dQ]at hl ⊢;cases r with
    |none =>have hM:M c.s=none:=hm3;rw[hM,qK]at hl ⊢;obtain⟨O1,h1,h2,h3,h4⟩:=zd3 h AA ⟨vZ,0,0,c.s⟩;refine⟨_,_,_,Ev.of 0 fun k _=>?_,h3,h4⟩;rw[fW (af:=tD) rfl rfl rfl];simp only[dI,vZ]at h1;have hone:=CY a L;have ok1:jZ fE.sz [D.agg [.str [80,85,83,72,71],.int .i64 0,.int .i64 0,.str c.s]]=true:=rfl;simp only[tD,sA,Nat.reduceAdd,Nat.reduceMul,Nat.reduceBEq,Nat.reduceLeDiff,kn,fP,mB,hU,ho,hmo,tW,hm2,e1,h1,h2]
    |some v =>obtain⟨x,hx1,hx2⟩:=hm3;rw[hx2,eP]at hl ⊢;obtain⟨O1,h1,h2,h3⟩:=sV h AA Kt (fQ (fQ (d-1)-x));refine⟨_,_,_,Ev.of 1 fun k hk=>?_,h2,h3⟩;obtain⟨k,rfl⟩:∃j,k=j+1:=⟨k-1,by omega⟩;rw[fW (af:=tD) rfl rfl rfl];have h1:=h1 k;simp only[fQ,Kt]at h1;simp only[tD,sA,Nat.reduceAdd,Nat.reduceMul,Nat.reduceBEq,Nat.reduceLeDiff,kn,fP,mB,hU,ho,hmo,tW,hm2,hx1,e1,h1]
   ·unfold kA at hl ⊢;have e1:(c.f==1)=false:=by rw[iZ];rfl
    have e2:(c.f==2)=true:=by rw[iZ];rfl
    rw[e1,e2,dX,dQ]at hl ⊢;obtain⟨O1,h1,h2,h3,h4⟩:=zd3 h AA ⟨vZ,0,0,c.s⟩;refine⟨_,_,_,Ev.of 0 fun k _=>?_,h3,h4⟩;rw[fW (af:=tD) rfl rfl rfl];simp only[dI,vZ]at h1;have hone:=CY a L;have ok1:jZ fE.sz [D.agg [.str [80,85,83,72,71],.int .i64 0,.int .i64 0,.str c.s]]=true:=rfl;cases r with
    |none=>simp only[tD,sA,Nat.reduceAdd,Nat.reduceMul,Nat.reduceBEq,Nat.reduceLeDiff,kn,fP,mB,hU,ho,hmo,tW,hm2,e1,e2,h1,h2]
    |some v=>simp only[tD,sA,Nat.reduceAdd,Nat.reduceMul,Nat.reduceBEq,Nat.reduceLeDiff,kn,fP,mB,hU,ho,hmo,tW,hm2,e1,e2,h1,h2]
   ·unfold kA at hl ⊢;have e1:(c.f==1)=false:=by rw[iZ];rfl
    have e2:(c.f==2)=false:=by rw[iZ];rfl
    have e3:(c.f==3)=true:=by rw[iZ];rfl
    rw[e1,e2,e3,dX,dX,dQ]at hl ⊢;obtain⟨O1,h1,h2,h3⟩:=sV h AA Qg c.n;refine⟨_,_,_,Ev.of 1 fun k hk=>?_,h2,h3⟩;obtain⟨k,rfl⟩:∃j,k=j+1:=⟨k-1,by omega⟩;rw[fW (af:=tD) rfl rfl rfl];have h1:=h1 k;simp only[Qg]at h1;cases r with
    |none=>simp only[tD,sA,Nat.reduceAdd,Nat.reduceMul,Nat.reduceBEq,Nat.reduceLeDiff,kn,fP,mB,hU,ho,hmo,tW,hm2,e1,e2,e3,h1]
    |some v=>simp only[tD,sA,Nat.reduceAdd,Nat.reduceMul,Nat.reduceBEq,Nat.reduceLeDiff,kn,fP,mB,hU,ho,hmo,tW,hm2,e1,e2,e3,h1]
  ·unfold kA at hl ⊢;have e1:(c.f==1)=false:=by rw[iZ];rfl
   have e2:(c.f==2)=false:=by rw[iZ];rfl
   have e3:(c.f==3)=false:=by rw[iZ];rfl
   have e4:(c.f==4)=true:=by rw[iZ];rfl
   have k0:jX c 0=a1:=by simp[jX,hks]
   have k1:jX c 1=b1:=by simp[jX,hks]
   rw[e1,e2,e3,e4,dX,dX,dX,dQ,k0,k1]at hl ⊢;have hz1:fV c.ks=a1.size+(b1.size+0):=by rw[hks];rfl
   have q1:=tG n b1 M d L;have q2:=tG n a1 M (fQ (d+1)) (kA n b1 M d L);simp only[aF,aG,aH]at hl;obtain⟨O1,a2,m2,⟨x1,w1⟩,c1,f1⟩:=ih b1 true (by omega) (by omega) Jg (.inl rfl) O p a m L M d h (by omega);obtain⟨O2,a3,m3,⟨x2,w2⟩,c2,f2⟩:=ih a1 true (by omega) (by omega) hfa (.inl rfl) O1 p a2 m2 _ M (fQ (d+1)) c1 (by omega);obtain⟨O3,h1,h2,h3⟩:=sV c2 (by omega) Em 0;refine⟨_,_,_,Ev.of (max x1 x2+1) fun k hk=>?_,h2,(f1.trans f2).trans h3⟩;obtain⟨k,rfl⟩:∃j,k=j+1:=⟨k-1,by omega⟩;rw[fW (af:=tD) rfl rfl rfl];have h1:=h1 k;have w1:=w1 (k+1) (by omega);have w2:=w2 (k+1) (by omega);have i0:=G6 hks 0 (by simp);have i1:=G6 hks 1 (by simp);simp only[List.getElem_cons_zero,List.getElem_cons_succ]at i0 i1;have g0:=Ov a1;have g1:=Ov b1;have l0:=sX a1;have l1:=sX b1;simp only[Em]at h1;simp only[fQ]at w2;cases r with
   |none=>simp only[tD,sA,Nat.reduceAdd,Nat.reduceMul,Nat.reduceBEq,Nat.reduceLeDiff,kn,fP,mB,hU,ho,hmo,tW,hm2,e1,e2,e3,e4,i0,i1,g0,g1,l0,l1,w1,w2,h1]
   |some v=>simp only[tD,sA,Nat.reduceAdd,Nat.reduceMul,Nat.reduceBEq,Nat.reduceLeDiff,kn,fP,mB,hU,ho,hmo,tW,hm2,e1,e2,e3,e4,i0,i1,g0,g1,l0,l1,w1,w2,h1]
  ·have Oh:z=true:=by
    rcases hz with hz|hz|hz|hz|hz
    ·exact hz
    all_goals omega
   subst Oh;unfold kA at hl ⊢;have e1:(c.f==1)=false:=by rw[iZ];rfl
   have e2:(c.f==2)=false:=by rw[iZ];rfl
   have e3:(c.f==3)=false:=by rw[iZ];rfl
   have e4:(c.f==4)=false:=by rw[iZ];rfl
   have k0:jX c 0=b1:=by simp[jX,hks]
   rw[e1,e2,e3,e4,dX,dX,dX,dX]at hl ⊢;have hz1:fV c.ks=b1.size+0:=by rw[hks];rfl
   have hbl:=mY c.bs;have AJ:=MX (lz:=kA n) (go:=kA n) c (fun b _=>tG n b.2) (tG n (jX c 0)) M d L;simp only[aF,aG,aH]at hl
   obtain⟨O1,a2,m2,⟨x1,w1⟩,c1,f1⟩:=dz (d:=d) (M:=M) (lz:=kA n) (go:=kA n) (g:=uZ) hks (by omega) (fun b hb=>by
    have:=xB c.bs b hb;exact ih b.2 true (by omega) (by omega) (hbs b hb) (.inl rfl)) (fun b _=>tG n b.2) rfl (ih b1 true (by omega) (by omega) Jg (.inl rfl)) (tG n b1) h (by omega)
   obtain⟨O3,h1,h2,h3⟩:=sV c1 (by omega) lU c.bs.length;refine⟨_,_,_,Ev.of (x1+1) fun k hk=>?_,h2,f1.trans h3⟩;obtain⟨k,rfl⟩:∃j,k=j+1:=⟨k-1,by omega⟩;rw[fW (af:=tD) rfl rfl rfl];have h1:=h1 k;have w1:=w1 (k+1) (by omega);have hln:=PD c;simp only[lU]at h1;rw[hU]at w1;simp only[pF]at w1;cases r with
   |none=>simp only[tD,sA,Nat.reduceAdd,Nat.reduceMul,Nat.reduceBEq,Nat.reduceLeDiff,kn,fP,mB,hU,ho,hmo,tW,hm2,e1,e2,e3,e4,w1,hln,h1]
   |some v=>simp only[tD,sA,Nat.reduceAdd,Nat.reduceMul,Nat.reduceBEq,Nat.reduceLeDiff,kn,fP,mB,hU,ho,hmo,tW,hm2,e1,e2,e3,e4,w1,hln,h1]
  ·rcases hz with hz|hz|hz|hz|hz
   ·cases hz
   all_goals rcases iZ with iZ|⟨iZ,_⟩|⟨iZ,_⟩<;>omega
end
end Go.Fu
