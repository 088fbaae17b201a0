/- A part of the proof. -/
import Derived.Test.YtldfbnbckiifeaaGreatDoorFgDh
set_option maxHeartbeats 4000000
set_option linter.all false
namespace Go.Fu
open Go Go.Mx
set_option maxRecDepth 10000
structure rT(V V':Nat->Prop)(m m':Nat)(O O':Store):Prop where
 nx:O.next<=O'.next
 ob:∀j,j<O.next->¬V j->dC O'.dE j=dC O.dE j
 ty:∀j,j<O.next->dC O'.fH j=dC O.fH j
 ot:∀j,j<O.next->j≠m->dC O'.dP j=dC O.dP j
 fv:∀j,V' j->V j\/O.next<=j
 fm:m'=m\/O.next<=m'
theorem rT.trans{V V1 V2:Nat->Prop}{m m1 m2:Nat}{O O1 O2:Store}(h:rT V V1 m m1 O O1)(k:rT V1 V2 m1 m2 O1 O2):rT V V2 m m2 O O2:=by
 have h1:=h.nx;refine⟨Nat.le_trans h.nx k.nx,fun j hj hv=>?_,fun j hj=>?_,fun j hj hm=>?_,fun j hj=>?_,?_⟩
 ·rw[k.ob j (by omega) (fun e=>by rcases h.fv j e with e2|e2<;>first|exact hv e2|omega),h.ob j hj hv]
 ·rw[k.ty j (by omega),h.ty j hj]
 ·rw[k.ot j (by omega) (fun e=>by rcases h.fm with e2|e2<;>omega),h.ot j hj hm]
 ·rcases k.fv j hj with e|e
  ·exact h.fv j e
  ·exact .inr (by omega)
 ·rcases k.fm with e|e
  ·rw[e];exact h.fm
  ·exact .inr (by omega)
def VX(st:Bool)(p eb a ea:Nat)(j:Nat):Prop:=j=p\/j=a\/(st=true/\(j=eb\/j=ea))
theorem iD.v{p a m a' m':Nat}{O O':Store}(st:Bool)(eb ea:Nat)(h:iD p a m a' m' O O'):rT (VX st p eb a ea) (VX st p eb a' ea) m m' O O' :=
 ⟨h.nx,fun j hj hv=>h.ob j hj (fun e=>hv (.inl e)) (fun e=>hv (.inr (.inl e))),h.ty,h.ot,fun j hj=>by
  rcases hj with e|e|e
  ·exact .inl (.inl e)
  ·rcases h.fa with e2|e2
   ·exact .inl (.inr (.inl (e.trans e2)))
   ·exact .inr (by omega)
  ·exact .inl (.inr (.inr e)),h.fm⟩
def sO(O:Store)(V:Nat->Prop)(l:List (Nat×List Cell)):Prop:=∀q∈l,dC O.dE q.1=some q.2/\q.1<O.next/\¬V q.1
theorem sO.keep{O O':Store}{V V':Nat->Prop}{m m':Nat}{l:List (Nat×List Cell)}(h:sO O V l)(f:rT V V' m m' O O'):sO O' V' l:=fun q hq=>by
 obtain⟨h1,h2,h3⟩:=h q hq;exact⟨by rw[f.ob _ h2 h3,h1],aP h2 f.nx,fun e=>by rcases f.fv _ e with e2|e2<;>first|exact h3 e2|omega⟩
theorem sO.sub{O:Store}{V:Nat->Prop}{l l':List (Nat×List Cell)}(h:sO O V l)(hs:∀q∈l',q∈l):sO O V l':=fun q hq=>h q (hs q hq)
theorem sO.bx{O:Store}{st:Bool}{p eb a ea:Nat}{l:List (Nat×List Cell)}(h:sO O (VX st p eb a ea) l):Bx O p a l:=fun q hq=>by
 obtain⟨h1,h2,h3⟩:=h q hq;exact⟨h1,h2,fun e=>h3 (.inl e),fun e=>h3 (.inr (.inl e))⟩
def uW(ea:Nat):List (Nat×Nat×Nat)->D
 |[]=>.dN
 |x::l=>.arr mZ ea 0 (l.length+1)
theorem zxp(a:Nat)(l:List (Nat×Nat×Nat))(x:Nat×Nat×Nat):uW a (l++[x])=.arr mZ a 0 (l.length+1):=by
 cases l with
 |nil=>rfl
 |cons y l=>simp[uW]
theorem zez(a:Nat)(l:List (Nat×Nat×Nat)):(uW a l).one=true:=by cases l<;>rfl
def cF(es:List (Nat×Nat×Nat)):List Cell:=es.map fun q=>⟨false,rD q.2.1 q.2.2⟩
theorem zhl(es:List (Nat×Nat×Nat)):(cF es).length=es.length:=by simp[cF]
structure KE(O:Store)(p a eb ea:Nat)(es:List (Nat×Nat×Nat)):Prop where
 box:dC O.dE eb=some [⟨false,uW ea es⟩]
 arr:es≠[]->dC O.dE ea=some (cF es)/\dC O.fH ea=some ⟨mZ.el,mZ.sz⟩
 hf:∀q∈es,HF O p a q.1 q.2.1 q.2.2/\q.2.1≠eb/\q.2.1≠ea/\q.2.2≠eb/\q.2.2≠ea
 ne:eb≠p/\eb≠a/\ea≠p/\ea≠a/\(es≠[]->eb≠ea)/\eb<O.next/\ea<O.next
theorem KE.keep{O O':Store}{p a eb ea m a' m':Nat}{es:List (Nat×Nat×Nat)}(h:KE O p a eb ea es)(f:iD p a m a' m' O O'):KE O' p a' eb ea es:=by
 obtain⟨h1,h2,h3,h4,h5,h6,h7⟩:=h.ne;have hn:=f.nx;refine⟨f.get h.box h6 h1 h2,fun he=>?_,fun q hq=>?_,⟨h1,by rcases f.fa with e|e<;>omega,h3,by rcases f.fa with e|e<;>omega,h5,by omega,by omega⟩⟩
 ·obtain⟨g1,g2⟩:=h.arr he;exact⟨f.get g1 h7 h3 h4,by rw[f.ty _ h7,g2]⟩
 ·obtain⟨g1,g2⟩:=h.hf q hq;exact⟨g1.keep f,g2⟩
def KX(st:Bool)(O:Store)(p a eb ea:Nat)(es:List (Nat×Nat×Nat)):Prop:=(st=true->KE O p a eb ea es)/\(st=false->es=[])
theorem KX.keep{st:Bool}{O O':Store}{p a eb ea m a' m':Nat}{es:List (Nat×Nat×Nat)}(h:KX st O p a eb ea es)(f:iD p a m a' m' O O'):KX st O' p a' eb ea es:=⟨fun e=>(h.1 e).keep f,h.2⟩
theorem KE.app{O:Store}{p a eb ea:Nat}{es:List (Nat×Nat×Nat)}(h:KE O p a eb ea es)(hp:p<O.next)(ha:a<O.next)(hl:es.length<1000000000)(k bx bk:Nat)(hh:HF O p a k bx bk)(hx:bx≠eb/\bx≠ea/\bk≠eb/\bk≠ea):∃O1,lR O mZ 8 (uW ea es) [rD bx bk]=some (.arr mZ O.next 0 (es.length+1),O1)/\dC O1.dE eb=some [⟨false,uW ea es⟩] /\
  KE (SO O1 eb [⟨false,.arr mZ O.next 0 (es.length+1)⟩]) p a eb O.next (es++[(k,bx,bk)])/\O1.dP=O.dP/\O.next<O1.next/\(∀j,j<O.next->j≠ea->dC O1.dE j=dC O.dE j)/\(∀j,j<O.next->dC O1.fH j=dC O.fH j):=by
 obtain⟨q1,q2,q3,q4,q5,q6,q7⟩:=h.ne;have h1:jZ mZ.sz [rD bx bk]=true:=rfl;have e1:decide ((es.length+1)*8<=iN)=true:=decide_eq_true (show(es.length+1)*8<=1099511627776 by omega);have e2:decide (es.length+1<=iN)=true:=decide_eq_true (show es.length+1<=1099511627776 by omega);have AL:=hh.xn;have hkn:=hh.kn;have hcf:cF (es++[(k,bx,bk)])=cF es++[⟨false,rD bx bk⟩]:=by simp[cF]
 have hf2:∀q∈es,q.2.1<O.next/\q.2.2<O.next:=fun q hq=>⟨(h.hf q hq).1.xn,(h.hf q hq).1.kn⟩
 have fin:∀O1:Store,O1.next=O.next+2->O1.dP=O.dP->O1.fH=(O.next,⟨mZ.el,mZ.sz⟩)::O.fH->dC O1.dE O.next=some (cF (es++[(k,bx,bk)]))->(∀j,j<O.next->(es≠[]->j≠ea)->dC O1.dE j=dC O.dE j)->p<O.next->a<O.next ->
   dC O1.dE eb=some [⟨false,uW ea es⟩]/\KE (SO O1 eb [⟨false,.arr mZ O.next 0 (es.length+1)⟩]) p a eb O.next (es++[(k,bx,bk)])/\O1.dP=O.dP/\O.next<O1.next/\(∀j,j<O.next->j≠ea->dC O1.dE j=dC O.dE j)/\(∀j,j<O.next->dC O1.fH j=dC O.fH j):=by
  intro O1 hn ho ht hc hj hpn xm;have zhy:∀k bx bk,HF O p a k bx bk->bx≠eb->bx≠ea->bk≠eb->bk≠ea->HF (SO O1 eb [⟨false,.arr mZ O.next 0 (es.length+1)⟩]) p a k bx bk:=fun k bx bk g g1 g2 g3 g4=>by
   have:=g.xn;have:=g.kn;exact⟨by rw[mS g1,hj _ g.xn (fun _=>g2)];exact g.x,by rw[mS g3,hj _ g.kn (fun _=>g4)];exact g.k,by rw[oJ];omega,by rw[oJ];omega,g.xp,g.kp⟩
  refine⟨by rw[hj eb q6 q5,h.box],⟨by rw[rL,zxp],fun _=>⟨by rw[mS (by omega),hc],by rw[Ww,ht,oO]⟩,fun q hq=>?_,⟨q1,q2,by omega,by omega,fun _=>by omega,by rw[oJ];omega,by rw[oJ];omega⟩⟩,ho,by omega,fun j h1 h2=>hj j h1 fun _=>h2,fun j hj=>by rw[ht,oZ _ _ _ _ (by omega)]⟩;rcases bJ.1 hq with hq|hq
  ·obtain⟨g1,g2,g3,g4,g5⟩:=h.hf q hq;exact⟨zhy _ _ _ g1 g2 g3 g4 g5,g2,by have:=g1.xn;omega,g4,by have:=g1.kn;omega⟩
  ·rw[bP]at hq;subst hq;exact⟨zhy _ _ _ hh hx.1 hx.2.1 hx.2.2.1 hx.2.2.2,hx.1,by show bx≠_;omega,hx.2.2.1,by show bk≠_;omega⟩
 cases hes:es with
 |nil =>
  subst hes;have e:([rD bx bk].isEmpty)=false:=rfl;refine⟨fR O mZ (cellsOf [rD bx bk]),?_,?_⟩
  ·simp only[uW,lR,h1,e,dQ,dX,aG,aH,aN]at e1 e2 ⊢;simp only[e1,e2,aY,dQ]
  ·refine fin _ rfl rfl rfl ?_ (fun j hj ha=>?_) hp ha
   ·simp only[fR,oO];rfl
   ·simp only[fR];rw[oZ _ _ _ _ (by omega)]
 |cons y r =>
  obtain⟨g1,g2⟩:=h.arr (by rw[hes];simp);rw[<-hes];have hla:uW ea es=.arr mZ ea 0 es.length:=by rw[hes];rfl
  have ek:mZ.same mZ=true:=rfl;have e0:decide (es.length*mZ.sz<=(cF es).length)=true:=by rw[zhl];simp[mZ]
  have ht:(cF es).take (es.length*mZ.sz)=cF es:=List.take_of_length_le (by rw[zhl];simp[mZ]);have en:(cF es).map (fun c=>Cell.of c.d)++cellsOf [rD bx bk]=cF (es++[(k,bx,bk)]):=(by rw[hcf,cF,cD];rfl);refine⟨fR {O with dE:=gI O.dE ea} mZ (cF (es++[(k,bx,bk)])),?_,?_⟩
  ·simp only[hla,lR,h1,dQ,g1,g2,dH,eP,ek,bW,aG,aH,aN]at e1 e2 ⊢;simp only[e0,e1,e2,aY,dQ,ht,en]
  ·refine fin _ rfl rfl rfl ?_ (fun j hj ha=>?_) hp ha
   ·simp only[fR,oO]
   ·simp only[fR];rw[oZ _ _ _ _ (by omega),Fv _ _ (ha (by rw[hes];simp))]
def Xu:In:=⟨kX,0,0,[]⟩
theorem zc7{O:Store}{p a m eb ea:Nat}{L:List In}{M:At}{es:List (Nat×Nat×Nat)}(h:CS O p a m L M)(hk:KE O p a eb ea es)(hl:L.length<1000000000)(he:es.length<1000000000):∃O2 O3 bx bk a2,
  (∀n,W SD (n+1) Tq [.ptr p 0,dI Xu] O=some (.ret ⟨false,rD bx bk⟩,O2))/\dC O2.dE eb=some [⟨false,uW ea es⟩]/\lR O2 mZ 8 (uW ea es) [rD bx bk]=some (.arr mZ O2.next 0 (es.length+1),O3)/\dC O3.dE eb=some [⟨false,uW ea es⟩] /\
  CS (SO O3 eb [⟨false,.arr mZ O2.next 0 (es.length+1)⟩]) p a2 m (L++[Xu]) M/\KE (SO O3 eb [⟨false,.arr mZ O2.next 0 (es.length+1)⟩]) p a2 eb O2.next (es++[(L.length,bx,bk)])/\rT (VX true p eb a ea) (VX true p eb a2 O2.next) m m O (SO O3 eb [⟨false,.arr mZ O2.next 0 (es.length+1)⟩]):=by
 obtain⟨O2,bx,bk,a2,h1,h2,h3,h4,h5,h6,h7⟩:=ZI (S:=SD) rfl h.ca hl Xu;have k2:=hk.keep (h3 m);obtain⟨q1,q2,q3,q4,q5,q6,q7⟩:=hk.ne;obtain⟨r1,r2,r3,r4,r5,r6,r7⟩:=k2.ne;obtain⟨O3,g1,g2,g3,g4,g5,g6,g7⟩:=k2.app h2.pn h2.an he L.length bx bk h5 ⟨by omega,by omega,by omega,by omega⟩;have hn:=(h3 m).nx;have hmn:=h.mn;refine⟨O2,O3,bx,bk,a2,h1,k2.box,g1,g2,⟨h2.keep (by rw[oJ];omega) ?_ ?_ ?_,?_,by rw[oJ];omega⟩,g3,⟨by rw[oJ];omega,fun j hj hv=>?_,fun j hj=>?_,fun j hj hm=>?_,fun j hj=>?_,.inl rfl⟩⟩
 ·rw[mS (fun e=>r1 e.symm),g6 _ h2.pn (fun e=>r3 e.symm)]
 ·rw[mS (fun e=>r2 e.symm),g6 _ h2.an (fun e=>r4 e.symm)]
 ·rw[Ww,g7 _ h2.an]
 ·rw[Qb,g4,h4];exact h.map
 ·have v1:j≠p:=fun e=>hv (.inl e);have v2:j≠a:=fun e=>hv (.inr (.inl e));have v3:j≠eb:=fun e=>hv (.inr (.inr ⟨rfl,.inl e⟩));have v4:j≠ea:=fun e=>hv (.inr (.inr ⟨rfl,.inr e⟩));rw[mS v3,g6 _ (by omega) v4,(h3 m).ob j hj v1 v2]
 ·rw[Ww,g7 _ (by omega),(h3 m).ty j hj]
 ·rw[Qb,g4,h4]
 ·rcases hj with e|e|⟨_,e|e⟩
  ·exact .inl (.inl e)
  ·rcases(h3 m).fa with e2|e2
   ·exact .inl (.inr (.inl (e.trans e2)))
   ·exact .inr (by omega)
  ·exact .inl (.inr (.inr ⟨rfl,.inl e⟩))
  ·exact .inr (by omega)
theorem vX(a:Hd×Co):dA a=.agg [.int .i64 a.1.form,.int .i64 a.1.num,.str a.1.name,dG a.1.vars,.int .i64 a.2.f,.int .i64 a.2.n,.str a.2.s,.int .i64 0,.int .i64 0,.str [],.dN,kD a.2,bD a.2,aD a.2]:=xM a
theorem ztl{O:Store}{p a m eb ea xb:Nat}{L:List In}{M:At}{es:List (Nat×Nat×Nat)}(h:CS O p a m L M)(hk:KE O p a eb ea es)(hb:sO O (VX true p eb a ea) [(xb,[⟨false,.ptr p 0⟩])])(al:Hd×Co)(hl:L.length<100000000)(he:es.length<1000000000) :
  ∃O' a' oQ es',Ev SD U6 [dA al,.ptr xb 0,.ptr eb 0] O O'/\CS O' p a' m (qT true al.1 L) M/\KE O' p a' eb oQ es'/\es'.map Prod.fst=es.map Prod.fst++[(qT true al.1 L).length-1]/\rT (VX true p eb a ea) (VX true p eb a' oQ) m m O O':=by
 have rV:=vX al;have hon:=kZ al.2;have sQ:=lP al.1.vars;have AB:=lE al.1.vars;have hx:=(hb _ (bP.2 rfl)).1;obtain⟨q1,q2,q3,q4,q5,q6,q7⟩:=hk.ne;unfold qT;simp only[dQ];cases hf:al.1.form==1 with
 |true =>simp only[dQ];obtain⟨O1,h1,h2,h3⟩:=sV h (by omega) lU al.1.vars.length;have hk1:=hk.keep h3;obtain⟨O2,O3,bx,bk,a2,j1,j2,j3,j4,j5,j6,j7⟩:=zc7 h2 hk1 (by simp;omega) he;refine⟨_,a2,_,_,Ev.of 1 fun n hn=>?_,j5,j6,by simp[Xu],(h3.v true eb ea).trans j7⟩;obtain⟨n,rfl⟩:∃k,n=k+1:=⟨n-1,by omega⟩;rw[fW (af:=Zn) rfl rfl rfl];have hx1:=(hb.keep (h3.v true eb ea) _ (bP.2 rfl)).1;have uh:=hk1.box;have h1:=h1 n;have j1:=j1 n;have hone:=zez ea es;have yx:(rD bx bk).ok=true:=rfl;have wh:(rD bx bk).cells=[rD bx bk]:=rfl;simp only[lU]at h1;simp only[Xu,kX,dI]at j1;simp only[Zn,sA,Nat.reduceAdd,Nat.reduceMul,Nat.reduceBEq,Nat.reduceLeDiff,kn,fP,mB,rV,hf,AB,hx,h1,hx1,uh,j1,WZ,pN,j2,BL,yx,wh,j3,j4]
 |false =>simp only[dX];obtain⟨O2,O3,bx,bk,a2,j1,j2,j3,j4,j5,j6,j7⟩:=zc7 h hk (by omega) he;refine⟨_,a2,_,_,Ev.of 1 fun n hn=>?_,j5,j6,by simp[Xu],j7⟩;obtain⟨n,rfl⟩:∃k,n=k+1:=⟨n-1,by omega⟩;rw[fW (af:=Zn) rfl rfl rfl];have uh:=hk.box;have j1:=j1 n;have hone:=zez ea es;have yx:(rD bx bk).ok=true:=rfl;have wh:(rD bx bk).cells=[rD bx bk]:=rfl;simp only[Xu,kX,dI]at j1;simp only[Zn,sA,Nat.reduceAdd,Nat.reduceMul,Nat.reduceBEq,Nat.reduceLeDiff,kn,fP,mB,rV,hf,AB,hx,uh,j1,WZ,pN,j2,BL,yx,wh,j3,j4]
theorem zehb{O:Store}{p a m xb:Nat}{L:List In}{M:At}(st:Bool)(h:CS O p a m L M)(hx:dC O.dE xb=some [⟨false,.ptr p 0⟩])(AL:xb<O.next/\xb≠p/\xb≠a)(hl:L.length<100000000) :
  Ri (dK st GX GY) [.ptr xb 0] O p a m (wG st true L) M:=by
 unfold wG;simp only[dQ];cases st with
 |true =>simp only[dQ];obtain⟨O1,h1,h2,h3⟩:=sV h (by omega) kT 1;obtain⟨O2,h4,h5,h6⟩:=sV h2 (by simp;omega) mO 0;refine⟨O2,_,_,Ev.of 1 fun n hn=>?_,h5,h3.trans h6⟩;obtain⟨n,rfl⟩:∃k,n=k+1:=⟨n-1,by omega⟩;rw[fW (af:=QE) rfl rfl rfl];have hx1:=h3.get hx AL.1 AL.2.1 AL.2.2;have h1:=h1 n;have h4:=h4 n;simp only[kT]at h1;simp only[mO]at h4;simp only[QE,sA,Nat.reduceBEq,kn,hx,h1,hx1,h4]
 |false =>simp only[dX];obtain⟨O1,h1,h2,h3⟩:=sV h (by omega) mO 0;refine⟨O1,_,_,Ev.of 1 fun n hn=>?_,h2,h3⟩;obtain⟨n,rfl⟩:∃k,n=k+1:=⟨n-1,by omega⟩;rw[fW (af:=QG) rfl rfl rfl];have h1:=h1 n;simp only[mO]at h1;simp only[QG,sA,Nat.reduceBEq,kn,hx,h1]
theorem zzu{O:Store}(al:Hd×Co)(n:Nat):W SD (n+1) SY [dA al] O=some (.ret ⟨false,.fN []⟩,O):=by have rV:=vX al;have hon:=kZ al.2;have sQ:=lP al.1.vars;rw[fW (af:=QF) rfl rfl rfl];simp only[QF,sA,Nat.reduceBEq,kn,rV]
theorem zuj{O:Store}(n:Nat):W SD (n+1) SQ [] O=some (.ret ⟨false,.fN []⟩,O):=by rw[fW (af:=QA) rfl rfl rfl];simp only[QA,sA,kn]
def rG(st:Bool)(xb eb:Nat):D:=dK st (.fn (.func U6) [] [.ptr xb 0,.ptr eb 0]) (.fn (.func SY) [] [])
theorem zdyb{O:Store}{p a m eb ea xb:Nat}{L:List In}{M:At}{es:List (Nat×Nat×Nat)}(st:Bool)(h:CS O p a m L M)(hk:KX st O p a eb ea es)(hb:sO O (VX st p eb a ea) [(xb,[⟨false,.ptr p 0⟩])])(al:Hd×Co)(hl:L.length<100000000)(he:es.length<1000000000) :
  ∃O' a' oQ es' f nS n0,D.mA (rG st xb eb)=some (f,[],nS)/\(∀n,n0<=n->W SD n f (dA al::nS) O=some (.ret ⟨false,.fN []⟩,O'))/\CS O' p a' m (qT st al.1 L) M/\KX st O' p a' eb oQ es'/\es'.map Prod.fst=dK st (es.map Prod.fst++[(qT st al.1 L).length-1]) (es.map Prod.fst)/\rT (VX st p eb a ea) (VX st p eb a' oQ) m m O O':=by
 cases st with
 |true =>obtain⟨O',a',oQ,es',⟨n0,h1⟩,h2,h3,h4,h5⟩:=ztl h (hk.1 rfl) hb al hl he;exact⟨O',a',oQ,es',U6,[.ptr xb 0,.ptr eb 0],n0,rfl,h1,h2,⟨fun _=>h3,fun e=>by cases e⟩,h4,h5⟩
 |false =>refine⟨O,a,ea,es,SY,[],1,rfl,fun n hn=>?_,h,hk,rfl,(iD.refl (p:=p) (a:=a) (m:=m)).v false eb ea⟩;obtain⟨n,rfl⟩:∃k,n=k+1:=⟨n-1,by omega⟩;exact zzu al n
def kG(s:Tx)(a b:Int)(k:Nat):D×D×Nat:=(.str s,.agg [.int .i64 a,.int .i64 b],k)
set_option maxHeartbeats 8000000
def tX:eR->eR
 |.seq a _=>a
 |x=>x
def pG:eR->eR
 |.seq _ b=>b
 |x=>x
def Tc:eR->eR
 |.block _ b=>b
 |x=>x
def gB:eR:=Tc (tX (pG (pG zi7)))
section
variable{S:fC}{N n:Nat}
end
set_option maxHeartbeats 4000000
theorem ze1(O:Store)(p a:Nat)(hp:p<O.next)(ha:a<O.next)(l:List Tx)(hl:l.length<100000000):∃d Od Of,
  (∀n,W SD (n+1) Dl [dG l] O=some (.ret ⟨false,d⟩,Od))/\d.one=true/\d.ok=true/\d.cells=[d] /\
  (∀n,l.length<n->W SD (n+1) V7 [d] (SO (GA Od rI [⟨false,.dN⟩]) Od.next [⟨false,d⟩])=some (.ret ⟨false,.fN []⟩,Of)) /\
  iH O Of/\dC Of.dE Od.next=some [⟨false,d⟩]/\O.next<=Od.next/\Od.next<Of.next/\Ob Of p a d l.reverse:=by
 obtain⟨d,Od,h1,h2,h4⟩:=zeab (S:=SD) rfl O l (by omega);have hn:=h2.nx;obtain⟨Og,eg⟩:∃Og,Og=SO (GA Od rI [⟨false,.dN⟩]) Od.next [⟨false,d⟩]:=⟨_,rfl⟩;have ng:Og.next=Od.next+1:=by rw[eg,oJ,nO]
 have fg:iH O Og:=(by rw[eg];exact(h2.trans iH.ga).so hn);have bg:dC Og.dE Od.next=some [⟨false,d⟩]:=by rw[eg,rL]
 rcases h4 with⟨rfl,rfl⟩|⟨hne,id,rfl,h5,h6,h7⟩
 ·refine⟨.dN,Od,Og,h1,rfl,rfl,rfl,fun n hn=>?_,fg,bg,hn,by omega,.inl rfl⟩;rw[fW (af:=S9) rfl rfl rfl];obtain⟨k,rfl⟩:∃k,n=k+1:=⟨n-1,by omega⟩;have w:IntKind.i64.wrap (((0:Nat):Int)-1)=-1:=rfl;have hlt:¬((0:Int)<(-1:Int)):=by omega
  rw[<-eg];simp only[iG]at w;simp only[S9,Xr,sA,Nat.reduceBEq,Int.reduceNeg,kn,jI,iG,w,hlt]
 ·have hid:dC Og.dE id=some (iM l):=by rw[eg,mS (by omega),nP (by omega),h5]
  obtain⟨Of,r1,r2,r3,r4,r5,r6⟩:=zgjb (S:=SD) rfl Og id l hid (by omega);refine⟨_,Od,Of,h1,rfl,rfl,rfl,fun n hn=>by rw[<-eg];exact r1 n hn,⟨by rw[r3];exact fg.nx,fun j hj=>by rw[r6 _ (by omega),fg.ob j hj],fun j hj=>by rw[r5,fg.ty j hj],fun j hj=>by rw[r4,fg.ot j hj]⟩,by rw[r6 _ (by omega),bg],hn,by omega,.inr ⟨by simpa using hne,id,by rw[bV],r2,by omega,by omega,by omega⟩⟩
def vQ(al:Hd×Co):List Cell:=[⟨false,.int .i64 al.1.form⟩,⟨false,.int .i64 al.1.num⟩,⟨false,.str al.1.name⟩,⟨false,dG al.1.vars⟩,⟨false,.int .i64 al.2.f⟩,⟨false,.int .i64 al.2.n⟩,⟨false,.str al.2.s⟩,⟨false,.int .i64 0⟩,⟨false,.int .i64 0⟩,⟨false,.str []⟩,⟨false,.dN⟩,⟨false,kD al.2⟩,⟨false,bD al.2⟩,⟨false,aD al.2⟩]
theorem zuk{body:Co->At->Int->List In->List In}{al:Hd×Co}{g:FuncId}(hg:jK g=false)(hgo:yN g al.2 (body al.2)){O:Store}{p a m:Nat}{L:List In}{M:At}(h:CS O p a m L M){gb ab db ob:Nat}{own:D}{k:Nat}(hown:lenOf own=some k)(h1:own.one=true){d:Int}
  (hb:Bx O p a [(gb,[⟨false,pF g p⟩]),(ab,vQ al),(db,[⟨false,.int .i64 d⟩]),(ob,[⟨false,own⟩])]) (hn:(body al.2 M (fQ (d+k)) L).length<50000000) :
  Ri SS [.ptr gb 0,.ptr ab 0,.ptr db 0,.ptr ob 0] O p a m (body al.2 M (fQ (d+k)) L) M:=by
 obtain⟨O1,a1,m1,⟨n1,e1⟩,c1,f1⟩:=hgo O p a m L M (fQ (d+k)) h hn;refine⟨O1,a1,m1,Ev.of n1 fun n hN=>?_,c1,f1⟩;rw[fW (af:=QB) rfl rfl rfl];have q0:=(hb (gb,[⟨false,pF g p⟩]) (by simp)).1;have q1:=(hb (ab,vQ al) (by simp)).1;have q2:=(hb (db,[⟨false,.int .i64 d⟩]) (by simp)).1;have q3:=(hb (ob,[⟨false,own⟩]) (by simp)).1;have hev:=e1 n hN;rw[mH]at hev;have hfn:D.mA (pF g p)=some (g,[.ptr p 0],[]):=jk hg;simp only[fQ]at hev;simp only[vQ]at q1;simp only[QB,sA,Nat.reduceAdd,Nat.reduceBEq,kn,q0,q1,q2,q3,hown,hfn,hev]
def K0:eR:=Cj
def KB:eR:=Tc (tX (pG (pG K0)))
def KF:eR:=tX (pG (pG KB))
def KR:eR:=pG (pG (pG KB))
theorem zkdb:K0=.seq (tX K0) (.seq (tX (pG K0)) (.seq (.block 1 KB) (pG (pG (pG K0))))):=rfl
theorem zkeb:KB=.seq (tX KB) (.seq (tX (pG KB)) (.seq KF KR)):=rfl
def Wh:D:=.fn (.func SQ) [] []
def Af(p:Nat)(be en:D)(db gb:Nat)(c:Co)(i:Nat):Env:={slots:=[(0,⟨false,.ptr p 0⟩),(4,⟨false,be⟩),(5,⟨false,en⟩),(8,⟨false,.ptr db 0⟩),(9,⟨false,.ptr gb 0⟩),(24,⟨false,aD c⟩),(25,⟨false,.int .i64 c.al.length⟩),(26,⟨false,.int .i64 i⟩)],dR:=[],boxes:=[],defers:=[]}
def UG(p:Nat)(be en:D)(db gb:Nat)(c:Co)(i:Nat):Env:={slots:=[(0,⟨false,.ptr p 0⟩),(4,⟨false,be⟩),(5,⟨false,en⟩),(8,⟨false,.ptr db 0⟩),(9,⟨false,.ptr gb 0⟩),(24,⟨false,aD c⟩),(25,⟨false,.int .i64 c.al.length⟩),(26,⟨false,.int .i64 i⟩),(27,⟨false,.bool true⟩)],dR:=[],boxes:=[],defers:=[]}
def qW'(p:Nat)(be en:D)(db gb ab:Nat)(nx:D)(c:Co)(i:Nat):Env:={slots:=[(0,⟨false,.ptr p 0⟩),(4,⟨false,be⟩),(5,⟨false,en⟩),(8,⟨false,.ptr db 0⟩),(9,⟨false,.ptr gb 0⟩),(13,⟨false,.ptr ab 0⟩),(14,⟨false,nx⟩),(24,⟨false,aD c⟩),(25,⟨false,.int .i64 c.al.length⟩),(26,⟨false,.int .i64 i⟩)],dR:=[],boxes:=[],defers:=[]}
section
variable{C:eV}{n:Nat}
theorem kw1(X:eR)(p:Nat)(be en:D)(db gb:Nat)(c:Co)(i:Nat)(hi:i<c.al.length)(O:Store):exec C n none (.seq (tX K0) (.seq (tX (pG K0)) X)) (Af p be en db gb c i) O=exec C n none X (UG p be en db gb c i) O:=by
 have hlt:((i:Int)<(c.al.length:Int)):=by omega
 simp only[K0,Cj,tX,pG,Af,UG,sA,Nat.reduceBEq,kn,hlt]
theorem kw1e(p:Nat)(be en:D)(db gb:Nat)(c:Co)(O:Store):∃e,exec C n none K0 (Af p be en db gb c c.al.length) O=some (.exit 0,e,O)/\e={slots:=[(0,⟨false,.ptr p 0⟩),(4,⟨false,be⟩),(5,⟨false,en⟩),(8,⟨false,.ptr db 0⟩),(9,⟨false,.ptr gb 0⟩),(24,⟨false,aD c⟩),(25,⟨false,.int .i64 c.al.length⟩),(26,⟨false,.int .i64 c.al.length⟩),(27,⟨false,.bool false⟩)],dR:=[],boxes:=[],defers:=[]}:=by
 have hlt:¬((c.al.length:Int)<(c.al.length:Int)):=by omega
 refine⟨_,?_,rfl⟩;simp only[K0,Cj,Af,sA,Nat.reduceBEq,kn,hlt]
theorem zhw(c:Co)(i:Nat)(hi:i<c.al.length):kU 14 (aD c) i=some (.gC (dA c.al[i])):=uJ rfl dA _ i hi
theorem kw2(Y:eR)(p:Nat)(be en:D)(db gb:Nat)(c:Co)(i:Nat)(hi:i<c.al.length)(O O1 O2:Store)(zs:List Cell)(e1:O1=GA O qo zs)(hz:zs=([.int .i64 0,.int .i64 0,.str [],.dN,.int .i64 0,.int .i64 0,.str [],.int .i64 0,.int .i64 0,.str [],.dN,.dN,.dN,.dN]:List D).map Cell.of)(e2:O2=SO O1 O.next (vQ c.al[i])) :
  exec C n none (.seq (tX KB) (.seq (tX (pG KB)) Y)) (UG p be en db gb c i) O=exec C n none Y (qW' p be en db gb O.next Wh c i) O2:=by
 have hx:=zhw c i hi;have hb:dC O1.dE O.next=some zs:=by rw[e1,pA]
 generalize c.al[i]=al at hx e2;have rV:=vX al;have hon:=kZ al.2;have sQ:=lP al.1.vars;rw[rV]at hx;rw[hz]at hb e1;simp only[vQ]at e2;simp only[aO,aZ,Cell.of]at e1 hb;simp only[KB,K0,Tc,Cj,tX,pG,UG,qW',Wh,sA,Nat.reduceAdd,Nat.reduceBEq,kn,fP,mB,hx,<-e1,hb,<-e2]
end
theorem zyj{O:Store}{p a m ab:Nat}{L:List In}{M:At}(h:CS O p a m L M)(al:Hd×Co)(hb:dC O.dE ab=some (vQ al))(hab:ab<O.next/\ab≠p/\ab≠a)(hl:L.length<100000000)(be en:D)(db gb:Nat)(c:Co)(i:Nat) :
  (∃O' a' nx,(∀n N,1<=N->exec (W SD N) n none KF (qW' p be en db gb ab Wh c i) O=some (.normal,qW' p be en db gb ab nx c i,O'))/\CS O' p a' m (L++uS al.1) M/\iD p a m a' m O O' /\
  (al.1.form==1||al.1.form==2)=true/\(∃bx bk,nx=rD bx bk/\HF O' p a' L.length bx bk/\O.next<=bx/\O.next<=bk)) \/
  ∃O' a',(∀n N,1<=N->exec (W SD N) n none KF (qW' p be en db gb ab Wh c i) O=some (.normal,qW' p be en db gb ab Wh c i,O'))/\CS O' p a' m (L++uS al.1) M/\iD p a m a' m O O'/\(al.1.form==1||al.1.form==2)=false:=by
 have AB:=lE al.1.vars;unfold uS;simp only[vQ]at hb;cases e1:al.1.form==1 with
 |true =>left;simp only[dQ,Bool.true_or,true_and];obtain⟨O1,bx,bk,a1,h1,h2,h3,h4,h5,h6,h7⟩:=ZI (S:=SD) rfl h.ca (by omega) ⟨Lh,0,0,al.1.name⟩;have c1:CS O1 p a1 m (L++[⟨Lh,0,0,al.1.name⟩]) M:=⟨h2,by rw[h4];exact h.map,by have:=(h3 m).nx;have:=h.mn;omega⟩;obtain⟨O2,h8,h9,h10⟩:=sV c1 (by simp;omega) Ku al.1.vars.length;refine⟨O2,_,rD bx bk,fun n N hN=>?_,by simpa using h9,(h3 m).trans h10,bx,bk,rfl,h5.keep h10,h6,h7⟩;obtain⟨N,rfl⟩:∃k,N=k+1:=⟨N-1,by omega⟩;have hb1:=(h3 m).get hb hab.1 hab.2.1 hab.2.2;have h1:=h1 N;have h8:=h8 N;simp only[Lh,dI]at h1;simp only[Ku]at h8;simp only[KF,KB,K0,Tc,Cj,tX,pG,qW',sA,Nat.reduceAdd,Nat.reduceBEq,Nat.reduceLeDiff,kn,hb,e1,h1,hb1,AB,h8]
 |false =>
  cases e2:al.1.form==2 with
  |true =>left;simp only[dQ,dX,Bool.or_true,true_and];obtain⟨O1,bx,bk,a1,h1,h2,h3,h4,h5,h6,h7⟩:=ZI (S:=SD) rfl h.ca (by omega) ⟨Kv,0,al.1.num,[]⟩;have c1:CS O1 p a1 m (L++[⟨Kv,0,al.1.num,[]⟩]) M:=⟨h2,by rw[h4];exact h.map,by have:=(h3 m).nx;have:=h.mn;omega⟩;obtain⟨O2,h8,h9,h10⟩:=sV c1 (by simp;omega) kT 1;refine⟨O2,_,rD bx bk,fun n N hN=>?_,by simpa using h9,(h3 m).trans h10,bx,bk,rfl,h5.keep h10,h6,h7⟩;obtain⟨N,rfl⟩:∃k,N=k+1:=⟨N-1,by omega⟩;have h1:=h1 N;have h8:=h8 N;simp only[Kv,dI]at h1;simp only[kT]at h8;simp only[KF,KB,K0,Tc,Cj,tX,pG,qW',sA,Nat.reduceAdd,Nat.reduceBEq,Nat.reduceLeDiff,kn,hb,e1,e2,h1,h8]
  |false =>right;simp only[dX,Bool.or_false];obtain⟨O2,h8,h9,h10⟩:=sV h (by omega) kT 1;refine⟨O2,_,fun n N hN=>?_,h9,h10,trivial⟩;obtain⟨N,rfl⟩:∃k,N=k+1:=⟨N-1,by omega⟩;have h8:=h8 N;simp only[kT]at h8;simp only[KF,KB,K0,Tc,Cj,tX,pG,qW',sA,Nat.reduceAdd,Nat.reduceBEq,Nat.reduceLeDiff,kn,hb,e1,e2,h8]
theorem iH.v{O O':Store}(h:iH O O')(V:Nat->Prop)(m:Nat):rT V V m m O O':=⟨h.nx,fun j hj _=>h.ob j hj,h.ty,fun j hj _=>h.ot j hj,fun _ h=>.inl h,.inl rfl⟩
def Ui(p:Nat)(be en:D)(db gb:Nat)(c:Co)(i:Nat)(b:Bool):Env:={slots:=[(0,⟨false,.ptr p 0⟩),(4,⟨false,be⟩),(5,⟨false,en⟩),(8,⟨false,.ptr db 0⟩),(9,⟨false,.ptr gb 0⟩),(24,⟨false,aD c⟩),(25,⟨false,.int .i64 c.al.length⟩),(26,⟨false,.int .i64 i⟩),(72,⟨false,.bool b⟩)],dR:=[],boxes:=[],defers:=[]}
theorem zhz(st:Bool){body:Co->At->Int->List In->List In}{g:FuncId}(hg:jK g=false){al:Hd×Co}(hgo:yN g al.2 (body al.2))(hgm:tA (body al.2)){O:Store}{p a m eb ea:Nat}{L:List In}{M:At}{es:List (Nat×Nat×Nat)}(h:CS O p a m L M)(hk:KX st O p a eb ea es){d:Int}{xb db gb ab:Nat}{bl:List (Nat×List Cell)}
  (hb:sO O (VX st p eb a ea) ((xb,[⟨false,.ptr p 0⟩])::(db,[⟨false,.int .i64 d⟩])::(gb,[⟨false,pF g p⟩])::(ab,vQ al)::bl)) (nx:D) (fin:List In->List In)
  (hnx:∀τ a' m' oQ L',CS τ p a' m' L' M->sO τ (VX st p eb a' oQ) bl->L.length<=L'.length->∃τ' f nS,D.mA nx=some (f,[],nS)/\(∀n,W SD (n+1) f nS τ=some (.ret ⟨false,.fN []⟩,τ'))/\CS τ' p a' m' (fin L') M/\iD p a' m' a' m' τ τ')
  (hv:al.1.vars.length<100000000) (he:es.length<100000000) (hlen:(qT st al.1 (body al.2 (jE M al.1.vars.reverse d 0) (fQ (d+al.1.vars.length)) L)).length<50000000) (en:D) (c:Co) (i:Nat) :
  ∃O' a' m' oQ es' n0,(∀N n,n0<=N->exec (W SD N) n none KR (qW' p (rG st xb eb) en db gb ab nx c i) O=some (dK (al.1.form==3) .ret .normal,Ui p (rG st xb eb) en db gb c i (al.1.form==3),O')) /\
   CS O' p a' m' (fin (qT st al.1 (body al.2 (jE M al.1.vars.reverse d 0) (fQ (d+al.1.vars.length)) L))) M/\KX st O' p a' eb oQ es' /\
   es'.map Prod.fst=dK st (es.map Prod.fst++[(qT st al.1 (body al.2 (jE M al.1.vars.reverse d 0) (fQ (d+al.1.vars.length)) L)).length-1]) (es.map Prod.fst)/\rT (VX st p eb a ea) (VX st p eb a' oQ) m m' O O':=by
 have hp:=h.ca.pn;have ha:=h.ca.an;have hbl:(body al.2 (jE M al.1.vars.reverse d 0) (fQ (d+al.1.vars.length)) L).length<=(qT st al.1 (body al.2 (jE M al.1.vars.reverse d 0) (fQ (d+al.1.vars.length)) L)).length:=(by unfold qT;cases st<;>cases al.1.form==1<;>simp only[dQ,dX,aF,aG,aH]<;>omega);have AJ:=hgm (jE M al.1.vars.reverse d 0) (fQ (d+al.1.vars.length)) L;obtain⟨own,Od,Of,o1,o2,o3,o4,o5,o6,o7,o8,o9,KO⟩:=ze1 O p a hp ha al.1.vars hv;have cf:=h.fa o6;have bf:=hb.keep (o6.v (VX st p eb a ea) m);have hlo:=KO.len;rw[bV]at hlo
 obtain⟨O1,a1,m1,⟨n1,w1⟩,c1,f1⟩:=ZZ (S:=SD) rfl rfl rfl cf KO (by rw[bV];omega) d (.fn (.func SS) [] [.ptr gb 0,.ptr ab 0,.ptr db 0,.ptr Od.next 0]) SS [] [.ptr gb 0,.ptr ab 0,.ptr db 0,.ptr Od.next 0] rfl rfl
  (body al.2 (jE M al.1.vars.reverse d 0) (fQ (d+al.1.vars.length)) L)
  (fun τ cτ fτ=>by
   have hbx:Bx Of p a [(gb,[⟨false,pF g p⟩]),(ab,vQ al),(db,[⟨false,.int .i64 d⟩]),(Od.next,[⟨false,own⟩])]:=by
    intro q hq;simp only[aS,aK,or_false]at hq;have hbb:=bf.bx;rcases hq with rfl|rfl|rfl|rfl
    ·exact hbb _ (by simp)
    ·exact hbb _ (by simp)
    ·exact hbb _ (by simp)
    ·exact⟨o7,o9,by show Od.next≠p;omega,by show Od.next≠a;omega⟩
   obtain⟨O',a',m',g1,g2,g3⟩:=zuk (body:=body) hg hgo cτ hlo o2 (hbx.keep fτ) (by omega);exact⟨O',a',m',_,g1,g2,g3⟩)
 have b1:=bf.keep (f1.v st eb ea);have k1:=(hk.keep (o6.Oc p a m)).keep f1;obtain⟨O2,a2,Z6,es2,f,nS,n2,q1,q2,q3,q4,q5,q6⟩:=zdyb st c1 k1 (b1.sub (l':=[(xb,[⟨false,.ptr p 0⟩])]) fun q hq=>by rw[bP]at hq;simp[hq]) al (by omega) (by omega);have b2:=b1.keep q6;obtain⟨O3,fx,cx,r1,r2,r3,r4⟩:=hnx O2 a2 m1 Z6 _ q3 (b2.sub fun q hq=>by simp[hq]) (by omega);have b3:=b2.keep (r4.v st eb Z6);refine⟨O3,a2,m1,Z6,es2,max (max n1 n2) (al.1.vars.length+2),fun N n hN=>?_,r3,q4.keep r4,q5,(((o6.v _ m).trans (f1.v st eb ea)).trans q6).trans (r4.v st eb Z6)⟩;obtain⟨N,rfl⟩:∃k,N=k+1:=⟨N-1,by omega⟩;have o1:=o1 N;have o5:=o5 N (by omega);have w1:=w1 (N+1) (by omega);have q2:=q2 (N+1) (by omega);have r2:=r2 N;have vg:=(hb (ab,vQ al) (by simp)).1;obtain⟨Oe,ee⟩:∃Oe,Oe=GA Od rI [⟨false,.dN⟩]:=⟨_,rfl⟩;obtain⟨Og,eg⟩:∃Og,Og=SO Oe Od.next [⟨false,own⟩]:=⟨_,rfl⟩;rw[<-ee,<-eg]at o5;have VF:dC Oe.dE Od.next=some [⟨false,.dN⟩]:=by rw[ee,pA]
 have VG:dC Og.dE Od.next=some [⟨false,own⟩]:=by rw[eg,rL]
 have db1:=(bf (db,[⟨false,.int .i64 d⟩]) (by simp)).1;have vk:=(b1 (ab,vQ al) (by simp)).1;have vo:=(b3 (ab,vQ al) (by simp)).1;have rV:=vX al;rw[rV]at q2;simp only[vQ]at vg vk vo;generalize hbd:rG st xb eb=bd at *
 cases hf3:al.1.form==3 with
 |true=>simp only[KR,KB,K0,Tc,Cj,tX,pG,qW',Ui,sA,Nat.reduceBEq,kn,fP,mB,vg,o1,<-ee,VF,o2,o3,o4,<-eg,VG,o5,o7,db1,w1,vk,q1,q2,r1,r2,vo,hf3]
 |false=>simp only[KR,KB,K0,Tc,Cj,tX,pG,qW',Ui,sA,Nat.reduceBEq,kn,fP,mB,vg,o1,<-ee,VF,o2,o3,o4,<-eg,VG,o5,o7,db1,w1,vk,q1,q2,r1,r2,vo,hf3]
theorem zd6(st:Bool)(h:Hd)(L:List In):L.length<=(qT st h L).length:=by unfold qT;cases st<;>cases h.form==1<;>simp only[dQ,dX,aF,aG,aH]<;>omega
theorem zyi(h:Hd):1<=(uS h).length:=by unfold uS;cases h.form==1<;>cases h.form==2<;>simp only[dQ,dX,aG,aH]<;>omega
theorem YV(st:Bool)(body:Co->At->Int->List In->List In)(M:At)(d:Int)(a:Hd×Co)(s:List In×List Nat):(lX st body M d a s).1.length=(qT st a.1 (body a.2 (jE M a.1.vars.reverse d 0) (fQ (d+a.1.vars.length)) (s.1++uS a.1))).length:=by unfold lX;cases(a.1.form==1||a.1.form==2)<;>simp only[dQ,dX,wZ]
theorem zco(st:Bool){body:Co->At->Int->List In->List In}(M:At)(d:Int)(a:Hd×Co)(s:List In×List Nat)(h:tA (body a.2)):s.1.length<=(lX st body M d a s).1.length:=by have h1:=h (jE M a.1.vars.reverse d 0) (fQ (d+a.1.vars.length)) (s.1++uS a.1);have h2:=zd6 st a.1 (body a.2 (jE M a.1.vars.reverse d 0) (fQ (d+a.1.vars.length)) (s.1++uS a.1));rw[YV];rw[aF]at h1;omega
theorem BO(st:Bool){body:Co->At->Int->List In->List In}(M:At)(d:Int):∀(l:List (Hd×Co))(s:List In×List Nat),(∀a∈l,tA (body a.2))->s.1.length<=(iY st body M d l s).1.1.length
 |[],s,_=>aM _
 |a::l,s,h=>by
  have h1:=zco st M d a s (h a (aQ ..));have h2:=BO st M d l (lX st body M d a s) fun x hx=>h x (aI _ hx);unfold iY;cases a.1.form==3<;>simp only[dQ,dX]<;>omega
theorem MS(st b:Bool)(L:List In):L.length<=(wG st b L).length:=by unfold wG;cases st<;>cases b<;>simp only[dQ,dX,aF,aG,aH]<;>omega
def X8(st:Bool)(xb:Nat):D:=.fn (.func (dK st GX GY)) [] [.ptr xb 0]
def zkp(p:Nat)(be en:D)(db gb:Nat)(c:Co):Env:={slots:=[(0,⟨false,.ptr p 0⟩),(4,⟨false,be⟩),(5,⟨false,en⟩),(8,⟨false,.ptr db 0⟩),(9,⟨false,.ptr gb 0⟩),(24,⟨false,aD c⟩),(25,⟨false,.int .i64 c.al.length⟩),(26,⟨false,.int .i64 c.al.length⟩),(27,⟨false,.bool false⟩)],dR:=[],boxes:=[],defers:=[]}
theorem ze7b{C:eV}{n:Nat}(p:Nat)(be en:D)(db gb:Nat)(c:Co)(i:Nat)(hi:i<1000000000)(O:Store):exec C n none (pG (pG (pG K0))) (Ui p be en db gb c i false) O=some (.normal,Af p be en db gb c (i+1),O):=by have w:=iE (i:=i) (by omega);simp only[K0,Cj,pG,Ui,Af,sA,Nat.reduceBEq,kn,w]
theorem zd8b(st:Bool){body:Co->At->Int->List In->List In}{g:FuncId}(hg:jK g=false)(c:Co)(i:Nat)(hi:i<c.al.length)(hil:c.al.length<100000000)(hgo:yN g c.al[i].2 (body c.al[i].2))(hgm:tA (body c.al[i].2)){O:Store}{p a m eb ea:Nat}{L:List In}{M:At}{es:List (Nat×Nat×Nat)}(h:CS O p a m L M)(hk:KX st O p a eb ea es){d:Int}{xb db gb:Nat}
  (hb:sO O (VX st p eb a ea) [(xb,[⟨false,.ptr p 0⟩]),(db,[⟨false,.int .i64 d⟩]),(gb,[⟨false,pF g p⟩])]) (hv:c.al[i].1.vars.length<100000000) (he:es.length<100000000) (hlen:(lX st body M d c.al[i] (L,es.map Prod.fst)).1.length<50000000) (en:D) :
  ∃O' a' m' oQ es' n0,(∀N n,n0<=N->exec (W SD N) n none K0 (Af p (rG st xb eb) en db gb c i) O=dK (c.al[i].1.form==3) (some (.ret,Ui p (rG st xb eb) en db gb c i true,O')) (some (.normal,Af p (rG st xb eb) en db gb c (i+1),O'))) /\
   CS O' p a' m' (lX st body M d c.al[i] (L,es.map Prod.fst)).1 M/\KX st O' p a' eb oQ es'/\es'.map Prod.fst=(lX st body M d c.al[i] (L,es.map Prod.fst)).2/\rT (VX st p eb a ea) (VX st p eb a' oQ) m m' O O':=by
 have hp:=h.ca.pn;have ha:=h.ca.an;obtain⟨zs,hz⟩:∃zs:List Cell,zs=([.int .i64 0,.int .i64 0,.str [],.dN,.int .i64 0,.int .i64 0,.str [],.int .i64 0,.int .i64 0,.str [],.dN,.dN,.dN,.dN]:List D).map Cell.of:=⟨_,rfl⟩;obtain⟨O1,e1⟩:∃O1,O1=GA O qo zs:=⟨_,rfl⟩;obtain⟨O2,e2⟩:∃O2,O2=SO O1 O.next (vQ c.al[i]):=⟨_,rfl⟩;have n2:O2.next=O.next+1:=by rw[e2,oJ,e1,nO]
 have f2:iH O O2:=(by rw[e2,e1];exact iH.ga.so (aM _));have hv2:∀j,O.next<=j->¬VX st p eb a ea j:=fun j hj e=>by
  rcases e with e|e|⟨e,e3⟩
  ·omega
  ·omega
  ·have:=(hk.1 e).ne;omega
 have b2:sO O2 (VX st p eb a ea) [(xb,[⟨false,.ptr p 0⟩]),(db,[⟨false,.int .i64 d⟩]),(gb,[⟨false,pF g p⟩]),(O.next,vQ c.al[i])]:=fun q hq=>by
  simp only[aS,aK,or_false]at hq;have hbk:=hb.keep (f2.v (VX st p eb a ea) m);rcases hq with rfl|rfl|rfl|rfl
  ·exact hbk _ (by simp)
  ·exact hbk _ (by simp)
  ·exact hbk _ (by simp)
  ·exact⟨by rw[e2,rL],by show O.next<_;omega,hv2 _ (aM _)⟩
 have hab:=b2 (O.next,vQ c.al[i]) (by simp);have hal:=YV st body M d c.al[i] (L,es.map Prod.fst);simp only at hal;rw[hal]at hlen;have hmb:=hgm (jE M c.al[i].1.vars.reverse d 0) (fQ (d+c.al[i].1.vars.length)) (L++uS c.al[i].1);have hmc:=zd6 st c.al[i].1 (body c.al[i].2 (jE M c.al[i].1.vars.reverse d 0) (fQ (d+c.al[i].1.vars.length)) (L++uS c.al[i].1));have hhl:=zyi c.al[i].1;rw[aF]at hmb
 have zkr:∀(fin:List In->List In)(O':Store)(n0:Nat)(O3:Store)(nx:D),(∀n N,1<=N->exec (W SD N) n none KF (qW' p (rG st xb eb) en db gb O.next Wh c i) O2=some (.normal,qW' p (rG st xb eb) en db gb O.next nx c i,O3)) ->
   (∀N n,n0<=N->exec (W SD N) n none KR (qW' p (rG st xb eb) en db gb O.next nx c i) O3=some (dK (c.al[i].1.form==3) .ret .normal,Ui p (rG st xb eb) en db gb c i (c.al[i].1.form==3),O')) ->
   ∀N n,max n0 1<=N->exec (W SD N) n none K0 (Af p (rG st xb eb) en db gb c i) O=dK (c.al[i].1.form==3) (some (.ret,Ui p (rG st xb eb) en db gb c i true,O')) (some (.normal,Af p (rG st xb eb) en db gb c (i+1),O')):=by
  intro fin O' n0 O3 nx xe VJ N n hN;have xe:=xe n N (by omega);have VJ:=VJ N n (by omega);have hin:=ze7b (C:=W SD N) (n:=n) p (rG st xb eb) en db gb c i (by omega) O';have hk2:=kw2 (C:=W SD N) (n:=n) (.seq KF KR) p (rG st xb eb) en db gb c i hi O O1 O2 zs e1 hz e2;rw[<-zkeb]at hk2;rw[zkdb,kw1 _ _ _ _ _ _ _ _ hi,YZ,zbv,hk2,YZ,xe,WI,VJ];cases hf:c.al[i].1.form==3 with
  |true=>rfl
  |false =>rw[hf]at VJ;simp only[dX,zt,WI];exact hin
 rcases zyj (h.fa f2) c.al[i] hab.1 ⟨hab.2.1,by omega,by omega⟩ (by omega) (rG st xb eb) en db gb c i with⟨O3,a3,nx,g1,g2,g3,g4,bx,bk,rfl,g5,g6,g7⟩|⟨O3,a3,g1,g2,g3,g4⟩
 ·have k3:=(hk.keep (f2.Oc p a m)).keep g3;have b3:=b2.keep (g3.v st eb ea);have bl:sO O3 (VX st p eb a3 ea) [(bx,[⟨false,.ptr p 0⟩]),(bk,[⟨false,.int .i64 L.length⟩])]:=fun q hq=>by
   simp only[aS,aK,or_false]at hq;have hnv:∀j,O2.next<=j->j≠a3->¬VX st p eb a3 ea j:=fun j hj hja e=>by
    rcases e with e|e|⟨e,e3⟩
    ·omega
    ·exact hja e
    ·have:=(hk.1 e).ne;omega
   rcases hq with rfl|rfl
   ·exact⟨g5.x,g5.xn,hnv _ g6 g5.xp.2⟩
   ·exact⟨g5.k,g5.kn,hnv _ g7 g5.kp.2⟩
  obtain⟨O',a',m',oQ,es',n0,r1,r2,r3,r4,r5⟩:=zhz st hg hgo hgm g2 k3 (d:=d) (xb:=xb) (db:=db) (gb:=gb) (ab:=O.next) (bl:=[(bx,[⟨false,.ptr p 0⟩]),(bk,[⟨false,.int .i64 L.length⟩])]) (fun q hq=>by
    simp only[aS,aK,or_false]at hq;rcases hq with rfl|rfl|rfl|rfl|rfl|rfl
    ·exact b3 _ (by simp)
    ·exact b3 _ (by simp)
    ·exact b3 _ (by simp)
    ·exact b3 _ (by simp)
    ·exact bl _ (by simp)
    ·exact bl _ (by simp)) (rD bx bk) (fun L'=>kK L' L.length L'.length)
   (fun τ a' m' oQ L' cτ bτ hL=>by
    have x1:=bτ (bx,[⟨false,.ptr p 0⟩]) (by simp);have x2:=bτ (bk,[⟨false,.int .i64 L.length⟩]) (by simp);rw[aF]at hL;obtain⟨τ',y1,y2,y3⟩:=zc5 (S:=SD) rfl cτ (k:=L.length) (bx:=bx) (bk:=bk) ⟨x1.1,x2.1,x1.2.1,x2.2.1,⟨fun e=>x1.2.2 (.inl e),fun e=>x1.2.2 (.inr (.inl e))⟩,⟨fun e=>x2.2.2 (.inl e),fun e=>x2.2.2 (.inr (.inl e))⟩⟩ (by omega);exact⟨τ',U5,[.ptr bx 0,.ptr bk 0],rfl,y1,y2,y3⟩) hv he hlen en c i
  refine⟨O',a',m',oQ,es',_,zkr id O' n0 O3 _ g1 r1,?_,r3,?_,((f2.v _ m).trans (g3.v st eb ea)).trans r5⟩
  ·unfold lX;rw[g4];exact r2
  ·unfold lX;exact r4
 ·have k3:=(hk.keep (f2.Oc p a m)).keep g3;have b3:=b2.keep (g3.v st eb ea)
  obtain⟨O',a',m',oQ,es',n0,r1,r2,r3,r4,r5⟩:=zhz st hg hgo hgm g2 k3 (d:=d) (xb:=xb) (db:=db) (gb:=gb) (ab:=O.next) (bl:=[]) b3 Wh id
   (fun τ a' m' oQ L' cτ bτ hL=>⟨τ,SQ,[],rfl,fun n=>zuj n,cτ,iD.refl⟩) hv he hlen en c i
  refine⟨O',a',m',oQ,es',_,zkr id O' n0 O3 _ g1 r1,?_,r3,?_,((f2.v _ m).trans (g3.v st eb ea)).trans r5⟩
  ·unfold lX;rw[g4];exact r2
  ·unfold lX;exact r4
theorem zf2(st:Bool){body:Co->At->Int->List In->List In}{g:FuncId}(hg:jK g=false)(c:Co)(hil:c.al.length<50000000)(hgo:∀a∈c.al,yN g a.2 (body a.2))(hgm:∀a∈c.al,tA (body a.2))(hv:∀a∈c.al,a.1.vars.length<100000000){p eb:Nat}{M:At}{d:Int}{xb db gb:Nat}(en:D) :
  ∀(rest done:List (Hd×Co))(L:List In)(es:List (Nat×Nat×Nat))(O:Store)(a m ea:Nat),c.al=done++rest->CS O p a m L M->KX st O p a eb ea es->sO O (VX st p eb a ea) [(xb,[⟨false,.ptr p 0⟩]),(db,[⟨false,.int .i64 d⟩]),(gb,[⟨false,pF g p⟩])]->es.length<=done.length->(iY st body M d rest (L,es.map Prod.fst)).1.1.length<50000000 ->
  ∃O' a' m' oQ es' n0,(∀N n,n0<=N->rest.length<n->∃e,jI (exec (W SD N) N none K0) n (Af p (rG st xb eb) en db gb c done.length) O=some (dK (iY st body M d rest (L,es.map Prod.fst)).2 (.exit 0) .ret,e,O')/\e.defers=[]/\((iY st body M d rest (L,es.map Prod.fst)).2=true->e=zkp p (rG st xb eb) en db gb c)) /\
   CS O' p a' m' (iY st body M d rest (L,es.map Prod.fst)).1.1 M/\KX st O' p a' eb oQ es'/\es'.map Prod.fst=(iY st body M d rest (L,es.map Prod.fst)).1.2/\rT (VX st p eb a ea) (VX st p eb a' oQ) m m' O O'
 |[],done,L,es,O,a,m,ea,hd,h,hk,hb,he,hn=>by
  refine⟨O,a,m,ea,es,0,fun N n _ hn=>?_,h,hk,rfl,iH.refl.v _ _⟩;obtain⟨n,rfl⟩:∃k,n=k+1:=⟨n-1,by omega⟩;have e:done.length=c.al.length:=by rw[hd];simp
  obtain⟨e2,h1,h2⟩:=kw1e (C:=W SD N) (n:=N) p (rG st xb eb) en db gb c O;rw[e];exact⟨e2,rW h1,by rw[h2],fun _=>h2⟩
 |al::rest,done,L,es,O,a,m,ea,hd,h,hk,hb,he,hn=>by
  have hi:done.length<c.al.length:=by rw[hd];simp
  have hs:c.al[done.length]=al:=by
   have:∀(l:List (Hd×Co))(hl:l=done++al::rest)(hi:done.length<l.length),l[done.length]=al:=fun l hl hi=>by subst hl;simp
   exact this _ hd hi
  have hm:al∈c.al:=by rw[hd];simp
  have hmo:∀x∈rest,tA (body x.2):=fun x hx=>hgm x (by rw[hd];simp[hx]);have h2:=BO st M d rest (lX st body M d al (L,es.map Prod.fst)) hmo;have hal:(lX st body M d al (L,es.map Prod.fst)).1.length<50000000:=by
   unfold iY at hn;cases hf:al.1.form==3 with
   |true=>rw[hf]at hn;exact hn
   |false=>rw[hf,dX]at hn;omega
  obtain⟨O1,a1,m1,ea1,es1,n1,r1,r2,r3,r4,r5⟩:=zd8b st hg c done.length hi (by omega) (by rw[hs];exact hgo al hm) (by rw[hs];exact hgm al hm) h hk hb (by rw[hs];exact hv al hm) (by omega) (by rw[hs];exact hal) en;rw[hs]at r1 r2 r4;unfold iY at hn ⊢;cases hf:al.1.form==3 with
  |true =>rw[hf]at r1;simp only[hf,dQ]at r1 hn ⊢;refine⟨O1,a1,m1,ea1,es1,n1,fun N n hN hn=>?_,r2,r3,r4,r5⟩;obtain⟨n,rfl⟩:∃k,n=k+1:=⟨n-1,by omega⟩;exact⟨_,CB (r1 N N hN),rfl,fun e=>by cases e⟩
  |false =>
   rw[hf]at r1;simp only[hf,dX]at r1 hn ⊢;have hes:es1.length<=(done++[al]).length:=by
    have:=congrArg List.length r4;rw[aJ]at this;rw[this];unfold lX;cases st<;>simp only[dQ,dX,aF,aJ,aG,aH]<;>omega
   have zlgb:lX st body M d al (L,es.map Prod.fst)=((lX st body M d al (L,es.map Prod.fst)).1,es1.map Prod.fst):=by rw[r4]
   rw[zlgb]at hn ⊢;obtain⟨O2,a2,m2,Z6,es2,n2,q1,q2,q3,q4,q5⟩:=zf2 st hg c hil hgo hgm hv en rest (done++[al]) _ es1 O1 a1 m1 ea1 (by rw[hd];simp) r2 r3 (hb.keep r5) hes hn;refine⟨O2,a2,m2,Z6,es2,max n1 n2,fun N n hN hn=>?_,q2,q3,q4,r5.trans q5⟩;obtain⟨n,rfl⟩:∃k,n=k+1:=⟨n-1,by omega⟩;rw[rK (r1 N N (by omega))];have:=q1 N n (by omega) (by simp at hn;omega);simpa only[aF,aG,aH,aN]using this
theorem MN'(st:Bool){body:Co->At->Int->List In->List In}{g:FuncId}(hg:jK g=false)(c:Co)(hil:c.al.length<50000000)(hgo:∀a∈c.al,yN g a.2 (body a.2))(hgm:∀a∈c.al,tA (body a.2))(hv:∀a∈c.al,a.1.vars.length<100000000){x:Co}(hks:c.ks=[x]){F0:At->Int->List In->List In}(hF:yN Fa x F0)
  {O:Store} {p a m eb ea xb:Nat} {L:List In} {M:At} {d:Int} (h:CS O p a m L M) (hk:KX st O p a eb ea []) (hxb:sO O (VX st p eb a ea) [(xb,[⟨false,.ptr p 0⟩])]) (hn:(wG st (iY st body M d c.al (F0 M d L,[])).2 (iY st body M d c.al (F0 M d L,[])).1.1).length<50000000) :
  ∃O' a' m' oQ es',Ev SD pz [.ptr p 0,dM c,.int .i64 d,pF g p,rG st xb eb,X8 st xb] O O'/\CS O' p a' m' (wG st (iY st body M d c.al (F0 M d L,[])).2 (iY st body M d c.al (F0 M d L,[])).1.1) M/\KX st O' p a' eb oQ es'/\es'.map Prod.fst=(iY st body M d c.al (F0 M d L,[])).1.2/\rT (VX st p eb a ea) (VX st p eb a' oQ) m m' O O':=by
 have hp:=h.ca.pn;have ha:=h.ca.an;have hm1:=MS st (iY st body M d c.al (F0 M d L,[])).2 (iY st body M d c.al (F0 M d L,[])).1.1;have hm2:=BO st M d c.al (F0 M d L,[]) hgm;obtain⟨O1,e1⟩:∃O1,O1=GA O En [⟨false,.int .i64 d⟩]:=⟨_,rfl⟩;obtain⟨O2,e2⟩:∃O2,O2=GA O1 UE [⟨false,pF g p⟩]:=⟨_,rfl⟩;have n1:O1.next=O.next+1:=by rw[e1,nO]
 have n2:O2.next=O.next+2:=by rw[e2,nO,n1]
 have f2:iH O O2:=(by rw[e2];refine iH.trans ?_ iH.ga;rw[e1];exact iH.ga);have d2:dC O2.dE O.next=some [⟨false,.int .i64 d⟩]:=by rw[e2,nP (by omega),e1,pA]
 have g2:dC O2.dE (O.next+1)=some [⟨false,pF g p⟩]:=by rw[e2,<-n1,pA]
 have hv2:∀j,O.next<=j->¬VX st p eb a ea j:=fun j hj e=>by
  rcases e with e|e|⟨e,e3⟩
  ·omega
  ·omega
  ·have:=(hk.1 e).ne;omega
 have b2:sO O2 (VX st p eb a ea) [(xb,[⟨false,.ptr p 0⟩]),(O.next,[⟨false,.int .i64 d⟩]),(O.next+1,[⟨false,pF g p⟩])]:=fun q hq=>by
  simp only[aS,aK,or_false]at hq;rcases hq with rfl|rfl|rfl
  ·exact hxb.keep (f2.v (VX st p eb a ea) m) _ (by simp)
  ·exact⟨d2,by show O.next<_;omega,hv2 _ (aM _)⟩
  ·exact⟨g2,by show O.next+1<_;omega,hv2 _ (by show O.next<=O.next+1;omega)⟩
 obtain⟨O3,a3,m3,⟨x3,w3⟩,c3,f3⟩:=hF O2 p a m L M d (h.fa f2) (by simp only at hm2;omega);have b3:=b2.keep (f3.v st eb ea);have k3:=(hk.keep (f2.Oc p a m)).keep f3;obtain⟨O4,a4,m4,wz,es4,x4,w4,c4,k4,q4,f4⟩:=zf2 st hg c hil hgo hgm hv (X8 st xb) c.al [] _ [] O3 a3 m3 ea rfl c3 k3 b3 (Nat.zero_le _) (by simp only[aZ];omega);simp only[aH,aZ]at w4 c4 q4;have fall:=((f2.v (VX st p eb a ea) m).trans (f3.v st eb ea)).trans f4;have hU:=mH c;have hon:=kZ c;have i0:=G6 hks 0 (by simp);simp only[List.getElem_cons_zero]at i0;have ga:=Ov x;have gl:=sX x;have hln:=jy c;have hlf:(pF g p).cells=[pF g p]:=rfl;have hlo:(pF g p).ok=true:=rfl;have hK:eR.loop Cj=eR.loop K0:=rfl;cases hr:(iY st body M d c.al (F0 M d L,[])).2 with
 |false =>refine⟨O4,a4,m4,wz,es4,Ev.of (max (max x3 x4) (c.al.length+1)) fun n hN=>?_,by rw[wG,dX];exact c4,k4,q4,fall⟩;rw[fW (af:=J4) rfl rfl rfl];obtain⟨e,y1,y2,_⟩:=w4 n n (by omega) (by omega);have w3:=w3 n (by omega);simp only[hr,dX,Af,iG]at y1;simp only[J4,hK,sA,Nat.reduceAdd,Nat.reduceBEq,kn,fP,mB,hU,<-e1,hlf,hlo,n1,<-e2,i0,ga,gl,d2,w3,hln,y1,y2]
 |true =>
  rw[hr]at hn hm1;have hx4:=(b3.keep f4) (xb,[⟨false,.ptr p 0⟩]) (by simp);obtain⟨O5,a5,m5,⟨x5,w5⟩,c5,f5⟩:=zehb st c4 hx4.1 ⟨hx4.2.1,fun e=>hx4.2.2 (.inl e),fun e=>hx4.2.2 (.inr (.inl e))⟩ (by omega);refine⟨O5,a5,m5,wz,es4,Ev.of (max (max x3 x4) (max x5 (c.al.length+1))) fun n hN=>?_,c5,k4.keep f5,q4,fall.trans (f5.v st eb wz)⟩;rw[fW (af:=J4) rfl rfl rfl];obtain⟨e,y1,y2,y3⟩:=w4 n n (by omega) (by omega);have w3:=w3 n (by omega);have w5:=w5 n (by omega);have y3:=y3 hr;subst y3;have hfe:D.mA (X8 st xb)=some (dK st GX GY,[],[.ptr xb 0]):=by cases st<;>rfl
  simp only[hr,dQ,Af,zkp,iG]at y1;generalize dK st GX GY=fe at hfe w5;generalize X8 st xb=en at *
  simp only[J4,hK,sA,Nat.reduceAdd,Nat.reduceBEq,kn,fP,mB,hU,<-e1,hlf,hlo,n1,<-e2,i0,ga,gl,d2,w3,hln,y1,hfe,w5]
theorem zik{O:Store}{x y:rJ}:SM (GM O x) O.next y=GM O y:=by
 unfold SM GM;have h:(O.next==O.next)=true:=by simp
 simp only[fF,h,dQ]
theorem zeo{O:Store}{es:List (D×D×Nat)}{c:Nat}:xT (GM O (.map es c)).dP (.map O.next)=some (O.next,es,c):=zep OE
theorem zet{O:Store}{es:List (D×D×Nat)}{c:Nat}:Cb (GM O (.map es c)).dP (.map O.next)=some es:=zeu OE
def Tu:List (D×D×Nat):=[(.str [97,100,100],.str [65,68,68],0),(.str [115,117,98],.str [83,85,66],1),(.str [109,117,108],.str [77,85,76],2),(.str [100,105,118],.str [68,73,86],3),(.str [101,113],.str [69,81],4),(.str [108,116],.str [76,84],5)]
theorem zf9b(n:Nat)(O:Store):W SD (n+1) HY [] O=some (.ret ⟨false,.map O.next⟩,GM O (.map Tu 6)):=by rw[fW (af:=J9) rfl rfl rfl];have f0:nQ (.str [97,100,100]) []=some none:=rfl;have f1:nQ (.str [115,117,98]) [(.str [97,100,100],.str [65,68,68],0)]=some none:=rfl;have f2:nQ (.str [109,117,108]) [(.str [97,100,100],.str [65,68,68],0),(.str [115,117,98],.str [83,85,66],1)]=some none:=rfl;have f3:nQ (.str [100,105,118]) [(.str [97,100,100],.str [65,68,68],0),(.str [115,117,98],.str [83,85,66],1),(.str [109,117,108],.str [77,85,76],2)]=some none:=rfl;have f4:nQ (.str [101,113]) [(.str [97,100,100],.str [65,68,68],0),(.str [115,117,98],.str [83,85,66],1),(.str [109,117,108],.str [77,85,76],2),(.str [100,105,118],.str [68,73,86],3)]=some none:=rfl;have f5:nQ (.str [108,116]) [(.str [97,100,100],.str [65,68,68],0),(.str [115,117,98],.str [83,85,66],1),(.str [109,117,108],.str [77,85,76],2),(.str [100,105,118],.str [68,73,86],3),(.str [101,113],.str [69,81],4)]=some none:=rfl;simp only[J9,sA,Nat.reduceAdd,Nat.reduceBEq,kn,fP,mB,zeo,tW,f0,f1,f2,f3,f4,f5,zik,Nat.reduceAdd];rfl
theorem ze0(s:Tx):∃r,nQ (.str s) Tu=some r/\iW r (D.str []) (fun v=>v.1)=.str (rF s):=by unfold rF Tu;simp only[nQ,IW,dH,eP];cases s==[97,100,100]<;>cases s==[115,117,98]<;>cases s==[109,117,108]<;>cases s==[100,105,118]<;>cases s==[101,113]<;>cases s==[108,116]<;>exact⟨_,rfl,rfl⟩
theorem zcv(body:Co->At->Int->List In->List In)(M:At)(d:Int):∀(l:List (Hd×Co))(s:List In×List Nat),(∀a∈l,tA (body a.2))->(∀e∈s.2,e<s.1.length)->∀e∈(iY true body M d l s).1.2,e<(iY true body M d l s).1.1.length
 |[],s,_,h=>h
 |a::l,s,hm,h=>by
  have h0:∀e∈(lX true body M d a s).2,e<(lX true body M d a s).1.length:=by
   intro e he;have h1:=YV true body M d a s;have h2:=zco true M d a s (hm a (aQ ..));have h3:1<=(qT true a.1 (body a.2 (jE M a.1.vars.reverse d 0) (fQ (d+a.1.vars.length)) (s.1++uS a.1))).length:=by
    unfold qT;simp only[dQ,aF,aG,aH];omega
   unfold lX at he;simp only[dQ,bJ,bP]at he;rcases he with he|he
   ·have:=h e he;omega
   ·omega
  unfold iY;cases a.1.form==3 with
  |true=>exact h0
  |false=>exact zcv body M d l _ (fun x hx=>hm x (aI _ hx)) h0
theorem zvn(l:List Nat)(L:List In):L.length<=(tM l L).length:=by rw[x8];exact aM _
theorem Bg:∀(n:Nat)(c:Co),tA (gU n c)
 |0,c=>fun M d L=>aM _
 |n+1,c=>fun M d L=>by
  have h1:=MX (lz:=fun b=>kA b.size b) (go:=gU n) c (fun b _=>tG _ b.2) (Bg n (jX c 0)) M d L;have h2:=Bg n (jX c 0) M d L;have h3:=Bg n (jX c 1) M (fQ (d+1)) (gU n (jX c 0) M d L);have h4:=BO true M d c.al (gU n (jX c 0) M d L,[]) (fun a _=>Bg n a.2);have h5:=MS true (iY true (gU n) M d c.al (gU n (jX c 0) M d L,[])).2 (iY true (gU n) M d c.al (gU n (jX c 0) M d L,[])).1.1;have h6:=tG c.size c M d L;have h7:=zvn (iY true (gU n) M d c.al (gU n (jX c 0) M d L,[])).1.2 (wG true (iY true (gU n) M d c.al (gU n (jX c 0) M d L,[])).2 (iY true (gU n) M d c.al (gU n (jX c 0) M d L,[])).1.1);simp only at h4;unfold gU;cases c.f==8<;>cases c.f==10<;>cases c.f==11<;>cases c.f==9<;>simp only[dQ,dX,aF,aG,aH]<;>omega
def Ys(ea:Nat)(es:List (Nat×Nat×Nat))(i:Nat):Env:={slots:=[(67,⟨false,uW ea es⟩),(68,⟨false,.int .i64 es.length⟩),(69,⟨false,.int .i64 i⟩)],dR:=[],boxes:=[],defers:=[]}
theorem zi0b(C:eV)(n:Nat)(ea:Nat)(es:List (Nat×Nat×Nat))(O:Store):exec C n none FK (Ys ea es es.length) O=some (.exit 1,{Ys ea es es.length with slots:=[(67,⟨false,uW ea es⟩),(68,⟨false,.int .i64 es.length⟩),(69,⟨false,.int .i64 es.length⟩),(70,⟨false,.bool false⟩)]},O):=by
 have hlt:¬((es.length:Int)<(es.length:Int)):=by omega
 simp only[FK,Ys,sA,Nat.reduceBEq,kn,hlt]
theorem zjab(es:List (Nat×Nat×Nat))(i:Nat)(h:i<es.length):pX (cF es) (i*1)=some ⟨false,rD es[i].2.1 es[i].2.2⟩:=by rw[Nat.mul_one,cF,ED,EC _ _ h];rfl
theorem zgu{p eb ea a m:Nat}{M:At}{es:List (Nat×Nat×Nat)}(hl:es.length<1000000000):∀(rest done:List (Nat×Nat×Nat))(L:List In)(O:Store),es=done++rest->CS O p a m L M->KE O p a eb ea es->(∀q∈es,q.1<L.length) ->
  ∃O',(∀N n,1<=N->rest.length<n->jI (exec (W SD N) N none FK) n (Ys ea es done.length) O=some (.exit 1,{Ys ea es es.length with slots:=[(67,⟨false,uW ea es⟩),(68,⟨false,.int .i64 es.length⟩),(69,⟨false,.int .i64 es.length⟩),(70,⟨false,.bool false⟩)]},O'))/\CS O' p a m (tM (rest.map Prod.fst) L) M/\iD p a m a m O O'
 |[],done,L,O,hd,h,hk,hq=>by
  refine⟨O,fun N n _ hn=>?_,h,iD.refl⟩;obtain⟨n,rfl⟩:∃k,n=k+1:=⟨n-1,by omega⟩;have e:done.length=es.length:=by rw[hd];simp
  rw[e];exact rW (zi0b (W SD N) N ea es O)
 |q::rest,done,L,O,hd,h,hk,hq=>by
  have hi:done.length<es.length:=by rw[hd];simp
  have hs:es[done.length]=q:=by
   have:∀(l:List (Nat×Nat×Nat))(hl:l=done++q::rest)(hi:done.length<l.length),l[done.length]=q:=fun l hl hi=>by subst hl;simp
   exact this _ hd hi
  have hm:q∈es:=by rw[hd];simp
  have hne:es≠[]:=fun e=>by rw[e]at hm;cases hm
  obtain⟨g1,g2,g3,g4,g5⟩:=hk.hf q hm;obtain⟨O1,h1,h2,h3⟩:=zc5 (S:=SD) rfl h g1 (hq q hm);obtain⟨O2,r1,r2,r3⟩:=zgu hl rest (done++[q]) _ O1 (by rw[hd];simp) h2 (hk.keep h3) (fun x hx=>by rw[wZ];exact hq x hx);simp only[aF,aG,aH,aN]at r1;refine⟨O2,fun N n hN hn=>?_,r2,h3.trans r3⟩;obtain⟨n,rfl⟩:∃k,n=k+1:=⟨n-1,by omega⟩;obtain⟨N,rfl⟩:∃k,N=k+1:=⟨N-1,by omega⟩;rw[rK ?_]
  ·exact r1 (N+1) n hN (by simp at hn;omega)
  ·have hlt:((done.length:Int)<(es.length:Int)):=by omega
   have w:=iE (i:=done.length) (by omega);have hla:uW ea es=.arr mZ ea 0 es.length:=by
    cases es with
    |nil=>exact absurd rfl hne
    |cons x l=>rfl
   have ha:=(hk.arr hne).1;have hn:=zjab es done.length hi;rw[hs]at hn;have es1:(mZ.sz==1)=true:=rfl;have h1:=h1 N;have hfn:D.mA (rD q.2.1 q.2.2)=some (U5,[],[.ptr q.2.1 0,.ptr q.2.2 0]):=rfl;simp only[FK,Ys,hla,sA,Nat.reduceBEq,kn,hlt,Ea,hi,ha,hn,hfn,h1,w]
end Go.Fu
