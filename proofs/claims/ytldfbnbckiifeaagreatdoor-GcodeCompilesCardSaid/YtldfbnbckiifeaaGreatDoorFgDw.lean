/- A part of the proof. -/
import Derived.Test.YtldfbnbckiifeaaGreatDoorFgEd
set_option maxHeartbeats 4000000
set_option linter.all false
namespace Go.Fu
open Go Go.Mx
set_option maxRecDepth 10000
structure TB(O:Store)(gl:List Tx)(gb cb fb:Nat):Prop where
 g:dC O.dE gb=some [⟨false,dG gl⟩]
 c:dC O.dE cb=some [⟨false,.fn (.func My) [] [.ptr fb 0]⟩]
 f:dC O.dE fb=some [⟨false,gJ FL⟩]
 n:gb<O.next/\cb<O.next/\fb<O.next
theorem TB.fa{O O':Store}{gl:List Tx}{gb cb fb:Nat}(h:TB O gl gb cb fb)(f:iH O O'):TB O' gl gb cb fb:=by have:=f.nx;have:=h.n;exact⟨by rw[f.ob _ (by omega),h.g],by rw[f.ob _ (by omega),h.c],by rw[f.ob _ (by omega),h.f],by omega⟩
theorem zawb(f:Fd)(s:Tx)(m:Int)(p q:Nat)(O:Store)(hp:dC O.dE p=some [⟨false,.str s⟩])(hq:dC O.dE q=some [⟨false,.int .i64 m⟩])(n:Nat):W kM (n+1) TI [dF f,.ptr p 0,.ptr q 0] O=some (.ret ⟨false,.bool (Bz s m f)⟩,O):=by
 rw[fW (af:=K5) rfl rfl rfl];unfold Bz;cases e1:f.name==s with
 |false=>simp only[K5,dF,sA,Nat.reduceAdd,Nat.reduceBEq,kn,hp,hq,e1]
 |true =>
  by_cases e2:m<0
  ·simp only[K5,dF,sA,Nat.reduceAdd,Nat.reduceBEq,kn,hp,hq,e1,e2,aY]
  ·simp only[K5,dF,sA,Nat.reduceAdd,Nat.reduceBEq,kn,hp,hq,e1,e2]
theorem zf3(s:Tx)(m:Int)(fb:Nat)(O:Store)(hf:dC O.dE fb=some [⟨false,gJ FL⟩])(hn:fb<O.next):∃O',iH O O'/\∀n,12<=n->W kM n My [.str s,.int .i64 m,.ptr fb 0] O=some (.ret ⟨false,.bool (rB FL s m)⟩,O'):=by
 obtain⟨O1,e1⟩:∃O1,O1=GA O IZ [⟨false,.str s⟩]:=⟨_,rfl⟩;obtain⟨O2,e2⟩:∃O2,O2=GA O1 En [⟨false,.int .i64 m⟩]:=⟨_,rfl⟩;have n1:O1.next=O.next+1:=by rw[e1,nO]
 have h1:dC O2.dE O.next=some [⟨false,.str s⟩]:=by rw[e2,nP (by omega),e1,pA]
 have h2:dC O2.dE (O.next+1)=some [⟨false,.int .i64 m⟩]:=by rw[e2,<-n1,pA]
 have h3:dC O2.dE fb=some [⟨false,gJ FL⟩]:=by rw[e2,nP (by omega),e1,nP (by omega),hf]
 refine⟨O2,by rw[e2];refine iH.trans ?_ iH.ga;rw[e1];exact iH.ga,fun n hn=>?_⟩;obtain⟨n,rfl⟩:∃k,n=k+10:=⟨n-10,by omega⟩;rw[fW (af:=QU) rfl rfl rfl];have hc:=zp0 (S:=kM) rfl rfl (n+7) FL (.fn (.func TI) [] [.ptr O.next 0,.ptr (O.next+1) 0]) TI [.ptr O.next 0,.ptr (O.next+1) 0] (Bz s m) rfl (by decide) (by show 5<_;omega) O2 (fun i hi=>zawb _ s m _ _ O2 h1 h2 (n+6));have hfm:FL.any (Bz s m)=rB FL s m:=rfl;rw[hfm]at hc;generalize gJ FL=fl at *
 simp only[QU,sA,Nat.reduceAdd,Nat.reduceBEq,kn,fP,mB,<-e1,n1,<-e2,h3,hc]
theorem za5b{gl g:List Tx}{c:Co}(h:Good (gl++g) c):(∀b∈c.bs,Good (gl++dK (c.f==8) (g++dW c) g) b.2)/\(∀x∈c.ks,Good (gl++dK (c.f==8) (g++dW c) g) x)/\(∀a∈c.al,Good (gl++((dK (c.f==8) (g++dW c) g)++a.1.vars)) a.2):=by
 generalize hns:gl++g=ns at h;cases h with
 |int _=>exact⟨fun _ h=>(by cases h),fun _ h=>(by cases h),fun _ h=>(by cases h)⟩
 |wu _=>exact⟨fun _ h=>(by cases h),fun _ h=>(by cases h),fun _ h=>(by cases h)⟩
 |var _=>exact⟨fun _ h=>(by cases h),fun _ h=>(by cases h),fun _ h=>(by cases h)⟩
 |fail=>exact⟨fun _ h=>(by cases h),fun _ h=>(by cases h),fun _ h=>(by cases h)⟩
 |@app _ a b ha hb =>
  subst hns;refine⟨fun _ h=>(by cases h),fun x hx=>?_,fun _ h=>(by cases h)⟩;simp only[Co.ks,aS,aK,or_false]at hx;rcases hx with rfl|rfl
  ·exact ha
  ·exact hb
 |@rH _ s a b hp ha hb =>
  subst hns;refine⟨fun _ h=>(by cases h),fun x hx=>?_,fun _ h=>(by cases h)⟩;simp only[Co.ks,aS,aK,or_false]at hx;rcases hx with rfl|rfl
  ·exact ha
  ·exact hb
 |@lt _ b bs h1 h2 h3 =>
  subst hns;have e:gl++dK ((Co.mk 8 0 [] [b] bs []).f==8) (g++dW (Co.mk 8 0 [] [b] bs [])) g=gl++g++bs.map Prod.fst:=by
   rw[bR];rfl
  refine⟨fun x hx=>?_,fun x hx=>?_,fun _ h=>(by cases h)⟩
  ·rw[e];exact h2 x hx
  ·simp only[Co.ks,aS,aK,or_false]at hx;subst hx;rw[e];exact h3
 |@qX _ x al h1 h2 h3 =>
  subst hns;refine⟨fun _ h=>(by cases h),fun y hy=>?_,fun a ha=>?_⟩
  ·simp only[Co.ks,aS,aK,or_false]at hy;subst hy;exact h1
  ·have:=h3 a ha;rw[bR]at this;exact this
end Go.Fu
namespace Go.Fu.X
open Go Go.Mx Go.Fu
set_option maxRecDepth 100000
set_option maxHeartbeats 4000000
section
variable{C:eV}{n:Nat}
theorem zpw(l:List Su)(g:D)(jJ:Nat)(ca:List D)(hg:D.mA g=some (jJ,[],ca))(i:Nat)(h:i<l.length)(hl:l.length<1000000000)(O O':Store)(h1:C jJ (dU l[i]::ca) O=some (.ret ⟨false,.bool true⟩,O')):exec C n none Ew (vT l g i) O=some (.ret,{slots:=[(4,⟨false,.int .i64 i⟩)],dR:=[],boxes:=[],defers:=[]},O'):=by
 have hlt:((i:Int)<(l.length:Int)):=by omega
 have hx:=zL l i h;have hln:=nY l;generalize l[i]=x at hx h1;have hon:=kZ x.body;have sQ:=lP x.ps;rw[D8]at hx h1;simp only[Ew,vT,sA,seval,kn,hlt,hx,hg,h1]
end
theorem zw{S:fC}(l:List Su)(g:D)(jJ:Nat)(ca:List D)(hg:D.mA g=some (jJ,[],ca))(hl:l.length<1000000000)(J:Store->Prop)(na:Nat)(P:Su->Bool)(hc:∀x∈l,∀O,J O->∃O',J O'/\∀n,na<=n->W S n jJ (dU x::ca) O=some (.ret ⟨false,.bool (P x)⟩,O')):∀(rest done:List Su)(O:Store),l=done++rest->J O ->
  ∃O',J O'/\((rest.any P=false/\∀N n,na<=N->rest.length<n->jI (exec (W S N) N none Ew) n (vT l g done.length) O=some (.exit 0,{vT l g l.length with slots:=[(0,⟨false,eG l⟩),(1,⟨false,g⟩),(7,⟨false,.int .i64 l.length⟩),(8,⟨false,.int .i64 l.length⟩),(9,⟨false,.bool false⟩)]},O'))
   \/ (rest.any P=true/\∃i:Nat,∀N n,na<=N->rest.length<n->jI (exec (W S N) N none Ew) n (vT l g done.length) O=some (.ret,{slots:=[(4,⟨false,.int .i64 i⟩)],dR:=[],boxes:=[],defers:=[]},O')))
 |[],done,O,hd,hJ=>by
  refine⟨O,hJ,.inl ⟨rfl,fun N n _ hn=>?_⟩⟩;obtain⟨n,rfl⟩:∃k,n=k+1:=⟨n-1,by omega⟩;have e:done.length=l.length:=by rw[hd];simp
  rw[e];exact rW (zpy l g O)
 |x::rest,done,O,hd,hJ=>by
  have hi:done.length<l.length:=by rw[hd];simp
  have hs:l[done.length]=x:=by
   have:∀(l:List Su)(hl:l=done++x::rest)(hi:done.length<l.length),l[done.length]=x:=fun l hl hi=>by subst hl;simp
   exact this _ hd hi
  obtain⟨O1,j1,w1⟩:=hc x (by rw[hd];simp) O hJ;cases hP:P x with
  |true =>rw[hP]at w1;refine⟨O1,j1,.inr ⟨by rw[List.any_cons,hP];rfl,done.length,fun N n hN hn=>?_⟩⟩;obtain⟨n,rfl⟩:∃k,n=k+1:=⟨n-1,by omega⟩;exact CB (zpw l g jJ ca hg done.length hi hl O O1 (by rw[hs];exact w1 N hN))
  |false =>
   rw[hP]at w1;obtain⟨O2,j2,hh⟩:=zw l g jJ ca hg hl J na P hc rest (done++[x]) O1 (by rw[hd];simp) j1;simp only[aF,aG,aH,aN]at hh;have step:∀N,na<=N->∀n,jI (exec (W S N) N none Ew) (n+1) (vT l g done.length) O=jI (exec (W S N) N none Ew) n (vT l g (done.length+1)) O1:=fun N hN n=>rK (zop l g jJ ca hg done.length hi hl O O1 (by rw[hs];exact w1 N hN));refine⟨O2,j2,hh.imp (fun⟨a,b⟩=>⟨by rw[List.any_cons,hP,a];rfl,fun N n hN hn=>?_⟩) fun⟨a,i,b⟩=>⟨by rw[List.any_cons,hP,a];rfl,i,fun N n hN hn=>?_⟩⟩
   ·obtain⟨n,rfl⟩:∃k,n=k+1:=⟨n-1,by omega⟩;rw[step N hN];exact b N n hN (by simp at hn;omega)
   ·obtain⟨n,rfl⟩:∃k,n=k+1:=⟨n-1,by omega⟩;rw[step N hN];exact b N n hN (by simp at hn;omega)
theorem zcx{S:fC}(hs1:iV S TP=false)(hs2:iV S TM=false)(l:List Su)(g:D)(jJ:Nat)(ca:List D)(hg:D.mA g=some (jJ,[],ca))(hl:l.length<1000000000)(J:Store->Prop)(na:Nat)(P:Su->Bool)(hc:∀x∈l,∀O,J O->∃O',J O'/\∀n,na<=n->W S n jJ (dU x::ca) O=some (.ret ⟨false,.bool (P x)⟩,O'))(O:Store)(hJ:J O) :
  ∃O',J O'/\∀n,na+l.length+3<=n->W S n TM [eG l,g] O=some (.ret ⟨false,.bool (l.any P)⟩,O'):=by
 obtain⟨O',j,hh⟩:=zw l g jJ ca hg hl J na P hc l [] O rfl hJ;refine⟨O',j,fun n hn=>?_⟩;obtain⟨n,rfl⟩:∃k,n=k+2:=⟨n-2,by omega⟩;have hln:=nY l;rcases hh with⟨ha,w⟩|⟨ha,i,w⟩
 ·have w:=w n n (by omega) (by omega);simp only[vT,aH,iG]at w;have h1:W S (n+1) TP [eG l,g] O=some (.ret ⟨false,.int .i64 (-1)⟩,O'):=(by rw[fW (af:=R8) hs1 rfl rfl];simp only[R8,sA,seval,kn,hln,w]);have hge:¬((-1:Int)≥0):=by omega
  rw[fW (af:=R5) hs2 rfl rfl,ha];simp only[R5,sA,seval,kn,h1,hge]
 ·have w:=w n n (by omega) (by omega);simp only[vT,aH,iG]at w;have h1:W S (n+1) TP [eG l,g] O=some (.ret ⟨false,.int .i64 i⟩,O'):=(by rw[fW (af:=R8) hs1 rfl rfl];simp only[R8,sA,seval,kn,hln,w]);have hge:((i:Int)≥0):=by omega
  rw[fW (af:=R5) hs2 rfl rfl,ha];simp only[R5,sA,seval,kn,h1,hge]
section
variable{C:eV}{n:Nat}
theorem zul(l:List (Hd×Co))(g:D)(jJ:Nat)(ca:List D)(hg:D.mA g=some (jJ,[],ca))(i:Nat)(h:i<l.length)(hl:l.length<1000000000)(O O':Store)(h1:C jJ (dA l[i]::ca) O=some (.ret ⟨false,.bool true⟩,O')):exec C n none Eu (vU l g i) O=some (.ret,{slots:=[(4,⟨false,.int .i64 i⟩)],dR:=[],boxes:=[],defers:=[]},O'):=by
 have hlt:((i:Int)<(l.length:Int)):=by omega
 have hx:=zgn l i h;have hln:=OO l;generalize l[i]=x at hx h1;have hon:=kZ x.2;have sQ:=lP x.1.vars;rw[vX]at hx h1;simp only[Eu,vU,sA,seval,kn,hlt,hx,hg,h1]
end
theorem zax{S:fC}(l:List (Hd×Co))(g:D)(jJ:Nat)(ca:List D)(hg:D.mA g=some (jJ,[],ca))(hl:l.length<1000000000)(J:Store->Prop)(na:Nat)(P:(Hd×Co)->Bool)(hc:∀x∈l,∀O,J O->∃O',J O'/\∀n,na<=n->W S n jJ (dA x::ca) O=some (.ret ⟨false,.bool (P x)⟩,O')):∀(rest done:List (Hd×Co))(O:Store),l=done++rest->J O ->
  ∃O',J O'/\((rest.any P=false/\∀N n,na<=N->rest.length<n->jI (exec (W S N) N none Eu) n (vU l g done.length) O=some (.exit 0,{vU l g l.length with slots:=[(0,⟨false,oP' l⟩),(1,⟨false,g⟩),(7,⟨false,.int .i64 l.length⟩),(8,⟨false,.int .i64 l.length⟩),(9,⟨false,.bool false⟩)]},O'))
   \/ (rest.any P=true/\∃i:Nat,∀N n,na<=N->rest.length<n->jI (exec (W S N) N none Eu) n (vU l g done.length) O=some (.ret,{slots:=[(4,⟨false,.int .i64 i⟩)],dR:=[],boxes:=[],defers:=[]},O')))
 |[],done,O,hd,hJ=>by
  refine⟨O,hJ,.inl ⟨rfl,fun N n _ hn=>?_⟩⟩;obtain⟨n,rfl⟩:∃k,n=k+1:=⟨n-1,by omega⟩;have e:done.length=l.length:=by rw[hd];simp
  rw[e];exact rW (zus l g O)
 |x::rest,done,O,hd,hJ=>by
  have hi:done.length<l.length:=by rw[hd];simp
  have hs:l[done.length]=x:=by
   have:∀(l:List (Hd×Co))(hl:l=done++x::rest)(hi:done.length<l.length),l[done.length]=x:=fun l hl hi=>by subst hl;simp
   exact this _ hd hi
  obtain⟨O1,j1,w1⟩:=hc x (by rw[hd];simp) O hJ;cases hP:P x with
  |true =>rw[hP]at w1;refine⟨O1,j1,.inr ⟨by rw[List.any_cons,hP];rfl,done.length,fun N n hN hn=>?_⟩⟩;obtain⟨n,rfl⟩:∃k,n=k+1:=⟨n-1,by omega⟩;exact CB (zul l g jJ ca hg done.length hi hl O O1 (by rw[hs];exact w1 N hN))
  |false =>
   rw[hP]at w1;obtain⟨O2,j2,hh⟩:=zax l g jJ ca hg hl J na P hc rest (done++[x]) O1 (by rw[hd];simp) j1;simp only[aF,aG,aH,aN]at hh;have step:∀N,na<=N->∀n,jI (exec (W S N) N none Eu) (n+1) (vU l g done.length) O=jI (exec (W S N) N none Eu) n (vU l g (done.length+1)) O1:=fun N hN n=>rK (zrl l g jJ ca hg done.length hi hl O O1 (by rw[hs];exact w1 N hN));refine⟨O2,j2,hh.imp (fun⟨a,b⟩=>⟨by rw[List.any_cons,hP,a];rfl,fun N n hN hn=>?_⟩) fun⟨a,i,b⟩=>⟨by rw[List.any_cons,hP,a];rfl,i,fun N n hN hn=>?_⟩⟩
   ·obtain⟨n,rfl⟩:∃k,n=k+1:=⟨n-1,by omega⟩;rw[step N hN];exact b N n hN (by simp at hn;omega)
   ·obtain⟨n,rfl⟩:∃k,n=k+1:=⟨n-1,by omega⟩;rw[step N hN];exact b N n hN (by simp at hn;omega)
theorem av{S:fC}(hs1:iV S TN=false)(hs2:iV S V6=false)(l:List (Hd×Co))(g:D)(jJ:Nat)(ca:List D)(hg:D.mA g=some (jJ,[],ca))(hl:l.length<1000000000)(J:Store->Prop)(na:Nat)(P:(Hd×Co)->Bool)(hc:∀x∈l,∀O,J O->∃O',J O'/\∀n,na<=n->W S n jJ (dA x::ca) O=some (.ret ⟨false,.bool (P x)⟩,O'))(O:Store)(hJ:J O) :
  ∃O',J O'/\∀n,na+l.length+3<=n->W S n V6 [oP' l,g] O=some (.ret ⟨false,.bool (l.any P)⟩,O'):=by
 obtain⟨O',j,hh⟩:=zax l g jJ ca hg hl J na P hc l [] O rfl hJ;refine⟨O',j,fun n hn=>?_⟩;obtain⟨n,rfl⟩:∃k,n=k+2:=⟨n-2,by omega⟩;have hln:=OO l;rcases hh with⟨ha,w⟩|⟨ha,i,w⟩
 ·have w:=w n n (by omega) (by omega);simp only[vU,aH,iG]at w;have h1:W S (n+1) TN [oP' l,g] O=some (.ret ⟨false,.int .i64 (-1)⟩,O'):=(by rw[fW (af:=R6) hs1 rfl rfl];simp only[R6,sA,seval,kn,hln,w]);have hge:¬((-1:Int)≥0):=by omega
  rw[fW (af:=R4) hs2 rfl rfl,ha];simp only[R4,sA,seval,kn,h1,hge]
 ·have w:=w n n (by omega) (by omega);simp only[vU,aH,iG]at w;have h1:W S (n+1) TN [oP' l,g] O=some (.ret ⟨false,.int .i64 i⟩,O'):=(by rw[fW (af:=R6) hs1 rfl rfl];simp only[R6,sA,seval,kn,hln,w]);have hge:((i:Int)≥0):=by omega
  rw[fW (af:=R4) hs2 rfl rfl,ha];simp only[R4,sA,seval,kn,h1,hge]
def pI(c:Co)(g:List Tx):List Tx:=dK (c.f==8) (g++dW c) g
def mN(R:Co->List Tx->Bool):Nat->Co->List Tx->Bool
 |0,_,_=>true
 |k+1,c,g=>R c (pI c g)&&(c.bs.all (fun b=>mN R k b.2 (pI c g))&&(c.ks.all (fun b=>mN R k b (pI c g))&&c.al.all (fun a=>mN R k a.2 (pI c g++a.1.vars))))
theorem MQ{α β:Type}{F:β->α->Bool×α}{G:β->Bool}(h:∀x s,(F x s).1=G x):∀(l:List β)(s:α),(kJ F l s).1=l.all G
 |[],_=>rfl
 |x::r,s=>by
  have he:kJ F (x::r) s=dK (F x s).1 (kJ F r (F x s).2) (false,(F x s).2):=rfl;rw[he,h,List.all_cons];cases G x with
  |true=>rw[dQ,MQ h r];rfl
  |false=>rfl
theorem zge{α:Type}{f:α->Co->List Tx->Bool×α}{R:Co->List Tx->Bool}(h:∀s c g,(f s c g).1=R c g):∀(k:Nat)(c:Co)(g:List Tx)(s:α),(jN f k c g s).1=mN R k c g
 |0,_,_,_=>rfl
 |k+1,c,g,s=>by
  have ih:=fun c g s=>zge h k c g s;have eB:=fun s=>MQ (F:=fun(b:Tx×Co) s=>jN f k b.2 (pI c g) s) (G:=fun b=>mN R k b.2 (pI c g)) (fun x s=>ih _ _ s) c.bs s;have eK:=fun s=>MQ (F:=fun(b:Co) s=>jN f k b (pI c g) s) (G:=fun b=>mN R k b (pI c g)) (fun x s=>ih _ _ s) c.ks s;have eA:=fun s=>MQ (F:=fun(a:Hd×Co) s=>jN f k a.2 (pI c g++a.1.vars) s) (G:=fun a=>mN R k a.2 (pI c g++a.1.vars)) (fun x s=>ih _ _ s) c.al s;unfold jN mN;have eg:dK (c.f==8) (g++dW c) g=pI c g:=rfl;simp only[eg,h,eB,eK];cases R c (pI c g)with
  |false=>rfl
  |true =>
   cases c.bs.all (fun b=>mN R k b.2 (pI c g))with
   |false=>rfl
   |true =>
    cases c.ks.all (fun b=>mN R k b (pI c g))with
    |false=>rfl
    |true =>simp only[dQ,bX];exact eA _
open Classical in
theorem zayb{P:fC}(xk:iV P wL=false)(hP1:dC P wM=some H7)(hP2:dC P tB=some H6)(J:Store->Prop)(ask:D)(jJ:FuncId)(nS:List D)(yE:D.mA ask=some (jJ,[],nS))(na K:Nat)(hK:K<100000000)(R:Co->List Tx->Bool)
  (hrun:∀O,J O->∀c g,g.length<=K->c.size<=K->∃O',J O'/\∀n,na<=n->W P n jJ ([dM c,dG g]++nS) O=some (.ret ⟨false,.bool (R c g)⟩,O')) :
  ∀(c:Co)(g:List Tx)(O:Store),J O->g.length+c.size<=K->∃O',J O'/\∀n,na+3+c.size<=n->W P n wL [dM c,dG g,ask] O=some (.ret ⟨false,.bool (mN R c.size c g)⟩,O'):=by
 intro c g O hJ hg;obtain⟨f,hf⟩:∃f:{O // J O}->Co->List Tx->Bool×{O // J O},f=fun s c g=>(R c g,if h:∃O',J O'/\∀n,na<=n->W P n jJ ([dM c,dG g]++nS) s.1=some (.ret ⟨false,.bool (R c g)⟩,O')then⟨Classical.choose h,(Classical.choose_spec h).1⟩else s):=⟨_,rfl⟩
 have h1:=zec xk hP1 hP2 (fun s:{O // J O}=>s.1) f ask jJ nS yE na K hK (fun _ _=>True) (fun _ _ _ _ _=>trivial) (fun _ _ _ _ _=>trivial) (fun _ _ _ _ _=>trivial) (fun s c g n hn _ e1 e2=>by
  have h:=hrun s.1 s.2 c _ e1 e2;subst hf;simp only;rw[dif_pos h];exact(Classical.choose_spec h).2 n hn) c.size c g ⟨O,hJ⟩
 have h2:(jN f c.size c g ⟨O,hJ⟩).1=mN R c.size c g:=zge (fun s c g=>by rw[hf]) _ _ _ _;exact⟨_,(jN f c.size c g ⟨O,hJ⟩).2.2,fun n hn=>by rw[h1 n trivial (aM _) hg hn,h2]⟩
set_option maxRecDepth 10000
def Fj(h:Hd):Bool:=(h.form != 1)&&(((h.form != 2)&&(h.form != 3))||decide ((h.vars.length:Int)>0))
theorem zzm(al:Hd×Co)(n:Nat)(O:Store):W kM (n+1) TC [dA al] O=some (.ret ⟨false,.bool (Fj al.1)⟩,O):=by
 have rV:=vX al;have hon:=kZ al.2;have sQ:=lP al.1.vars;have hl:=lE al.1.vars;rw[fW (af:=Eo) rfl rfl rfl];unfold Fj;by_cases hg:((al.1.vars.length:Int)>0)
 ·cases e1:al.1.form != 1 with
  |false=>simp only[Eo,sA,seval,kn,rV,e1,hg]
  |true =>
   cases e2:al.1.form != 2 with
   |false=>simp only[Eo,sA,seval,kn,rV,e1,e2,hl,hg]
   |true =>
    cases e3:al.1.form != 3 with
    |false=>simp only[Eo,sA,seval,kn,rV,e1,e2,e3,hl,hg]
    |true=>simp only[Eo,sA,seval,kn,rV,e1,e2,e3,hg]
 ·cases e1:al.1.form != 1 with
  |false=>simp only[Eo,sA,seval,kn,rV,e1,hg]
  |true =>
   cases e2:al.1.form != 2 with
   |false=>simp only[Eo,sA,seval,kn,rV,e1,e2,hl,hg]
   |true =>
    cases e3:al.1.form != 3 with
    |false=>simp only[Eo,sA,seval,kn,rV,e1,e2,e3,hl,hg]
    |true=>simp only[Eo,sA,seval,kn,rV,e1,e2,e3,hg]
def nC(c:Co):Bool :=
 dK ((c.f==1)||((c.f==2)||((c.f==3)||(c.f==11)))) ((c.ks.length:Int)+c.bs.length+c.al.length==0)
  (dK (c.f==4) (((c.ks.length:Int)==2)&&((c.bs.length:Int)+c.al.length==0))
   (dK (c.f==10) ((((c.ks.length:Int)==2)&&((c.bs.length:Int)+c.al.length==0))&&!(rF c.s==[]))
    (dK (c.f==8) (((c.ks.length:Int)==1)&&((c.al.length:Int)==0))
     (dK (c.f==9) ((((c.ks.length:Int)==1)&&((c.bs.length:Int)==0))&&!(c.al.any fun a=>Fj a.1)) false))))
theorem zcub(g:List Tx)(c:Co)(hl:c.size<100000000)(Ob O:Store)(hJ:iH Ob O):∃O',iH Ob O'/\∀n,c.al.length+5<=n->W kM n HZ [dM c,dG g] O=some (.ret ⟨false,.bool (nC c)⟩,O'):=by
 have hse:=jD c;have lA:=pY c.al;have lB:=mY c.bs;have lK:=yY c.ks;have hU:=mH c;have hon:=kZ c;have lk:=zizb c;have lb:=PD c;have la:=jy c;have w1:IntKind.i64.wrap ((c.ks.length:Int)+c.bs.length)=(c.ks.length:Int)+c.bs.length:=lV (by omega) (by omega);have w2:IntKind.i64.wrap ((c.ks.length:Int)+c.bs.length+c.al.length)=(c.ks.length:Int)+c.bs.length+c.al.length:=lV (by omega) (by omega);have w3:IntKind.i64.wrap ((c.bs.length:Int)+c.al.length)=(c.bs.length:Int)+c.al.length:=lV (by omega) (by omega);unfold nC;cases e1:c.f==1 with
 |true =>refine⟨O,hJ,fun n hn=>?_⟩;obtain⟨n,rfl⟩:∃k,n=k+1:=⟨n-1,by omega⟩;rw[fW (af:=pE) rfl rfl rfl];simp only[pE,sA,seval,kn,hU,lk,lb,la,e1,w1,w2]
 |false =>
  cases e2:c.f==2 with
  |true =>refine⟨O,hJ,fun n hn=>?_⟩;obtain⟨n,rfl⟩:∃k,n=k+1:=⟨n-1,by omega⟩;rw[fW (af:=pE) rfl rfl rfl];simp only[pE,sA,seval,kn,hU,lk,lb,la,e1,e2,w1,w2]
  |false =>
   cases e3:c.f==3 with
   |true =>refine⟨O,hJ,fun n hn=>?_⟩;obtain⟨n,rfl⟩:∃k,n=k+1:=⟨n-1,by omega⟩;rw[fW (af:=pE) rfl rfl rfl];simp only[pE,sA,seval,kn,hU,lk,lb,la,e1,e2,e3,w1,w2]
   |false =>
    cases e11:c.f==11 with
    |true =>refine⟨O,hJ,fun n hn=>?_⟩;obtain⟨n,rfl⟩:∃k,n=k+1:=⟨n-1,by omega⟩;rw[fW (af:=pE) rfl rfl rfl];simp only[pE,sA,seval,kn,hU,lk,lb,la,e1,e2,e3,e11,w1,w2]
    |false =>
     cases e4:c.f==4 with
     |true =>refine⟨O,hJ,fun n hn=>?_⟩;obtain⟨n,rfl⟩:∃k,n=k+1:=⟨n-1,by omega⟩;rw[fW (af:=pE) rfl rfl rfl];cases k2:(c.ks.length:Int)==2<;>simp only[pE,sA,seval,kn,hU,lk,lb,la,e1,e2,e3,e11,e4,k2,w3]
     |false =>
      cases e10:c.f==10 with
      |true =>
       have zka:∀{k2 b0:Bool},((c.ks.length:Int)==2)=k2->((c.bs.length:Int)+c.al.length==0)=b0->(k2&&b0)=false->∃O',iH Ob O'/\∀n,c.al.length+5<=n->W kM n HZ [dM c,dG g] O=some (.ret ⟨false,.bool false⟩,O'):=fun{k2 b0} h1 h2 h3=>by
        refine⟨O,hJ,fun n hn=>?_⟩;obtain⟨n,rfl⟩:∃k,n=k+1:=⟨n-1,by omega⟩;rw[fW (af:=pE) rfl rfl rfl];cases k2 with
        |false=>simp only[pE,sA,seval,kn,hU,lk,lb,la,e1,e2,e3,e11,e4,e10,h1]
        |true =>
         cases b0 with
         |true=>cases h3
         |false=>simp only[pE,sA,seval,kn,hU,lk,lb,la,e1,e2,e3,e11,e4,e10,h1,w3,h2]
       simp only[Bool.or_false,dX,dQ];cases k2:(c.ks.length:Int)==2 with
       |false=>simpa only[Bool.false_and]using zka k2 rfl (Bool.false_and _)
       |true =>
        cases b0:(c.bs.length:Int)+c.al.length==0 with
        |false=>simpa only[Bool.and_false,Bool.false_and]using zka k2 b0 rfl
        |true =>refine⟨GM O (.map Tu 6),hJ.trans ⟨by rw[D5];omega,fun _ _=>rfl,fun _ _=>rfl,fun j hj=>mr (by omega)⟩,fun n hn=>?_⟩;obtain⟨n,rfl⟩:∃k,n=k+2:=⟨n-2,by omega⟩;rw[fW (af:=pE) rfl rfl rfl];have ho:=zcdb (S:=kM) rfl n O;have hmo:=zet (O:=O) (es:=Tu) (c:=6);obtain⟨r,hr1,hr2⟩:=ze0 c.s;simp only[pE,sA,seval,kn,hU,lk,lb,la,e1,e2,e3,e11,e4,e10,k2,w3,b0,ho,hmo,tW,hr1,hr2]
      |false =>
       cases e8:c.f==8 with
       |true =>refine⟨O,hJ,fun n hn=>?_⟩;obtain⟨n,rfl⟩:∃k,n=k+1:=⟨n-1,by omega⟩;rw[fW (af:=pE) rfl rfl rfl];cases k1:(c.ks.length:Int)==1<;>simp only[pE,sA,seval,kn,hU,lk,lb,la,e1,e2,e3,e11,e4,e10,e8,k1]
       |false =>
        cases e9:c.f==9 with
        |false =>refine⟨O,hJ,fun n hn=>?_⟩;obtain⟨n,rfl⟩:∃k,n=k+1:=⟨n-1,by omega⟩;rw[fW (af:=pE) rfl rfl rfl];simp only[pE,sA,seval,kn,hU,lk,lb,la,e1,e2,e3,e11,e4,e10,e8,e9]
        |true =>
         cases k1:(c.ks.length:Int)==1 with
         |false =>refine⟨O,hJ,fun n hn=>?_⟩;obtain⟨n,rfl⟩:∃k,n=k+1:=⟨n-1,by omega⟩;rw[fW (af:=pE) rfl rfl rfl];simp only[pE,sA,seval,kn,hU,lk,lb,la,e1,e2,e3,e11,e4,e10,e8,e9,k1]
         |true =>
          cases b0:(c.bs.length:Int)==0 with
          |false =>refine⟨O,hJ,fun n hn=>?_⟩;obtain⟨n,rfl⟩:∃k,n=k+1:=⟨n-1,by omega⟩;rw[fW (af:=pE) rfl rfl rfl];simp only[pE,sA,seval,kn,hU,lk,lb,la,e1,e2,e3,e11,e4,e10,e8,e9,k1,b0]
          |true =>
           obtain⟨O',hj',hw⟩:=av (S:=kM) rfl rfl c.al (.fn (.func TC) [] []) TC [] rfl (by omega) (iH Ob) 1 (fun a=>Fj a.1) (fun a ha τ hτ=>⟨τ,hτ,fun n hn=>by
            obtain⟨n,rfl⟩:∃k,n=k+1:=⟨n-1,by omega⟩;exact zzm a n τ⟩) O hJ
           refine⟨O',hj',fun n hn=>?_⟩;obtain⟨n,rfl⟩:∃k,n=k+1:=⟨n-1,by omega⟩;rw[fW (af:=pE) rfl rfl rfl];have hw:=hw n (by omega);have had:oP' c.al=aD c:=rfl;rw[had]at hw;simp only[pE,sA,seval,kn,hU,lk,lb,la,e1,e2,e3,e11,e4,e10,e8,e9,k1,b0,hw]
def qB(c:Co):Bool:=!iQ (dW c)&&!(c.al.any fun a=>iQ a.1.vars)
theorem zf1b(al:Hd×Co)(hl:al.1.vars.length<100000000)(n:Nat)(O:Store):W kM (n+2) TG [dA al] O=some (.ret ⟨false,.bool (iQ al.1.vars)⟩,O):=by have rV:=vX al;have hon:=kZ al.2;have sQ:=lP al.1.vars;have ht:=UJ (S:=kM) rfl al.1.vars (by omega) n O;rw[fW (af:=QS) rfl rfl rfl];simp only[QS,sA,seval,kn,rV,ht]
theorem zjib(g:List Tx)(c:Co)(hl:c.size<100000000)(O:Store):∀n,c.al.length+8<=n->W kM n TF [dM c,dG g] O=some (.ret ⟨false,.bool (qB c)⟩,O):=by
 have hse:=jD c;have lA:=pY c.al;have lB:=mY c.bs;have hU:=mH c;have hon:=kZ c
 obtain⟨O',hj',hw⟩:=av (S:=kM) rfl rfl c.al (.fn (.func TG) [] []) TG [] rfl (by omega) (fun τ=>τ=O) 2 (fun a=>iQ a.1.vars) (fun a ha τ hτ=>⟨τ,hτ,fun n hn=>by
  obtain⟨n,rfl⟩:∃k,n=k+2:=⟨n-2,by omega⟩;have:=qP c.al a ha;exact zf1b a (by omega) n τ⟩) O rfl
 subst hj';intro n hn;obtain⟨n,rfl⟩:∃k,n=k+2:=⟨n-2,by omega⟩;rw[fW (af:=FM) rfl rfl rfl];have hw:=hw (n+1) (by omega);have hnm:=nk (S:=kM) rfl c.bs (by omega) n O';have hnc:c.bs.map Prod.fst=dW c:=rfl;rw[hnc]at hnm;have ht:=UJ (S:=kM) rfl (dW c) (by simp[dW];omega) n O';have had:oP' c.al=aD c:=rfl;rw[had]at hw;have hbd:lZ' c.bs=bD c:=rfl;rw[hbd]at hnm;simp only[vP]at hnm;unfold qB;cases hb:iQ (dW c)with
 |true =>rw[hb]at ht;simp only[FM,sA,seval,kn,hU,hnm,ht]
 |false =>rw[hb]at ht;simp only[FM,sA,seval,kn,hU,hnm,ht,hw]
def wP(h:Hd):Bool:=(h.form==1)&&!rB FL h.name h.vars.length
theorem zc9b(al:Hd×Co){gl:List Tx}{gb cb fb:Nat}(O:Store)(hT:TB O gl gb cb fb):∃O',iH O O'/\∀n,13<=n->W kM n IC [dA al,.ptr cb 0] O=some (.ret ⟨false,.bool (wP al.1)⟩,O'):=by
 have rV:=vX al;have hon:=kZ al.2;have sQ:=lP al.1.vars;have AB:=lE al.1.vars;have hcb:=hT.c;unfold wP;cases e1:al.1.form==1 with
 |true =>obtain⟨O',hF,hw⟩:=zf3 al.1.name al.1.vars.length fb O hT.f hT.n.2.2;refine⟨O',hF,fun n hn=>?_⟩;obtain⟨n,rfl⟩:∃k,n=k+1:=⟨n-1,by omega⟩;rw[fW (af:=K6) rfl rfl rfl];have hw:=hw n (by omega);have hfn:D.mA (.fn (.func My) [] [.ptr fb 0])=some (My,[],[.ptr fb 0]):=rfl;simp only[K6,sA,seval,kn,rV,e1,hcb,AB,hfn,hw]
 |false =>refine⟨O,iH.refl,fun n hn=>?_⟩;obtain⟨n,rfl⟩:∃k,n=k+1:=⟨n-1,by omega⟩;rw[fW (af:=K6) rfl rfl rfl];simp only[K6,sA,seval,kn,rV,e1]
def wA(gl:List Tx)(c:Co)(g:List Tx):Bool :=
 !((((c.f==1)&&!g.any (·==c.s))&&!gl.any (·==c.s))||((c.f==2)&&!rB FL c.s (-1)))&&!(c.al.any fun a=>wP a.1)
theorem zgwb{gl:List Tx}(g:List Tx)(c:Co)(hl:c.size<100000000)(hg:g.length<100000000)(hgl:gl.length<100000000){gb cb fb:Nat}(Ob O:Store)(hT:TB Ob gl gb cb fb)(hJ:iH Ob O):∃O',iH Ob O'/\∀n,c.al.length+30<=n->W kM n IB [dM c,dG g,.ptr gb 0,.ptr cb 0] O=some (.ret ⟨false,.bool (wA gl c g)⟩,O'):=by
 have hse:=jD c;have lA:=pY c.al;have hU:=mH c;have hon:=kZ c;have hTs:=hT.fa hJ;have hcb:=hTs.c;have hgb:=hTs.g;have had:oP' c.al=aD c:=rfl;have hfn:D.mA (.fn (.func My) [] [.ptr fb 0])=some (My,[],[.ptr fb 0]):=rfl
 have alts:∀O1,iH Ob O1->∃O',iH Ob O'/\∀n,13+c.al.length+3<=n->W kM n V6 [oP' c.al,.fn (.func IC) [] [.ptr cb 0]] O1=some (.ret ⟨false,.bool (c.al.any fun a=>wP a.1)⟩,O'):=fun O1 h1=>av (S:=kM) rfl rfl c.al (.fn (.func IC) [] [.ptr cb 0]) IC [.ptr cb 0] rfl (by omega) (iH Ob) 13 (fun a=>wP a.1) (fun a ha τ hτ=>by
  obtain⟨τ',hf,hw⟩:=zc9b a τ (hT.fa hτ);exact⟨τ',hτ.trans hf,hw⟩) O1 h1
 unfold wA;generalize(c.al.any fun a=>wP a.1)=na at alts ⊢;cases e1:c.f==1 with
 |true =>
  have e2:(c.f==2)=false:=by
   have:c.f=1:=by simpa using e1
   rw[this];rfl
  cases hb:g.any (·==c.s)with
  |true =>obtain⟨O',hF,hw⟩:=alts O hJ;refine⟨O',hF,fun n hn=>?_⟩;obtain⟨n,rfl⟩:∃k,n=k+2:=⟨n-2,by omega⟩;rw[fW (af:=xY) rfl rfl rfl];have hw:=hw (n+1) (by omega);rw[had]at hw;have k1:=Oo (S:=kM) rfl g c.s (by omega) n O;rw[hb]at k1;simp only[xY,sA,seval,kn,hU,e1,e2,k1,hgb,hw]
  |false =>
   cases hq:gl.any (·==c.s)with
   |true =>obtain⟨O',hF,hw⟩:=alts O hJ;refine⟨O',hF,fun n hn=>?_⟩;obtain⟨n,rfl⟩:∃k,n=k+2:=⟨n-2,by omega⟩;rw[fW (af:=xY) rfl rfl rfl];have hw:=hw (n+1) (by omega);rw[had]at hw;have k1:=Oo (S:=kM) rfl g c.s (by omega) n O;rw[hb]at k1;have k2:=Oo (S:=kM) rfl gl c.s (by omega) n O;rw[hq]at k2;simp only[xY,sA,seval,kn,hU,e1,e2,k1,k2,hgb,hw]
   |false =>refine⟨O,hJ,fun n hn=>?_⟩;obtain⟨n,rfl⟩:∃k,n=k+2:=⟨n-2,by omega⟩;rw[fW (af:=xY) rfl rfl rfl];have k1:=Oo (S:=kM) rfl g c.s (by omega) n O;rw[hb]at k1;have k2:=Oo (S:=kM) rfl gl c.s (by omega) n O;rw[hq]at k2;simp only[xY,sA,seval,kn,hU,e1,k1,k2,hgb]
 |false =>
  cases e2:c.f==2 with
  |true =>
   obtain⟨O1,hF1,hw1⟩:=zf3 c.s (-1) fb O hTs.f hTs.n.2.2;cases hv:rB FL c.s (-1)with
   |true =>obtain⟨O',hF,hw⟩:=alts O1 (hJ.trans hF1);refine⟨O',hF,fun n hn=>?_⟩;obtain⟨n,rfl⟩:∃k,n=k+1:=⟨n-1,by omega⟩;rw[fW (af:=xY) rfl rfl rfl];have hw:=hw n (by omega);have hw1:=hw1 n (by omega);rw[had]at hw;rw[hv]at hw1;simp only[xY,sA,seval,kn,hU,e1,e2,hcb,hfn,hw1,hw]
   |false =>refine⟨O1,hJ.trans hF1,fun n hn=>?_⟩;obtain⟨n,rfl⟩:∃k,n=k+1:=⟨n-1,by omega⟩;rw[fW (af:=xY) rfl rfl rfl];have hw1:=hw1 n (by omega);rw[hv]at hw1;simp only[xY,sA,seval,kn,hU,e1,e2,hcb,hfn,hw1]
  |false =>obtain⟨O',hF,hw⟩:=alts O hJ;refine⟨O',hF,fun n hn=>?_⟩;obtain⟨n,rfl⟩:∃k,n=k+1:=⟨n-1,by omega⟩;rw[fW (af:=xY) rfl rfl rfl];have hw:=hw n (by omega);rw[had]at hw;simp only[xY,sA,seval,kn,hU,e1,e2,hw]
end Go.Fu.X
namespace Go.Fu
open Go Go.Mx
set_option maxRecDepth 10000
set_option maxHeartbeats 4000000
def zT:D:=.agg [.int .i64 0,.int .i64 0,.str [],.dN]
theorem zdab(n:Nat)(O:Store):W SE (n+2) TS [zT] O=some (.ret ⟨false,zT⟩,O):=by
 rw[fW (af:=RX) rfl rfl rfl];have hlt:¬((0:Int)<(0:Int)):=by omega
 simp only[RX,zjs,zT,sA,Nat.reduceAdd,Nat.reduceBEq,kn,jI,iG,hlt]
theorem zwt(n:Nat)(O:Store):W SE (n+3) TR [zT,.dN,.dN] O=some (.ret ⟨false,zT⟩,O):=by rw[fW (af:=RV) rfl rfl rfl];have h1:=zdab n O;simp only[zT]at h1;have e2:((0:Int)==2)=false:=rfl;have e4:((0:Int)==4)=false:=rfl;have e5:((0:Int)==5)=false:=rfl;simp only[RV,zT,sA,Nat.reduceAdd,Nat.reduceBEq,kn,e2,e4,e5,h1]
theorem zg4b(n:Nat)(O:Store):W SE (n+4) pq [zT] O=some (.ret ⟨false,zT⟩,O):=by rw[fW (af:=PX) rfl rfl rfl];have h1:=zwt n O;simp only[zT]at h1;simp only[PX,zT,sA,Nat.reduceAdd,Nat.reduceBEq,kn,h1]
def cV(s:Tx):List Cell:=[⟨false,.int .i64 1⟩,⟨false,.int .i64 0⟩,⟨false,.str s⟩,⟨false,.int .i64 0⟩,⟨false,.int .i64 0⟩,⟨false,.str []⟩,⟨false,.dN⟩,⟨false,.dN⟩,⟨false,.dN⟩,⟨false,.dN⟩]
theorem zvc(n:Nat)(O:Store)(s:Tx)(h:dC O.dE 0=some (cV s)):∃o,W SE (n+2) SN [.ptr 0 0] O=some (.ret ⟨o,.list SI [.agg [.dN,.dN]]⟩,O):=by
 refine⟨true,?_⟩;rw[fW (af:=KU) rfl rfl rfl];have hlt:¬((0:Int)<(0:Int)):=by omega
 have e5:((1:Int)==5)=false:=rfl;have hz:SI.sz=2:=rfl;simp only[cV]at h;simp only[KU,zf,zg,zh,sA,Nat.reduceAdd,Nat.reduceMul,Nat.reduceBEq,Nat.reduceLeDiff,kn,h,jI,iG,hlt,e5,hz]
theorem ZP(f:FuncId)(af:dZ)(n:Nat)(O:Store)(h:(f=Nc/\af=Gi)\/(f=Nb/\af=Gh)\/(f=Na/\af=Gj)):W SE (n+1) f [.dN] O=some (.ret ⟨false,.dN⟩,O):=by
 rcases h with⟨rfl,rfl⟩|⟨rfl,rfl⟩|⟨rfl,rfl⟩
 ·rw[fW (af:=Gi) rfl rfl rfl];simp only[Gi,sA,Nat.reduceBEq,kn]
 ·rw[fW (af:=Gh) rfl rfl rfl];simp only[Gh,sA,Nat.reduceBEq,kn]
 ·rw[fW (af:=Gj) rfl rfl rfl];simp only[Gj,sA,Nat.reduceBEq,kn]
theorem zy8(s:Tx):eW Tm [dM (gY s)] ⟨false,dM (gY s)⟩:=by
 have hd:dM (gY s)=.agg [.int .i64 1,.int .i64 0,.str s,.int .i64 0,.int .i64 0,.str [],.dN,.dN,.dN,.dN]:=eO _;obtain⟨O1,e1⟩:∃O1,O1=GA cH UD (cV s):=⟨_,rfl⟩;have h1:dC O1.dE 0=some (cV s):=by rw[e1];rfl
 have n0:cH.next=0:=rfl;have ht:=zg4b 2;have c1:=fun O=>ZP Nc Gi 5 O (.inl ⟨rfl,rfl⟩);have c2:=fun O=>ZP Nb Gh 5 O (.inr (.inl ⟨rfl,rfl⟩));have c3:=fun O=>ZP Na Gj 5 O (.inr (.inr ⟨rfl,rfl⟩));obtain⟨o,hg⟩:=zvc 4 (SO O1 0 (cV s)) s rL;have hlt:¬((0:Int)<(0:Int)):=by omega
 have hlt1:((0:Int)<(1:Int)):=by omega
 have hlt2:¬((1:Int)<(1:Int)):=by omega
 have w1:IntKind.i64.wrap (0+1)=1:=rfl;have hx:kU 2 (.list SI [.agg [.dN,.dN]]) 0=some (.gC (.agg [.dN,.dN])):=rfl;simp only[cV]at e1 h1 hg;have hself:∀cs,dC (SO O1 0 cs).dE 0=some cs:=fun _=>rL;simp only[zT]at ht;refine uN (af:=PW) (n:=3) (O':=SO O1 0 (cV s)) (uH SE 6) rfl rfl (by simp[fO,mL]) (mL _) ?_;rw[hd];simp only[PW,zio,ziq,zis,zir,sA,Nat.reduceAdd,Nat.reduceBEq,Nat.reduceLeDiff,kn,fP,mB,n0,<-e1,h1,ht,c1,c2,c3,hself,ni,jI,iG,uj,hlt,hg,hlt1,hlt2,hx,w1,cV]
def zhb:List D->Cell->Prop:=fun ds c=>∀s,ds=[dM (gY s)]->c=⟨false,dM (gY s)⟩
theorem zfo{a b:Tx}(h:dM (gY a)=dM (gY b)):a=b:=by have:=qO h;simpa[gY]using this
theorem zhj{S:fC}(hS:dC S Tm=some zhb)(s:Tx)(n:Nat)(O:Store):W S (n+1) Tm [dM (gY s)] O=some (.ret ⟨false,dM (gY s)⟩,O):=by
 obtain⟨c,h1,h2⟩:=vH (S:=S) hS rfl (c:=⟨false,dM (gY s)⟩) (fun s' e=>by
  simp only[aL,and_true]at e;rw[zfo e]) (zy8 s)
 rw[h2,h1 s rfl]
theorem zafb(s:Tx):eW Me [.str s] ⟨false,dM (gY s)⟩:=by have hd:dM (gY s)=.agg [.int .i64 1,.int .i64 0,.str s,.int .i64 0,.int .i64 0,.str [],.dN,.dN,.dN,.dN]:=eO _;refine uN (af:=PV) (n:=1) (O':=cH) (uH SE 1) rfl rfl rfl (mL _) ?_;rw[hd];simp only[PV,sA,Nat.reduceAdd,Nat.reduceBEq,Nat.reduceLeDiff,kn]
def lu:List D->Cell->Prop:=fun ds c=>∀s,ds=[.str s]->c=⟨false,dM (gY s)⟩
theorem zin{S:fC}(hS:dC S Me=some lu)(s:Tx)(n:Nat)(O:Store):W S (n+1) Me [.str s] O=some (.ret ⟨false,dM (gY s)⟩,O):=by
 obtain⟨c,h1,h2⟩:=vH (S:=S) hS rfl (c:=⟨false,dM (gY s)⟩) (fun s' e=>by
  simp only[aL,D.str.injEq,and_true]at e;rw[e]) (zafb s)
 rw[h2,h1 s rfl]
def SV:fC:=[(Me,lu),(Tm,zhb)]
section
variable{C:eV}{n:Nat}{O:Store}
def Up(l:List Tx)(i:Nat):Env:={slots:=[(3,⟨ow i,iI ((l.take i).map gY)⟩),(6,⟨false,dG l⟩),(7,⟨false,.int .i64 l.length⟩),(8,⟨false,.int .i64 i⟩)],dR:=[],boxes:=[],defers:=[]}
theorem zxo(l:List Co)(v:Co)(o:Bool)(ho:l≠[]->o=true)(hl:l.length<1000000000):lM gV 160 ⟨o,iI l⟩ [dM v]=some ⟨true,iI (l++[v])⟩:=Oq Eh uC (by omega) l v o ho hl
theorem zg7b(l:List Tx)(i:Nat)(h:i<l.length)(hl:l.length<1000000000)(h1:C Me [.str l[i]] O=some (.ret ⟨false,dM (gY l[i])⟩,O)):exec C n none K4 (Up l i) O=some (.normal,Up l (i+1),O):=by
 have hlt:((i:Int)<(l.length:Int)):=by omega
 have w:=iE (i:=i) (by omega);have hx:=sZ l i h;have ha:=zxo ((l.take i).map gY) (gY l[i]) (ow i) (fun hne=>Yd (by simpa using hne)) (by simp;omega);have e2:(l.take i).map gY++[gY l[i]]=(l.take (i+1)).map gY:=by rw[<-mC l i h,aU];rfl
 rw[e2]at ha;have hok:=Eh (gY l[i]);have hce:(dM (gY l[i])).cells.length=10:=uC _;simp only[K4,Up,sA,Nat.reduceMul,Nat.reduceBEq,Nat.reduceLeDiff,kn,hlt,hx,h1,hok,hce,ha,w,rA]
theorem zj5b(l:List Tx):exec C n none K4 (Up l l.length) O=some (.exit 0,{Up l l.length with slots:=[(3,⟨ow l.length,iI (l.map gY)⟩),(6,⟨false,dG l⟩),(7,⟨false,.int .i64 l.length⟩),(8,⟨false,.int .i64 l.length⟩),(9,⟨false,.bool false⟩)]},O):=by
 have hlt:¬((l.length:Int)<(l.length:Int)):=by omega
 simp only[K4,Up,sA,Nat.reduceBEq,kn,hlt,aV]
def JF(c:Co):D:=.agg [.int .i64 c.f,.int .i64 c.n,.str c.s,.int .i64 0,.int .i64 0,.str [],.dN,kD c,bD c,aD c]
theorem ak(c:Co):dM c=JF c:=mH c
def zC:List Cell:=[⟨false,.int .i64 0⟩,⟨false,.int .i64 0⟩,⟨false,.str []⟩,⟨false,.int .i64 0⟩,⟨false,.int .i64 0⟩,⟨false,.str []⟩,⟨false,.dN⟩,⟨false,.dN⟩,⟨false,.dN⟩,⟨false,.dN⟩]
def Tv(s:Tx)(l:List Tx)(c:Co)(i:Nat):Env:={slots:=[(10,⟨false,iI (l.map gY)⟩),(11,⟨false,.int .i64 l.length⟩),(12,⟨false,.int .i64 i⟩)],dR:=[(4,(4,0)),(5,(5,0))],boxes:=[(4,zC),(5,Ie c)],defers:=[]}
theorem zaqb(c x:Co):Ie (Df' c x)=[⟨false,.int .i64 4⟩,⟨false,.int .i64 0⟩,⟨false,.str []⟩,⟨false,.int .i64 0⟩,⟨false,.int .i64 0⟩,⟨false,.str []⟩,⟨false,.dN⟩,⟨false,.list gV [JF c,JF x]⟩,⟨false,.dN⟩,⟨false,.dN⟩]:=by rw[<-ak,<-ak];rfl
theorem zdxb(s:Tx)(l:List Tx)(c:Co)(i:Nat)(h:i<l.length)(hl:l.length<1000000000)(h1:C Tm [dM (gY l[i])] O=some (.ret ⟨false,dM (gY l[i])⟩,O)):exec C n none J3 (Tv s l c i) O=some (.normal,Tv s l (Df' c (gY l[i])) (i+1),O):=by
 have hlt:((i:Int)<(l.length:Int)):=by omega
 have w:=iE (i:=i) (by omega);have hx:=uJ (k:=gV) (sz:=10) rfl dM (l.map gY) i (by simpa using h);rw[List.getElem_map]at hx;have hbx:=zaqb c (gY l[i]);have hd:dM (gY l[i])=.agg [.int .i64 1,.int .i64 0,.str l[i],.int .i64 0,.int .i64 0,.str [],.dN,.dN,.dN,.dN]:=eO _;have hb2:JF (gY l[i])=.agg [.int .i64 1,.int .i64 0,.str l[i],.int .i64 0,.int .i64 0,.str [],.dN,.dN,.dN,.dN]:=by rw[<-ak];exact hd
 rw[hd]at h1 hx;rw[hb2]at hbx;have hcs:iI (l.map gY)=gX gV ((l.map gY).map dM):=rfl;rw[<-hcs]at hx;have hon:=kZ c;simp only[JF]at hbx;have hbc:Ie c=[⟨false,.int .i64 c.f⟩,⟨false,.int .i64 c.n⟩,⟨false,.str c.s⟩,⟨false,.int .i64 0⟩,⟨false,.int .i64 0⟩,⟨false,.str []⟩,⟨false,.dN⟩,⟨false,kD c⟩,⟨false,bD c⟩,⟨false,aD c⟩]:=rfl;have hln:lenOf (iI (l.map gY))=some l.length:=by rw[nX,aJ]
 simp only[J3,Tv,hbx,sA,Nat.reduceAdd,Nat.reduceMul,Nat.reduceBEq,Nat.reduceLeDiff,kn,hlt,hx,hbc,h1,w]
theorem zhvb(s:Tx)(l:List Tx)(c:Co):exec C n none J3 (Tv s l c l.length) O=some (.exit 0,{Tv s l c l.length with slots:=[(10,⟨false,iI (l.map gY)⟩),(11,⟨false,.int .i64 l.length⟩),(12,⟨false,.int .i64 l.length⟩),(13,⟨false,.bool false⟩)]},O):=by
 have hlt:¬((l.length:Int)<(l.length:Int)):=by omega
 simp only[J3,Tv,sA,Nat.reduceBEq,kn,hlt]
end
theorem zz6(l:List Tx)(hl:l.length<100000000):eW U9 [dG l] ⟨false,iI (l.map gY)⟩:=by have h0:=nI (body:=exec (W SV 1) 1000000000 none K4) (fun i=>Up l i) (fun _=>cH) l.length (r:=_) (fun _ _ h=>by cases h) (fun i hi=>zg7b l i hi (by omega) (zin (S:=SV) rfl _ 0 cH)) (zj5b l) 0 1000000000 (by omega) (by omega);have e0:iI (([]:List Tx).map gY)=.dN:=rfl;simp only[Up,iG,List.take_zero,e0,yW]at h0;have hln:=lE l;refine eW.weak (o:=ow l.length) rfl (uN (af:=QP) (n:=1000000000) (O':=cH) (uH SV 1) rfl rfl (by simp[fO,jY]) (by rw[iI,Dz];exact wX mL _) ?_);simp only[QP,sA,Nat.reduceBEq,kn,hln,h0]
theorem zacb(s:Tx)(l:List Tx)(hl:l.length<100000000):eW U4 [dM (gY s),iI (l.map gY)] ⟨false,dM (pB (gY s) l)⟩:=by
 have h0:=nI (body:=exec (W SV 1) 1000000000 none J3) (fun i=>Tv s l (pB (gY s) (l.take i)) i) (fun _=>cH) l.length (r:=_) (fun _ _ h=>by cases h) (fun i hi=>by
  have:=zdxb (C:=W SV 1) (n:=1000000000) (O:=cH) s l (pB (gY s) (l.take i)) i hi (by omega) (zhj (S:=SV) rfl _ 0 cH);rw[<-za3,mC l i hi]at this;exact this) (zhvb s l _) 0 1000000000 (by omega) (by omega)
 have e0:pB (gY s) (l.take 0)=gY s:=rfl;have hbv:Ie (gY s)=[⟨false,.int .i64 1⟩,⟨false,.int .i64 0⟩,⟨false,.str s⟩,⟨false,.int .i64 0⟩,⟨false,.int .i64 0⟩,⟨false,.str []⟩,⟨false,.dN⟩,⟨false,.dN⟩,⟨false,.dN⟩,⟨false,.dN⟩]:=rfl;rw[aV]at h0;generalize pB (gY s) l=gm at *
 have hbc:Ie gm=[⟨false,.int .i64 gm.f⟩,⟨false,.int .i64 gm.n⟩,⟨false,.str gm.s⟩,⟨false,.int .i64 0⟩,⟨false,.int .i64 0⟩,⟨false,.str []⟩,⟨false,.dN⟩,⟨false,kD gm⟩,⟨false,bD gm⟩,⟨false,aD gm⟩]:=rfl;simp only[Tv,zC,iG,e0,hbv,hbc]at h0;have hd:dM (gY s)=.agg [.int .i64 1,.int .i64 0,.str s,.int .i64 0,.int .i64 0,.str [],.dN,.dN,.dN,.dN]:=eO _;have hdg:=mH gm;have ho:=zhj (S:=SV) rfl s 0 cH;have hln:lenOf (iI (l.map gY))=some l.length:=by rw[nX,aJ]
 have hon:=kZ gm;rw[hd]at ho;refine uN (af:=PU) (n:=1000000000) (O':=cH) (uH SV 1) rfl rfl (by simp only[fO,mL,iI,Dz,bX,Bool.and_true];exact wX mL _) (mL _) ?_;rw[hd,hdg];simp only[PU,sA,Nat.reduceAdd,Nat.reduceBEq,kn,ho,hln,h0]
def zhc:List D->Cell->Prop:=fun ds c=>∀l:List Tx,ds=[dG l]->c=⟨false,iI (l.map gY)⟩
theorem zhtb{S:fC}(hS:dC S U9=some zhc)(l:List Tx)(hl:l.length<100000000)(n:Nat)(O:Store):W S (n+1) U9 [dG l] O=some (.ret ⟨false,iI (l.map gY)⟩,O):=by
 obtain⟨c,h1,h2⟩:=vH (S:=S) hS rfl (c:=⟨false,iI (l.map gY)⟩) (fun s' e=>by
  simp only[aL,and_true]at e;rw[lN e]) (zz6 l hl)
 rw[h2,h1 l rfl]
theorem zdhb{a b:List Tx}(h:iI (a.map gY)=iI (b.map gY)):a=b:=by
 have h1:=zecb h;have:∀a b:List Tx,a.map gY=b.map gY->a=b:=by
  intro a;induction a with
  |nil=>intro b h;cases b with
   |nil=>rfl
   |cons x r=>simp at h
  |cons x r ih=>intro b h;cases b with
   |nil=>simp at h
   |cons y r2 =>
    simp only[aO,aL]at h;have e:x=y:=by simpa[gY]using h.1
    rw[e,ih _ h.2]
 exact this a b h1
def zia:List D->Cell->Prop:=fun ds c=>∀s (l:List Tx),ds=[dM (gY s),iI (l.map gY)]->c=⟨false,dM (pB (gY s) l)⟩
theorem zkib{S:fC}(hS:dC S U4=some zia)(s:Tx)(l:List Tx)(hl:l.length<100000000)(n:Nat)(O:Store):W S (n+1) U4 [dM (gY s),iI (l.map gY)] O=some (.ret ⟨false,dM (pB (gY s) l)⟩,O):=by
 obtain⟨c,h1,h2⟩:=vH (S:=S) hS rfl (c:=⟨false,dM (pB (gY s) l)⟩) (fun s' l' e=>by
  simp only[aL,and_true]at e;rw[zfo e.1,zdhb e.2]) (zacb s l hl)
 rw[h2,h1 s l rfl]
def zha:List D->Cell->Prop:=fun ds c=>∀(x:Co) so,ds=[dM x,dG so]->c=⟨false,dG (jO x.size x [] so [])⟩
theorem zhsb{S:fC}(hS:dC S U8=some zha)(x:Co)(so:List Tx)(hw:Wf x)(hsz:x.size<10000000)(hs:so.length<10000000)(n:Nat)(O:Store):W S (n+1) U8 [dM x,dG so] O=some (.ret ⟨false,dG (jO x.size x [] so [])⟩,O):=by
 obtain⟨c,h1,h2⟩:=vH (S:=S) hS rfl (c:=⟨false,dG (jO x.size x [] so [])⟩) (fun s' l' e=>by
  simp only[aL,and_true]at e;rw[qO e.1,lN e.2]) (zyg x so hw hsz hs)
 rw[h2,h1 x so rfl]
def kY(k:RowK)(id:Nat):Nat->D
 |0=>.dN
 |n+1=>.arr k id 0 (n+1)
theorem Gx(k:RowK)(id n:Nat)(h:n≠0):kY k id n=.arr k id 0 n:=by
 cases n with
 |zero=>exact absurd rfl h
 |succ n=>rfl
theorem CW(k:RowK)(id n:Nat):lenOf (kY k id n)=some n:=by cases n<;>rfl
theorem NV(k:RowK)(id n:Nat):(kY k id n).one=true/\(kY k id n).ok=true/\(kY k id n).cells=[kY k id n]:=by cases n<;>exact⟨rfl,rfl,rfl⟩
theorem ze3:∀(a b:List Cell)(o:Nat)(new:List Cell),putCells (a++b) (a.length+o) new=a++putCells b o new
 |[],b,o,new=>by simp
 |x::a,b,o,[]=>by
  have:∀(l:List Cell)(n:Nat),putCells l n []=l:=fun l n=>by cases l<;>cases n<;>rfl
  rw[this,this]
 |x::a,b,o,y::new=>by
  rw[aW,aG,show a.length+1+o=(a.length+o)+1 by omega];simp only[putCells,ze3 a b o (y::new),aW]
theorem ze4(l:List Cell)(n:Nat):putCells l n []=l:=by cases l<;>cases n<;>rfl
theorem fu:∀(b r:List Cell)(o:Nat)(new:List Cell),o+new.length<=b.length->putCells (b++r) o new=putCells b o new++r
 |b,r,o,[],_=>by rw[ze4,ze4]
 |[],r,o,y::new,h=>by simp at h
 |x::b,r,0,y::new,h=>by
  simp only[aW,putCells];rw[fu b r 0 new (by simp at h ⊢;omega)]
 |x::b,r,o+1,y::new,h=>by
  simp only[aW,putCells];rw[fu b r o (y::new) (by simp at h ⊢;omega)]
theorem zdv:∀(a b:List Cell)(o n:Nat),pO (a++b) (a.length+o) (n+1)=pO b o (n+1)
 |[],b,o,n=>by simp
 |x::a,b,o,n=>by
  rw[aW,aG,show a.length+1+o=(a.length+o)+1 by omega,pO,zdv a b o n]
theorem CG:∀(b r:List Cell),pO (b++r) 0 b.length=some (b.map fun c=>c.d)
 |[],r=>by cases r<;>rfl
 |x::b,r=>by
  rw[aW,aG,pO,CG b r];rfl
theorem Gk'{α:Type}{g:α->D}{sz:Nat}(h:∀x,(g x).cells.length=sz):∀l:List α,(cellsOf (l.map g)).length=l.length*sz
 |[]=>by simp[cellsOf]
 |x::l=>by
  rw[aO,cellsOf,aF,aJ,h,Gk' h l,aG];rw[Nat.add_mul];omega
theorem YO{α:Type}(g:α->D)(l:List α)(i:Nat)(hi:i<l.length):cellsOf (l.map g)=cellsOf ((l.take i).map g)++((g l[i]).cells.map Cell.of++cellsOf ((l.drop (i+1)).map g)):=by have e:l=l.take i++(l[i]::l.drop (i+1)):=(by rw[<-bU hi,List.take_append_drop]);have:cellsOf (l.map g)=cellsOf ((l.take i++(l[i]::l.drop (i+1))).map g):=congrArg (fun x=>cellsOf (x.map g)) e;rw[this,aU,AV,aO,cellsOf]
theorem gq{α:Type}{g:α->D}{sz:Nat}(hs:∀x,(g x).cells.length=sz)(l:List α)(i:Nat)(hi:i<l.length)(o:Nat)(new:List Cell)(x':α)(ho:o+new.length<=sz)(hx:putCells ((g l[i]).cells.map Cell.of) o new=(g x').cells.map Cell.of):putCells (cellsOf (l.map g)) (i*sz+o) new=cellsOf ((l.set i x').map g):=by
 have hl:=Gk' (sz:=sz) hs (l.take i);rw[bI,Nat.min_eq_left (by omega)]at hl;have hi2:i<(l.set i x').length:=by simpa using hi
 rw[YO g l i hi,YO g (l.set i x') i hi2,<-hl,ze3,fu _ _ _ _ (by rw[aJ,hs];exact ho),hx];have e1:(l.set i x').take i=l.take i:=by rw[List.take_set_of_le (aM i)]
 have e2:(l.set i x').drop (i+1)=l.drop (i+1):=by rw[List.drop_set_of_lt (Nat.lt_succ_self i)]
 rw[e1,e2];simp
theorem zrm{S:fC}(hs:iV S Nb=false)(O:Store)(l:List (Tx×Co))(hl:l.length<100000000):∃id O',(∀n,W S (n+1) Nb [gX iS (l.map dB)] O=some (.ret ⟨false,kY iS id l.length⟩,O'))/\iH O O'/\O.next<=id /\
  (l≠[]->dC O'.dE id=some (cellsOf (l.map dB))/\id<O'.next):=by
 by_cases hne:l=[]
 ·subst hne;refine⟨O.next,O,fun n=>?_,iH.refl,aM _,fun h=>absurd rfl h⟩;rw[fW (af:=Gh) hs rfl rfl];have e:gX iS (([]:List (Tx×Co)).map dB)=.dN:=rfl;simp only[Gh,sA,Nat.reduceBEq,kn];rfl
 ·have e2:decide ((0+l.length)*232<=iN)=true:=decide_eq_true (show(0+l.length)*232<=1099511627776 by omega);have e3:decide (0+l.length<=iN)=true:=decide_eq_true (show 0+l.length<=1099511627776 by omega);have hall:jZ iS.sz (l.map dB)=true:=Vk fun d hd=>by
   obtain⟨s,_,rfl⟩:=bF.1 hd;exact⟨zj8 s,Vx s⟩
  refine⟨O.next+2,fR {fR O iS []with dE:=gI (fR O iS []).dE O.next} iS (cellsOf (l.map dB)),fun n=>?_,⟨?_,fun j h1=>?_,fun j h1=>?_,fun j h1=>rfl⟩,by omega,fun _=>⟨oO _ _ _,by simp[fR]⟩⟩
  ·rw[fW (af:=Gh) hs rfl rfl];have hnil:(gX iS (l.map dB)).yV=some false:=by
    cases l with
    |nil=>exact absurd rfl hne
    |cons x r=>rfl
   have kE:∀os,nB os (gX iS (l.map dB))=some (l.map dB):=fun os=>by rw[Ol]
   have hap:lR (fR O iS []) iS 232 (.arr iS O.next 0 0) (l.map dB)=some (.arr iS (O.next+2) 0 l.length,fR {fR O iS []with dE:=gI (fR O iS []).dE O.next} iS (cellsOf (l.map dB))):=(by have g1:dC (fR O iS []).dE O.next=some []:=oO _ _ _;have g2:dC (fR O iS []).fH O.next=some ⟨iS.el,iS.sz⟩:=oO _ _ _;have ek:iS.same iS=true:=rfl;have hlm:(l.map dB).length=l.length:=aJ ..;simp only[lR,hall,dQ,g1,g2,dH,eP,ek,bW,hlm,Nat.zero_mul,List.take_zero,aZ,bG,aN,Nat.zero_le,decide_true]at e2 e3 ⊢;simp only[e2,e3,aY,dQ];rfl);have hc0:cellsOf []=[]:=rfl;have hag:kY iS (O.next+2) l.length=.arr iS (O.next+2) 0 l.length:=Gx _ _ _ (fun h=>hne (aR.1 h));rw[hag];simp only[Gh,sA,Nat.reduceMul,Nat.reduceBEq,Nat.reduceLeDiff,kn,hnil,fP,mB,hc0,kE,hap]
  ·simp only[fR];omega
  ·simp only[fR];rw[oZ _ _ _ _ (by omega),Fv _ _ (by omega),oZ _ _ _ _ (by omega)]
  ·simp only[fR];rw[oZ _ _ _ _ (by omega),oZ _ _ _ _ (by omega)]
theorem zut{S:fC}(hs:iV S Nc=false)(O:Store)(l:List (Co))(hl:l.length<100000000):∃id O',(∀n,W S (n+1) Nc [gX gV (l.map dM)] O=some (.ret ⟨false,kY gV id l.length⟩,O'))/\iH O O'/\O.next<=id /\
  (l≠[]->dC O'.dE id=some (cellsOf (l.map dM))/\id<O'.next):=by
 by_cases hne:l=[]
 ·subst hne;refine⟨O.next,O,fun n=>?_,iH.refl,aM _,fun h=>absurd rfl h⟩;rw[fW (af:=Gi) hs rfl rfl];have e:gX gV (([]:List (Co)).map dM)=.dN:=rfl;simp only[Gi,sA,Nat.reduceBEq,kn];rfl
 ·have e2:decide ((0+l.length)*160<=iN)=true:=decide_eq_true (show(0+l.length)*160<=1099511627776 by omega);have e3:decide (0+l.length<=iN)=true:=decide_eq_true (show 0+l.length<=1099511627776 by omega);have hall:jZ gV.sz (l.map dM)=true:=Vk fun d hd=>by
   obtain⟨s,_,rfl⟩:=bF.1 hd;exact⟨Eh s,uC s⟩
  refine⟨O.next+2,fR {fR O gV []with dE:=gI (fR O gV []).dE O.next} gV (cellsOf (l.map dM)),fun n=>?_,⟨?_,fun j h1=>?_,fun j h1=>?_,fun j h1=>rfl⟩,by omega,fun _=>⟨oO _ _ _,by simp[fR]⟩⟩
  ·rw[fW (af:=Gi) hs rfl rfl];have hnil:(gX gV (l.map dM)).yV=some false:=by
    cases l with
    |nil=>exact absurd rfl hne
    |cons x r=>rfl
   have kE:∀os,nB os (gX gV (l.map dM))=some (l.map dM):=fun os=>by rw[Ol]
   have hap:lR (fR O gV []) gV 160 (.arr gV O.next 0 0) (l.map dM)=some (.arr gV (O.next+2) 0 l.length,fR {fR O gV []with dE:=gI (fR O gV []).dE O.next} gV (cellsOf (l.map dM))):=(by have g1:dC (fR O gV []).dE O.next=some []:=oO _ _ _;have g2:dC (fR O gV []).fH O.next=some ⟨gV.el,gV.sz⟩:=oO _ _ _;have ek:gV.same gV=true:=rfl;have hlm:(l.map dM).length=l.length:=aJ ..;simp only[lR,hall,dQ,g1,g2,dH,eP,ek,bW,hlm,Nat.zero_mul,List.take_zero,aZ,bG,aN,Nat.zero_le,decide_true]at e2 e3 ⊢;simp only[e2,e3,aY,dQ];rfl);have hc0:cellsOf []=[]:=rfl;have hag:kY gV (O.next+2) l.length=.arr gV (O.next+2) 0 l.length:=Gx _ _ _ (fun h=>hne (aR.1 h));rw[hag];simp only[Gi,sA,Nat.reduceMul,Nat.reduceBEq,Nat.reduceLeDiff,kn,hnil,fP,mB,hc0,kE,hap]
  ·simp only[fR];omega
  ·simp only[fR];rw[oZ _ _ _ _ (by omega),Fv _ _ (by omega),oZ _ _ _ _ (by omega)]
  ·simp only[fR];rw[oZ _ _ _ _ (by omega),oZ _ _ _ _ (by omega)]
theorem zx1{S:fC}(hs:iV S Na=false)(O:Store)(l:List (Hd×Co))(hl:l.length<100000000):∃id O',(∀n,W S (n+1) Na [gX jC (l.map dA)] O=some (.ret ⟨false,kY jC id l.length⟩,O'))/\iH O O'/\O.next<=id /\
  (l≠[]->dC O'.dE id=some (cellsOf (l.map dA))/\id<O'.next):=by
 by_cases hne:l=[]
 ·subst hne;refine⟨O.next,O,fun n=>?_,iH.refl,aM _,fun h=>absurd rfl h⟩;rw[fW (af:=Gj) hs rfl rfl];have e:gX jC (([]:List (Hd×Co)).map dA)=.dN:=rfl;simp only[Gj,sA,Nat.reduceBEq,kn];rfl
 ·have e2:decide ((0+l.length)*216<=iN)=true:=decide_eq_true (show(0+l.length)*216<=1099511627776 by omega);have e3:decide (0+l.length<=iN)=true:=decide_eq_true (show 0+l.length<=1099511627776 by omega);have hall:jZ jC.sz (l.map dA)=true:=Vk fun d hd=>by
   obtain⟨s,_,rfl⟩:=bF.1 hd;exact⟨zj7 s,y8 s⟩
  refine⟨O.next+2,fR {fR O jC []with dE:=gI (fR O jC []).dE O.next} jC (cellsOf (l.map dA)),fun n=>?_,⟨?_,fun j h1=>?_,fun j h1=>?_,fun j h1=>rfl⟩,by omega,fun _=>⟨oO _ _ _,by simp[fR]⟩⟩
  ·rw[fW (af:=Gj) hs rfl rfl];have hnil:(gX jC (l.map dA)).yV=some false:=by
    cases l with
    |nil=>exact absurd rfl hne
    |cons x r=>rfl
   have kE:∀os,nB os (gX jC (l.map dA))=some (l.map dA):=fun os=>by rw[Ol]
   have hap:lR (fR O jC []) jC 216 (.arr jC O.next 0 0) (l.map dA)=some (.arr jC (O.next+2) 0 l.length,fR {fR O jC []with dE:=gI (fR O jC []).dE O.next} jC (cellsOf (l.map dA))):=(by have g1:dC (fR O jC []).dE O.next=some []:=oO _ _ _;have g2:dC (fR O jC []).fH O.next=some ⟨jC.el,jC.sz⟩:=oO _ _ _;have ek:jC.same jC=true:=rfl;have hlm:(l.map dA).length=l.length:=aJ ..;simp only[lR,hall,dQ,g1,g2,dH,eP,ek,bW,hlm,Nat.zero_mul,List.take_zero,aZ,bG,aN,Nat.zero_le,decide_true]at e2 e3 ⊢;simp only[e2,e3,aY,dQ];rfl);have hc0:cellsOf []=[]:=rfl;have hag:kY jC (O.next+2) l.length=.arr jC (O.next+2) 0 l.length:=Gx _ _ _ (fun h=>hne (aR.1 h));rw[hag];simp only[Gj,sA,Nat.reduceMul,Nat.reduceBEq,Nat.reduceLeDiff,kn,hnil,fP,mB,hc0,kE,hap]
  ·simp only[fR];omega
  ·simp only[fR];rw[oZ _ _ _ _ (by omega),Fv _ _ (by omega),oZ _ _ _ _ (by omega)]
  ·simp only[fR];rw[oZ _ _ _ _ (by omega),oZ _ _ _ _ (by omega)]
end Go.Fu
