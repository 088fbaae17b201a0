/- A part of the proof. -/
import Derived.Test.YtldfbnbckiifeaaGreatDoorFgGa
set_option maxHeartbeats 4000000
set_option linter.all false
namespace Go.Fu
open Go Go.Mx
set_option maxRecDepth 10000
theorem zfab(i:Nat):∀b∈sK ((i:Int)+1),b≠39:=zgc 39 (by decide) 20 (i+1) [] fun b hb=>by cases hb
theorem Pl.var{s:Tx}(h0:s≠[])(h:Yh s):Pl (gY s):=Pl.mk (c:=.mk 1 0 s [] [] []) (fun _=>⟨h0,h⟩) (fun b hb=>by cases hb) (fun b hb=>by cases hb) (fun b hb=>by cases hb) (fun b hb=>by cases hb) (fun b hb=>by cases hb)
theorem Pl.app2{a b:Co}(ha:Pl a)(hb:Pl b):Pl (Df' a b):=Pl.mk (c:=.mk 4 0 [] [a,b] [] []) (fun h=>absurd h (by simp[Co.f])) (fun b hb=>by cases hb) (fun b hb=>by cases hb) (fun b hb=>by cases hb) (fun x hx=>by
  simp only[Co.ks,aS,aK,or_false]at hx;rcases hx with rfl|rfl
  ·exact ha
  ·exact hb) (fun b hb=>by cases hb)
theorem zii(s:Tx):Wf (gY s):=Wf.mk (c:=.mk 1 0 s [] [] []) ⟨fun _=>rfl,fun _=>rfl,fun _=>⟨rfl,rfl⟩⟩ (fun b hb=>by cases hb) (fun b hb=>by cases hb) (fun b hb=>by cases hb)
theorem zkab{a b:Co}(ha:Wf a)(hb:Wf b):Wf (Df' a b):=Wf.mk (c:=.mk 4 0 [] [a,b] [] []) ⟨fun _=>rfl,fun _=>rfl,fun h=>absurd h (by simp[Co.f])⟩ (fun b hb=>by cases hb) (fun x hx=>by
  simp only[Co.ks,aS,aK,or_false]at hx;rcases hx with rfl|rfl
  ·exact ha
  ·exact hb) (fun b hb=>by cases hb)
theorem zeg:∀(l:List Tx)(c:Co),Pl c->Wf c->(∀s∈l,s≠[]/\Yh s)->Pl (pB c l)/\Wf (pB c l)
 |[],c,h,w,_=>⟨h,w⟩
 |s::l,c,h,w,hl=>zeg l _ (h.app2 (.var (hl s (aQ ..)).1 (hl s (aQ ..)).2)) (zkab w (zii s)) fun x hx=>hl x (aI _ hx)
def PF(r:Co×List Su):Prop:=(Pl r.1/\Wf r.1)/\∀u∈r.2,rU u
theorem zflb{c:Co}(hp:Pl c)(hw:Wf c)(ar:List Tx)(t:Tx)(m:List Su)(ha:∀s∈ar,Nq s)(ht:Yh t)(hm:∀u∈m,rU u):PF (vI c ar t m):=by
 have hin:∀x∈jO c.size c [] ar [],Nq x:=fun x hx=>ha x (za8b.1 ((zgi _ _ _ _ _ x hx).resolve_left (by simp)));have hn:Yh (sL t m):=fun b hb=>by
  simp only[sL,bJ,aS,aK,or_false]at hb;rcases hb with(h|rfl)|h
  ·exact ht b h
  ·decide
  ·exact zfab m.length b h
 refine⟨zeg _ _ (.var (by simp[sL]) hn) (zii _) fun s hs=>⟨(hin s hs).ne,fun b hb=>((hin s hs).no b hb).2⟩,fun u hu=>?_⟩;simp only[vI,bJ,aS,aK,or_false]at hu;rcases hu with h|rfl
 ·exact hm u h
 ·exact⟨hn,hp,hw,hin⟩
section
theorem zgw{F:Co->List Su->Co×List Su}:∀(l:List (Tx×Co))(m:List Su),(∀p∈l,∀m,(∀u∈m,rU u)->PF (F p.2 m))->(∀u∈m,rU u)->(∀q∈(iP F l m).1,Pl q.2/\Wf q.2)/\∀u∈(iP F l m).2,rU u
 |[],m,_,h=>⟨(fun q hq=>by cases hq),h⟩
 |p::l,m,hF,h=>by
  obtain⟨h1,h2⟩:=hF p (aQ ..) m h;obtain⟨h3,h4⟩:=zgw l _ (fun q hq=>hF q (aI _ hq)) h2;refine⟨fun q hq=>?_,h4⟩;rcases aS.1 hq with rfl|hq
  ·exact h1
  ·exact h3 q hq
theorem zgx{F:Co->List Su->Co×List Su}:∀(l:List Co)(m:List Su),(∀p∈l,∀m,(∀u∈m,rU u)->PF (F p m))->(∀u∈m,rU u)->(∀q∈(jL F l m).1,Pl q/\Wf q)/\∀u∈(jL F l m).2,rU u
 |[],m,_,h=>⟨(fun q hq=>by cases hq),h⟩
 |p::l,m,hF,h=>by
  obtain⟨h1,h2⟩:=hF p (aQ ..) m h;obtain⟨h3,h4⟩:=zgx l _ (fun q hq=>hF q (aI _ hq)) h2;refine⟨fun q hq=>?_,h4⟩;rcases aS.1 hq with rfl|hq
  ·exact h1
  ·exact h3 q hq
theorem zgv{F:Hd->Co->List Su->Co×List Su}:∀(l:List (Hd×Co))(m:List Su),(∀p∈l,∀m,(∀u∈m,rU u)->PF (F p.1 p.2 m))->(∀u∈m,rU u)->(∀q∈(jT F l m).1,Pl q.2/\Wf q.2)/\(jT F l m).1.map Prod.fst=l.map Prod.fst/\∀u∈(jT F l m).2,rU u
 |[],m,_,h=>⟨(fun q hq=>by cases hq),rfl,h⟩
 |p::l,m,hF,h=>by
  obtain⟨h1,h2⟩:=hF p (aQ ..) m h;obtain⟨h3,h5,h4⟩:=zgv l _ (fun q hq=>hF q (aI _ hq)) h2;refine⟨fun q hq=>?_,by simp only[jT,aO,h5],h4⟩;rcases aS.1 hq with rfl|hq
  ·exact h1
  ·exact h3 q hq
end
theorem zi4b{c:Co}{ks:List Co}{bs:List (Tx×Co)}{al:List (Hd×Co)}(h:UY c)(h1:ks.length=c.ks.length)(h2:bs.length=c.bs.length)(h3:al.length=c.al.length):UY (.mk c.f c.n c.s ks bs al):=by
 refine⟨fun e=>?_,fun e=>?_,fun e=>⟨?_,?_⟩⟩
 ·have:=h.1 e;rw[this]at h2;exact aR.1 h2
 ·have:=h.2.1 e;rw[this]at h3;exact aR.1 h3
 ·have:=(h.2.2 e).1;rw[this]at h1;exact aR.1 h1
 ·have:=(h.2.2 e).2;rw[this]at h3;exact aR.1 h3
theorem NM:∀(k:Nat)(c:Co)(lz:Bool)(ar:List Tx)(t:Tx)(m:List Su),Pl c->Wf c->(∀s∈ar,Nq s)->Yh t->(∀u∈m,rU u)->PF (kV k c lz ar t m)
 |0,c,lz,ar,t,m,hp,hw,_,_,hm=>⟨⟨hp,hw⟩,hm⟩
 |k+1,c,lz,ar,t,m,hp,hw,ha,ht,hm=>by
  simp only[kV];cases rC c lz with
  |true=>exact zflb hp hw ar t m ha ht hm
  |false =>
   simp only[dX];obtain⟨p1,p2,p3,p4,p5,p6⟩:=hp.out;obtain⟨w0,w1,w2,w3⟩:=hw.bnd;have hn:∀s∈ar++dW c,Nq s:=fun s hs=>by
    rcases bJ.1 hs with h|h
    ·exact ha s h
    ·obtain⟨b,hb,rfl⟩:=bF.1 h;exact p2 b hb
   obtain⟨b1,b2⟩:=zgw (F:=fun x m=>kV k x true (ar++c.bs.map Prod.fst) t m) c.bs m (fun p hp m hm=>NM k p.2 _ _ t m (p4 p hp) (w1 p hp) hn ht hm) hm;obtain⟨k1,k2⟩:=zgx (F:=fun x m=>kV k x (lz||(c.f==4)) (ar++c.bs.map Prod.fst) t m) c.ks _ (fun p hp m hm=>NM k p _ _ t m (p5 p hp) (w2 p hp) hn ht hm) b2
   obtain⟨a1,a3,a2⟩:=zgv (F:=fun h x m=>kV k x false (ar++h.vars) t m) c.al _ (fun p hp m hm=>NM k p.2 _ _ t m (p6 p hp) (w3 p hp) (fun s hs=>by
    rcases bJ.1 hs with h|h
    ·exact ha s h
    ·exact(p3 p hp).2 s h) ht hm) k2
   have hbf:=zeq (fun x m=>kV k x true (ar++c.bs.map Prod.fst) t m) c.bs m;refine⟨⟨Pl.mk p1 (fun p hp=>?_) (fun a ha=>?_) (fun b hb=>(b1 b hb).1) (fun b hb=>(k1 b hb).1) (fun b hb=>(a1 b hb).1),Wf.mk (zi4b w0 (NT ..) (NS ..) (NR ..)) (fun b hb=>(b1 b hb).2) (fun b hb=>(k1 b hb).2) (fun b hb=>(a1 b hb).2)⟩,a2⟩
   ·have hm:p.1∈(iP (fun x m=>kV k x true (ar++c.bs.map Prod.fst) t m) c.bs m).1.map Prod.fst:=bF.2 ⟨p,hp,rfl⟩;rw[hbf]at hm;obtain⟨q,hq,e⟩:=bF.1 hm;rw[<-e];exact p2 q hq
   ·have hm:a.1∈(jT (fun h x m=>kV k x false (ar++h.vars) t m) c.al (jL (fun x m=>kV k x (lz||(c.f==4)) (ar++c.bs.map Prod.fst) t m) c.ks (iP (fun x m=>kV k x true (ar++c.bs.map Prod.fst) t m) c.bs m).2).2).1.map Prod.fst:=bF.2 ⟨a,ha,rfl⟩;rw[a3]at hm;obtain⟨q,hq,e⟩:=bF.1 hm;rw[<-e];exact p3 q hq
theorem zidb{u:Su}(h:rU u):PF (fS u.body false u.ps u.name []):=NM _ _ _ _ _ _ h.2.1 h.2.2.1 h.2.2.2 h.1 (fun u hu=>by cases hu)
end Go.Fu
namespace Go.Fu.X
open Go Go.Mx Go.Fu
set_option maxRecDepth 10000
theorem l9{R:Co->List Tx->Bool}{gl:List Tx}(hR:∀c g,Good (gl++g) c->R c (pI c g)=true):∀(k:Nat)(c:Co)(g:List Tx),Good (gl++g) c->mN R k c g=true
 |0,_,_,_=>rfl
 |k+1,c,g,h=>by
  obtain⟨h1,h2,h3⟩:=za5b h;simp only[mN,hR c g h,bX,aC,bM];exact⟨fun b hb=>l9 hR k _ _ (h1 b hb),fun b hb=>l9 hR k _ _ (h2 b hb),fun b hb=>l9 hR k _ _ (h3 b hb)⟩
theorem XY{al:List (Hd×Co)}{P:Hd->Bool}(h:∀a∈al,P a.1=false):(al.any fun a=>P a.1)=false:=by
 cases e:al.any fun a=>P a.1 with
 |false=>rfl
 |true =>obtain⟨a,ha,e2⟩:=List.any_eq_true.1 e;rw[h a ha]at e2;cases e2
theorem zjbb{h:Hd}(k:Lm h):Fj h=false:=by
 unfold Fj;rcases k.2.2 with⟨a,_⟩|⟨a,b⟩|⟨a,b⟩
 ·rw[a];rfl
 ·rw[a,b];rfl
 ·rw[a,b];rfl
theorem zi9b{h:Hd}(k:Lm h):wP h=false:=by
 unfold wP;rcases k.2.2 with⟨a,b⟩|⟨a,_⟩|⟨a,_⟩
 ·rw[b,bZ,Bool.and_false]
 ·rw[a];rfl
 ·rw[a];rfl
theorem zb9{ns:List Tx}{c:Co}(h:Good ns c):nC c=true:=by
 have hh:=XI h;cases h with
 |@rH _ s a b h1 _ _ =>show(!(rF s==[]))=true;rw[h1];rfl
 |qX _ _ _ =>have:=XY (P:=Fj) fun a ha=>zjbb (hh a ha);unfold nC;rw[this];rfl
 |_=>rfl
theorem zy3{ns:List Tx}{c:Co}(h:Good ns c):qB c=true:=by have h1:iQ (dW c)=false:=zvb h;have h2:=XY (P:=fun a=>iQ a.vars) fun a ha=>(XI h a ha).2.1;unfold qB;rw[h1,h2];rfl
theorem zww{gl g:List Tx}{c:Co}(h:Good (gl++g) c):wA gl c (pI c g)=true:=by
 have h2:=XY (P:=wP) fun a ha=>zi9b (XI h a ha);rw[zfl gl c g (zb9 h)];unfold Rt;rw[h2];rcases zyh h with⟨e,e2⟩|⟨e,e2⟩|⟨e1,e2⟩
 ·rw[e,e2];rfl
 ·rw[e,e2];rfl
 ·rw[e1,e2];rfl
theorem zbj{us:List Su}(hg:FH us):mM us=0:=by
 have h1:qR (fun c _=>nC c) us=true:=bM.2 fun u hu=>l9 (fun c g h=>zb9 h) _ _ _ (hg.body u hu).1;have h2:qR (fun c _=>qB c) us=true:=bM.2 fun u hu=>l9 (fun c g h=>zy3 h) _ _ _ (hg.body u hu).1;have h3:qR (wA (us.map Su.name)) us=true:=bM.2 fun u hu=>l9 (fun c g h=>zww h) _ _ _ (hg.body u hu).1;have h4:(us.any fun u=>iQ u.ps)=false:=by
  cases e:us.any fun u=>iQ u.ps with
  |false=>rfl
  |true =>obtain⟨u,hu,e2⟩:=List.any_eq_true.1 e;rw[(hg.ps u hu).1]at e2;cases e2
 unfold mM;rw[h1,h2,h3,h4,hg.once];rfl
set_option maxHeartbeats 4000000
def zlb(B B' k:Nat):List D->Cell->Prop:=fun ds c=>∀s,ds=[dU s]->Ci B B' s->s.body.size<=k->c=⟨false,eG (kB k s)⟩
theorem zhhb{B B' k:Nat}{S:fC}(hS:dC S yH=some (zlb B B' k))(s:Su)(hs:Ci B B' s)(hk:s.body.size<=k)(hp:eW yH [dU s] ⟨false,eG (kB k s)⟩)(n:Nat)(O:Store):T S (n+1) yH [dU s] O=some (.ret ⟨false,eG (kB k s)⟩,O):=by
 obtain⟨c,h3,h4⟩:=lD (S:=S) hS rfl (c:=⟨false,eG (kB k s)⟩) (fun a' e _ _=>by
  simp only[aL,and_true]at e;rw[Xb e]) hp
 rw[h4,h3 s rfl hs hk]
def JQ(B B' k:Nat):fC:=[(Ac,gz),(yH,zlb B B' k)]
theorem zcob{B B':Nat}(hB:B<=B')(hB':B'<=9000000):∀(k:Nat)(s:Su),s.body.size<=k->Ci B B' s->eW yH [dU s] ⟨false,eG (kB k s)⟩:=by
 intro k;induction k with
 |zero=>intro s h;have:=lT s.body;omega
 |succ k ih =>
  intro s hk hpre;have hpre':=hpre;obtain⟨hs,hn,hps,hsz⟩:=hpre;have hpos:=lT s.body;have hhp:=jo s.body;have hFO:=(ZE (B:=B) (B':=B') hB hB' (k+1) s hk hpre').2;have h1:=MM (S:=JQ B B' k) rfl s.body false s.ps s.name [] (zye _ _ _ _ _ _ rfl (by omega) (by simp;omega) (by omega)) 0 cH;obtain⟨r1,r2,r3,r4⟩:=DZ (B:=B) (B':=B') (t:=s.name) hs hB (by omega) false s.ps [];have r5:=zee (B:=B) (B':=B') (t:=s.name) hs hB (by omega) s.ps [];have r6:=zc1 s.body s.ps s.name;have eU:kB (k+1) s=⟨s.name,s.ps,(fS s.body false s.ps s.name []).1⟩::(fS s.body false s.ps s.name []).2.flatMap (kB k):=rfl;have hlen:=hFO.2.1;rw[eU]at hlen ⊢;generalize fS s.body false s.ps s.name []=fr at h1 r1 r2 r3 r4 r5 r6 hlen;obtain⟨b,m⟩:=fr;simp only[mW,aN]at h1 r1 r2 r3 r4 r5 r6 hlen;have pre:∀u∈m,Ci B B' u/\u.body.size<=k:=fun u hu=>by
   have h2:=OU m u hu;have h6:=r6 u hu;rcases r4 u hu with h|⟨h3,h4,h5,_⟩
   ·cases h
   ·exact⟨⟨h3,by omega,by omega,by omega⟩,by omega⟩
  have AJ:=il m;simp only[aG]at hlen;have zlhb:∀i,i<=m.length->((m.take i).flatMap (kB k)).length<=(m.flatMap (kB k)).length:=fun i hi=>by
   have:m.flatMap (kB k)=(m.take i).flatMap (kB k)++(m.drop i).flatMap (kB k):=by rw[<-List.flatMap_append,List.take_append_drop]
   rw[this,aF];omega
  have hr:=nI (body:=exec (T (JQ B B' k) 1) (m.length+1) none L6) (fun i=>Uf m ([⟨s.name,s.ps,b⟩]++(m.take i).flatMap (kB k)) i) (fun _=>cH) m.length (r:=_) (fun _ _ h=>by cases h) (fun i hi=>by
   obtain⟨hp,hlt⟩:=pre _ (aX hi);have ht:(m.take (i+1)).flatMap (kB k)=(m.take i).flatMap (kB k)++kB k m[i]:=by
    rw[<-mC m i hi,List.flatMap_append];simp
   have h3:=zlhb (i+1) (by omega);rw[ht,aF]at h3;have:=zerb (C:=T (JQ B B' k) 1) (n:=m.length+1) (O:=cH) m ([⟨s.name,s.ps,b⟩]++(m.take i).flatMap (kB k)) (kB k m[i]) i hi (by omega) (by simp only[aF,aG,aH];omega) (zhhb (S:=JQ B B' k) rfl m[i] hp hlt (ih _ hlt hp) 0 cH);rw[ht,<-bR];exact this) (zieb m _) 0 (m.length+1) (by omega) (by omega)
  rw[aV]at hr;show eW yH [dU s] ⟨false,eG (⟨s.name,s.ps,b⟩::m.flatMap (kB k))⟩;refine eW.weak (o:=true) rfl (jH (af:=QY) (n:=m.length+1) (O':=cH) (jG (JQ B B' k) 1) rfl rfl (by simp[fO,CX]) (uD (⟨s.name,s.ps,b⟩::m.flatMap (kB k))) ?_);have e1:eG [⟨s.name,s.ps,b⟩]=.list jA [dU ⟨s.name,s.ps,b⟩]:=rfl;have e2:[(⟨s.name,s.ps,b⟩:Su)]++m.flatMap (kB k)=⟨s.name,s.ps,b⟩::m.flatMap (kB k):=rfl;simp only[Uf,iG,List.take_zero,List.flatMap_nil,bQ,e1,e2]at hr;simp only[sY,cU,eO,eX]at h1 hr;have en:eG []=.dN:=rfl;rw[en]at h1;generalize eG (⟨s.name,s.ps,b⟩::m.flatMap (kB k))=DR at *
  simp only[QY,sA,seval,kn,sY,cU,eX,Aw,zJ,h1,hr]
theorem shL0{B n:Nat}{is:List In}(h:GC B n is):mP 0 is=is:=by
 have:is.map (lQ 0)=is.map id:=List.map_congr_left fun x hx=>by
  obtain⟨_,hn,_,_⟩:=h.1 x hx;unfold lQ;cases wB x.op with
  |false=>rfl
  |true =>have:IntKind.i64.wrap (x.n+((0:Nat):Int))=x.n:=(by rw[lV (by have:=hn.1;omega) (by have:=hn.2;omega)];omega);simp only[dQ,this];rfl
 show is.map (lQ 0)=is;rw[this,List.map_id]
theorem zdu{B n:Nat}{u:Su}{is:List In}(hF:Yu B u)(hp:rU u)(hg:GC B n is)(hn:n<1000000000)(hx:XR 1 u.body 0 u.ps.reverse is):(⟨u.name,u.ps.length,is⟩:Cd)=kH u:=by
 obtain⟨h1,h2,h3⟩:=hF;have hM:=Li.wi u.ps.reverse 0 0 Li.nil rfl (by simp;omega);rw[bG]at hM;have:=zmqb (B:=B) hx (jE Y5 u.ps.reverse 0 0) [] u.body.size h1 hp.2.1 hM (by simp;omega) (by have:=hg.2;simp;omega) (aM _);have e:pl [] is=is:=by rw[pl];simpa using shL0 hg
 rw[e,bV]at this;unfold kH;rw[this]
theorem NN:∀(k:Nat)(u:Su),rU u->∀v∈kB k u,rU v
 |0,u,h,v,hv=>by rw[bP.1 hv];exact h
 |k+1,u,h,v,hv=>by
  obtain⟨⟨h1,h2⟩,h3⟩:=zidb h;rcases aS.1 hv with rfl|hv
  ·exact⟨h.1,h1,h2,h.2.2.2⟩
  ·obtain⟨x,hx,hv⟩:=List.mem_flatMap.1 hv;exact NN k x (h3 x hx) v hv
def zk3(B B':Nat):List D->Cell->Prop:=fun ds c=>∀s,ds=[dU s]->Ci B B' s->c=⟨false,eG (kW s)⟩
theorem zd2b{B B':Nat}{S:fC}(hS:dC S yH=some (zk3 B B'))(s:Su)(hs:Ci B B' s)(hp:eW yH [dU s] ⟨false,eG (kW s)⟩)(n:Nat)(O:Store):T S (n+1) yH [dU s] O=some (.ret ⟨false,eG (kW s)⟩,O):=by
 obtain⟨c,h3,h4⟩:=lD (S:=S) hS rfl (c:=⟨false,eG (kW s)⟩) (fun a' e _=>by
  simp only[aL,and_true]at e;rw[Xb e]) hp
 rw[h4,h3 s rfl hs]
def Fp(B B':Nat):fC:=[(Qr,JP),(yH,zk3 B B'),(Qs,gy),(Ab,JR B')]
theorem zzv{B B' n:Nat}{fs us:List Su}{cs:List Cd}{j:Nat}(hf:∀u∈fs,Yu B' u)(hp:∀u∈fs,rU u)(hlen:fs.length<100000000)(hn:fs.length<n)(hcs:cs.length+fs.length<1000000000)(hsz:∀u∈fs,u.body.size<1000000) :
  jI (exec (T (Fp B B') 1) n none Rz) n (Dn us cs j fs 0) cH=some (.exit 4,{Dn us (cs++fs.map kH) j fs fs.length with slots:=[(1,⟨false,eG us⟩),(7,⟨true,kF (cs++fs.map kH)⟩),(11,⟨false,.int .i64 j⟩),(12,⟨false,eG fs⟩),(13,⟨false,.int .i64 fs.length⟩),(64,⟨false,.bool false⟩)]},cH):=by
 have hr:=nI (body:=exec (T (Fp B B') 1) n none Rz) (fun i=>Dn us (cs++(fs.take i).map kH) j fs i) (fun _=>cH) fs.length (r:=_) (fun _ _ h=>by cases h) (fun i hi=>by
  have hm:=aX hi;obtain⟨q1,q2,q3⟩:=hf _ hm;have hz:=hsz _ hm;obtain⟨is,⟨gi,xi⟩,hT⟩:=zhi (S:=Fp B B') rfl fs[i].body fs[i].ps.reverse ((zfp _ fs[i].body rfl q1 fs[i].ps.reverse (by simp;omega)).2);have hb:=Jn (S:=Fp B B') rfl fs[i].ps (by omega) 0 cH;have hc:=zdu (hf _ hm) (hp _ hm) gi (by omega) xi;have:=zd5b (C:=T (Fp B B') 1) (n:=n) (O:=cH) us (cs++(fs.take i).map kH) j fs i is hi hlen (by rw[aF,aJ,bI];omega) hb (hT 0 cH);rw[hc]at this;rw[<-mC fs i hi,aU,<-bR];exact this) (zhxb us _ j fs) 0 n (by omega) (by omega)
 rw[aV]at hr;simpa using hr
theorem zpd{B B':Nat}(hB:B<=B')(hB':B'<=9000000)(us:List Su)(hg:FH us)(h6:us.length<=6)(hp:∀u∈us,Ci B B' u/\u.body.size<=1200)(hpl:∀u∈us,rU u):eW IE [gJ FL,eG us] ⟨false,.fN [kF (xK us),.int .i64 0]⟩:=by
 have h0:=zfz (S:=Fp B B') rfl us (by omega) (fun u hu=>by
  obtain⟨⟨_,_,h1,_⟩,h2⟩:=hp u hu;omega) 0 cH
 rw[zbj hg]at h0;have hl0:=nI (body:=exec (T (Fp B B') 1) 1000000 none K8) (qW us) (fun _=>cH) FL.length (r:=_) (fun _ _ h=>by cases h) (fun i hi=>zd0b us i hi) (zhwb us) 0 1000000 (by decide) (by decide);have hF:FL.length=5:=rfl;have hfo:∀u∈us,FO B' u.body.size (kW u)/\(kW u).length<=1200:=fun u hu=>by
  obtain⟨h1,h2⟩:=hp u hu;have:=(ZE (B:=B) (B':=B') hB hB' u.body.size u (aM _) h1).2;exact⟨this,by have:=this.2.1;unfold kW;omega⟩
 have hlen:∀l:List Su,(∀u∈l,u∈us)->(l.flatMap fun u=>(kW u).map kH).length<=1200*l.length:=by
  intro l;induction l with
  |nil=>intro _;simp
  |cons x r ih =>intro hl;have h1:=ih fun u hu=>hl u (aI _ hu);have h2:=(hfo x (hl x (aQ ..))).2;rw[bE,aF,aJ,aG];omega
 have hr:=nI (body:=exec (T (Fp B B') 1) 1000000 none K9) (fun i=>Tz us (FL.map lO++(us.take i).flatMap fun u=>(kW u).map kH) i) (fun _=>cH) us.length (r:=_) (fun _ _ h=>by cases h) (fun i hi=>by
  have hm:=aX hi;obtain⟨hpre,hsz⟩:=hp _ hm;obtain⟨⟨g1,g2,g3⟩,g4⟩:=hfo _ hm;have hll:=hlen (us.take i) fun u hu=>bH hu;rw[bI]at hll;have hFl:=zd2b (S:=Fp B B') rfl us[i] hpre (zcob hB hB' _ _ (aM _) hpre) 0 cH;have h7:=zzv (B:=B) (B':=B') (n:=1000000) (fs:=kW us[i]) (us:=us) (cs:=FL.map lO++(us.take i).flatMap fun u=>(kW u).map kH) (j:=i) g1 (NN _ _ (hpl _ hm)) (by omega) (by omega) (by rw[aF,aJ];omega) (fun v hv=>by have:=(g1 v hv).2.2;omega);have:=zd7b (C:=T (Fp B B') 1) (n:=1000000) (O:=cH) us (FL.map lO++(us.take i).flatMap fun u=>(kW u).map kH) _ i (kW us[i]) hi (by omega) hFl h7;rw[<-mC us i hi,List.flatMap_append,<-bR,bE,List.flatMap_nil,bQ];exact this) (zhyb us _) 0 1000000 (by omega) (by omega)
 rw[aV]at hr;have e0:(FL.map lO++(us.take 0).flatMap fun u=>(kW u).map kH)=FL.map lO:=by simp
 have hcomp:(FL.map lO++us.flatMap fun u=>(kW u).map kH)=xK us:=rfl;simp only[e0]at hr;rw[hcomp]at hr;refine jH (af:=K7) (n:=1000000) (O':=cH) (jG (Fp B B') 1) rfl rfl (by simp[fO,Jr,uD]) (by simp[iF,fO,YM]) ?_;have e1:ow 0=false:=rfl;have e2:kF ((FL.take 0).map lO)=.dN:=rfl;generalize xK us=cs at *
 simp only[qW,iG,e1,e2]at hl0;simp only[Tz,iG]at hr;simp only[K7,sA,seval,kn,h0,hl0,hr]
def Rh(us:List Su)(acc:List Cd)(i:Nat):Env:={slots:=[(7,⟨true,kF acc⟩),(62,⟨false,eG us⟩),(63,⟨false,.int .i64 us.length⟩),(64,⟨false,.int .i64 i⟩)],dR:=[],boxes:=[],defers:=[]}
def Hv(us:List Su)(i:Nat)(vs:List Su)(acc:List Cd)(j:Nat):Env:={slots:=[(7,⟨true,kF acc⟩),(62,⟨false,eG us⟩),(63,⟨false,.int .i64 us.length⟩),(64,⟨false,.int .i64 i⟩),(69,⟨false,eG vs⟩),(70,⟨false,.int .i64 vs.length⟩),(71,⟨false,.int .i64 j⟩)],dR:=[],boxes:=[],defers:=[]}
section
variable{C:eV}{n:Nat}{O:Store}
theorem zhjb(us:List Su)(acc:List Cd)(o:Bool):exec C n none Zs (Hw us acc o 5) O=some (.exit 0,{Hw us acc o 5 with slots:=[(1,⟨false,eG us⟩),(7,⟨o,kF acc⟩),(23,⟨false,gJ FL⟩),(24,⟨false,.int .i64 5⟩),(25,⟨false,.int .i64 (5:Nat)⟩),(26,⟨false,.bool false⟩)]},O):=by
 have hlt:¬(((5:Nat):Int)<5):=by omega
 simp only[Zs,Hw,sA,seval,kn,hlt]
theorem zdnb(us:List Su)(i:Nat)(vs:List Su)(acc:List Cd)(j:Nat)(hj:j<vs.length)(hv:vs.length<100000000)(hl:acc.length<100000000)(c:Cd)(hc:C To [dU vs[j]] O=some (.ret ⟨false,dD c⟩,O)):exec C n none Vf (Hv us i vs acc j) O=some (.normal,Hv us i vs (acc++[c]) (j+1),O):=by
 have hlt:((j:Int)<(vs.length:Int)):=by omega
 have w:=iE (i:=j) (by omega);have hx:=zL vs j hj;generalize vs[j]=u at hx hc;have hon:=kZ u.body;have sQ:=lP u.ps;have hap:=RZ acc c true (fun _=>rfl) (by omega);have hdd:dD c=.agg [.str c.name,.int .i64 c.arity,eM c.body]:=rfl;have hoI:(eM c.body).one=true:=rX;have okI:(eM c.body).ok=true:=qM;have ceI:(eM c.body).cells=[eM c.body]:=qZ;rw[hdd]at hap hc;rw[G5]at hx hc;simp only[Vf,Hv,sA,seval,kn,mB,hlt,hx,hc,hap,w]
theorem zhkb(us:List Su)(i:Nat)(vs:List Su)(acc:List Cd):exec C n none Vf (Hv us i vs acc vs.length) O=some (.exit 6,{Hv us i vs acc vs.length with slots:=[(7,⟨true,kF acc⟩),(62,⟨false,eG us⟩),(63,⟨false,.int .i64 us.length⟩),(64,⟨false,.int .i64 i⟩),(69,⟨false,eG vs⟩),(70,⟨false,.int .i64 vs.length⟩),(71,⟨false,.int .i64 vs.length⟩),(72,⟨false,.bool false⟩)]},O):=by
 have hlt:¬((vs.length:Int)<(vs.length:Int)):=by omega
 simp only[Vf,Hv,sA,seval,kn,hlt]
theorem zdob(us:List Su)(i:Nat)(vs:List Su)(acc acc':List Cd)(hi:i<us.length)(hu:us.length<100000000)(hc:C zZ [dU us[i]] O=some (.ret ⟨false,eG vs⟩,O))
  (hl:jI (exec C n none Vf) n (Hv us i vs acc 0) O=some (.exit 6,{Hv us i vs acc' vs.length with slots:=[(7,⟨true,kF acc'⟩),(62,⟨false,eG us⟩),(63,⟨false,.int .i64 us.length⟩),(64,⟨false,.int .i64 i⟩),(69,⟨false,eG vs⟩),(70,⟨false,.int .i64 vs.length⟩),(71,⟨false,.int .i64 vs.length⟩),(72,⟨false,.bool false⟩)]},O)) :
  exec C n none Zt (Rh us acc i) O=some (.normal,Rh us acc' (i+1),O):=by
 have hlt:((i:Int)<(us.length:Int)):=by omega
 have w:=iE (i:=i) (by omega);have hx:=zL us i hi;generalize us[i]=u at hx hc;have hon:=kZ u.body;have sQ:=lP u.ps;have hlv:=nY vs;rw[G5]at hx hc;simp only[Hv,iG]at hl;simp only[Zt,Rh,sA,seval,kn,mB,hlt,hx,hc,hlv,hl,w]
theorem zhlb(us:List Su)(acc:List Cd):exec C n none Zt (Rh us acc us.length) O=some (.exit 4,{Rh us acc us.length with slots:=[(7,⟨true,kF acc⟩),(62,⟨false,eG us⟩),(63,⟨false,.int .i64 us.length⟩),(64,⟨false,.int .i64 us.length⟩),(65,⟨false,.bool false⟩)]},O):=by
 have hlt:¬((us.length:Int)<(us.length:Int)):=by omega
 simp only[Zt,Rh,sA,seval,kn,hlt]
end
structure F4(us:List Su):Prop where
 good:FH us
 few:us.length<=6
 pre:∀u∈us,Ci 5 200 u/\u.body.size<=1200
 pl:∀u∈us,rU u
theorem YS{us:List Su}(h:F4 us)(u:Su)(hu:u∈us):eW zZ [dU u] ⟨false,eG (kW u)⟩/\(∀v∈kW u,Yu 200 v)/\(kW u).length<=1200:=by obtain⟨h1,h2⟩:=h.pre u hu;obtain⟨h3,h4,h5,_⟩:=ZE (B:=5) (B':=200) (by omega) (by omega) u.body.size u (aM _) h1;exact⟨h3,h4,by unfold kW;omega⟩
theorem zdy{u:Su}(h:Yu 200 u)(hp:rU u):eW To [dU u] ⟨false,dD (kH u)⟩/\(kH u).body.length<9000000:=by have hF:=h;obtain⟨h1,h2,h3⟩:=h;obtain⟨is,_,gi,xi⟩:=(zfp _ u.body rfl h1 u.ps.reverse (by simp;omega)).2;have e:=zdu hF hp gi (by omega) xi;have hl:(kH u).body.length<9000000:=(by rw[<-e];have:=gi.2;show is.length<9000000;omega);exact⟨zx5 u h1 (by omega) (by omega) (by omega),hl⟩
theorem zz7{us:List Su}(h:F4 us):(xK us).length<=7205:=by
 have hlen:∀l:List Su,(∀u∈l,u∈us)->(l.flatMap fun u=>(kW u).map kH).length<=1200*l.length:=by
  intro l;induction l with
  |nil=>intro _;simp
  |cons x r ih =>intro hl;have h1:=ih fun u hu=>hl u (aI _ hu);have h2:=(YS h x (hl x (aQ ..))).2.2;rw[bE,aF,aJ,aG];omega
 have h1:=hlen us fun _ h=>h;have h2:=h.few;have hF:FL.length=5:=rfl;rw[xK,aF,aJ,hF];omega
theorem zdmb{us:List Su}(h:F4 us):∀c∈xK us,c.body.length<9000000:=by
 intro c hc;simp only[xK,bJ,bF,List.mem_flatMap]at hc;rcases hc with⟨f,_,rfl⟩|⟨u,hu,v,hv,rfl⟩
 ·simp[lO]
 ·exact(zdy ((YS h u hu).2.1 v hv) (NN _ _ (h.pl u hu) v hv)).2
theorem zz8{us:List Su}(h:F4 us):∃O',nA Ra (fun _ _ _=>none) Oj 0 (exec (W (wT us) 2) 100000 none Oj.body (mX [gJ FL,eG us]) cH)=some (.ret ⟨false,.fN [kF (xK us),.int .i64 0]⟩,O'):=by
 have Ey:=h.few;have hgw:eW Xx [gJ FL,eG us] ⟨false,.int .i64 0⟩:=by
  have:=zeh us (by omega) fun u hu=>by
   obtain⟨⟨_,_,h1,_⟩,h2⟩:=h.pre u hu;omega
  rwa [zbj h.good]at this
 obtain⟨cw,hw1,hw2⟩:=vH (S:=wT us) (s:=zk6 us) rfl rfl (ds:=[gJ FL,eG us]) (c:=⟨false,.int .i64 0⟩) (fun _=>rfl) hgw;rw[hw1 rfl]at hw2;have hF:FL.length=5:=rfl
 obtain⟨r,hr,O1,hr1⟩:=Vu (body:=exec (W (wT us) 2) 100000 none Zs)
  (fun i e _=>i<=5/\e=Hw us ((FL.take i).map lO) (ow i) i)
  (fun r=>∃O1,r=(.exit 0,{Hw us (FL.map lO) true 5 with slots:=[(1,⟨false,eG us⟩),(7,⟨true,kF (FL.map lO)⟩),(23,⟨false,gJ FL⟩),(24,⟨false,.int .i64 5⟩),(25,⟨false,.int .i64 (5:Nat)⟩),(26,⟨false,.bool false⟩)]},O1)) 5
  (fun i e O hi ⟨_,he⟩=>by
   subst he
   obtain⟨O',hs⟩:=zejb us ((FL.take i).map lO) (ow i) (fun hne=>by
    cases i with
    |zero=>exact absurd rfl hne
    |succ i=>rfl) i (by omega) (by rw[aJ,bI];omega) O 1 100000 (by omega)
   refine⟨_,_,hs,by omega,?_⟩;rw[<-mC FL i (by omega),aU];rfl)
  (fun e O ⟨_,he⟩=>by
   subst he;exact⟨_,zhjb us _ _,fun _ _ h=>(by cases h),O,rfl⟩) 0 100000 (Hw us [] false 0) cH (by omega) (by omega) ⟨by omega,rfl⟩
 subst hr1;have hfo:=YS h;have hlen:∀l:List Su,(∀u∈l,u∈us)->(l.flatMap fun u=>(kW u).map kH).length<=1200*l.length:=by
  intro l;induction l with
  |nil=>intro _;simp
  |cons x r ih =>intro hl;have h1:=ih fun u hu=>hl u (aI _ hu);have h2:=(hfo x (hl x (aQ ..))).2.2;rw[bE,aF,aJ,aG];omega
 have hrun:=nI (body:=exec (W (wT us) 2) 100000 none Zt) (fun i=>Rh us (FL.map lO++(us.take i).flatMap fun u=>(kW u).map kH) i) (fun _=>O1) us.length (r:=_) (fun _ _ h=>by cases h) (fun i hi=>by
  have hm:=aX hi;obtain⟨f1,f2,f3⟩:=hfo _ hm
  obtain⟨cf,hf1,hf2⟩:=vH (S:=wT us) (s:=zk5) rfl rfl (ds:=[dU us[i]]) (c:=⟨false,eG (kW us[i])⟩) (fun u hu=>by
   simp only[aL,and_true]at hu;rw[Xb hu]) f1
  rw[hf1 _ rfl]at hf2;have hll:=hlen (us.take i) fun u hu=>bH hu;rw[bI]at hll
  have hin:=nI (body:=exec (W (wT us) 2) 100000 none Vf) (fun j=>Hv us i (kW us[i]) (FL.map lO++((us.take i).flatMap fun u=>(kW u).map kH)++((kW us[i]).take j).map kH) j) (fun _=>O1) (kW us[i]).length (r:=_) (fun _ _ h=>by cases h) (fun j hj=>by
   have hmj:=aX hj;obtain⟨g1,_⟩:=zdy (f2 _ hmj) (NN _ _ (h.pl _ hm) _ hmj)
   obtain⟨cc,hc1,hc2⟩:=vH (S:=wT us) (s:=zk4) rfl rfl (ds:=[dU (kW us[i])[j]]) (c:=⟨false,dD (kH (kW us[i])[j])⟩) (fun u hu=>by
    simp only[aL,and_true]at hu;rw[Xb hu]) g1
   rw[hc1 _ rfl]at hc2
   have hs:=zdnb (C:=W (wT us) 2) (n:=100000) (O:=O1) us i (kW us[i]) (FL.map lO++((us.take i).flatMap fun u=>(kW u).map kH)++((kW us[i]).take j).map kH) j hj (by omega) (by
    rw[aF,aF,aJ,aJ,bI];omega) (kH (kW us[i])[j]) (hc2 1 O1)
   rw[<-mC (kW us[i]) j hj,aU,<-bR];exact hs) (zhkb us i (kW us[i]) _) 0 100000 (by omega) (by omega)
  rw[aV]at hin;have e0:FL.map lO++((us.take i).flatMap fun u=>(kW u).map kH)++((kW us[i]).take 0).map kH=FL.map lO++((us.take i).flatMap fun u=>(kW u).map kH):=by simp
  simp only[e0]at hin;have hs:=zdob (C:=W (wT us) 2) (n:=100000) (O:=O1) us i (kW us[i]) _ _ hi (by omega) (hf2 1 O1) hin;rw[<-mC us i hi,List.flatMap_append,<-bR,bE,List.flatMap_nil,bQ];exact hs) (zhlb us _) 0 100000 (by omega) (by omega)
 rw[aV]at hrun;have e0:(FL.map lO++(us.take 0).flatMap fun u=>(kW u).map kH)=FL.map lO:=by simp
 simp only[e0]at hrun;have hcomp:(FL.map lO++us.flatMap fun u=>(kW u).map kH)=xK us:=rfl;rw[hcomp]at hrun;have hw:=hw2 1 cH;have hlF:lenOf (gJ FL)=some 5:=rfl;have hlU:=nY us;have h5:((5:Nat):Int)=5:=rfl;have hnil:kF []=.dN:=rfl;have ow0:ow 0=false:=rfl;have okD:(kF (xK us)).ok=true:=qM;have onD:(kF (xK us)).one=true:=rX;generalize xK us=cs at *
 generalize FL.map lO=fc at *
 refine⟨O1,?_⟩;simp only[Hw,Rh,iG,h5,hnil]at hr hrun;simp only[Oj,sA,seval,kn,hw,hlF,hlU,h5,hr,hrun]
theorem zol{us:List Su}(h:F4 us):eW Tn [gJ FL,eG us] ⟨false,.fN [kF (xK us),.int .i64 0]⟩:=by obtain⟨O',hr⟩:=zz8 h;exact uN (af:=Oj) (n:=100000) (O':=O') (uH (wT us) 2) rfl rfl (by simp[fO,uD];rfl) (by simp[iF,fO,YM]) hr
end Go.Fu.X
namespace Go.Fu
open Go Go.Mx
set_option maxRecDepth 10000
set_option maxHeartbeats 4000000
section
variable{C:eV}{n:Nat}{O:Store}
end
structure zonb(us:List Su):Prop where
 good:FH us
 few:us.length<=6
 pre:∀u∈us,Ci 6 200 u/\u.body.size<=1200
end Go.Fu
