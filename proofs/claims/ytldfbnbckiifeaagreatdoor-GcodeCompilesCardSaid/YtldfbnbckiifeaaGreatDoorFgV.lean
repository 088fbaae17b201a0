/- A part of the proof. -/
import Derived.Test.YtldfbnbckiifeaaGreatDoorFgO
set_option maxHeartbeats 4000000
set_option linter.all false
namespace Go.Fu
open Go Go.Mx
set_option maxRecDepth 10000
inductive pU(B:Nat):Co->Prop
 |leaf {f n s}:(f=1\/f=2\/f=3\/f=11)->Small n->s.length<=B->pU B (.mk f n s [] [] [])
 |app {s a b}:s.length<=B->pU B a->pU B b->pU B (.mk 4 0 s [a,b] [] [])
 |rH {s a b}:s.length<=B->pU B a->pU B b->pU B (.mk 10 0 s [a,b] [] [])
 |lt {s b bs}:s.length<=B->(∀p∈bs,p.1.length<=B)->(∀p∈bs,pU B p.2)->pU B b->pU B (.mk 8 0 s [b] bs [])
 |qX {s x al}:s.length<=B->(∀a∈al,Small a.1.num/\a.1.name.length<=B/\∀v∈a.1.vars,v.length<=B)->pU B x->(∀a∈al,pU B a.2)->pU B (.mk 9 0 s [x] [] al)
inductive Fl(B:Nat):Bool->Co->Prop
 |leaf {z f n s}:(f=1\/f=2\/f=3)->Small n->s.length<=B->Fl B z (.mk f n s [] [] [])
 |app {z s a b}:s.length<=B->Fl B true a->Fl B true b->Fl B z (.mk 4 0 s [a,b] [] [])
 |lt {z s b bs}:s.length<=B->(∀p∈bs,p.1.length<=B)->(∀p∈bs,Fl B true p.2)->Fl B z b->Fl B z (.mk 8 0 s [b] bs [])
 |fail {n s}:Fl B false (.mk 11 n s [] [] [])
 |rH {s a b}:s.length<=B->Fl B false a->Fl B false b->Fl B false (.mk 10 0 s [a,b] [] [])
 |qX {s x al}:s.length<=B->(∀a∈al,Small a.1.num/\a.1.name.length<=B/\∀v∈a.1.vars,v.length<=B)->Fl B false x->(∀a∈al,Fl B false a.2)->Fl B false (.mk 9 0 s [x] [] al)
theorem zfa{B:Nat}{c:Co}(h:pU B c):∀x∈eT c,pU B x:=by
 cases h with
 |leaf _ _ _=>intro x hx;simp[eT,co]at hx
 |app _ ha hb =>
  intro x hx;simp only[eT,co,aZ,bG,bQ,aS,aK,or_false]at hx;rcases hx with rfl|rfl
  ·exact ha
  ·exact hb
 |rH _ ha hb =>
  intro x hx;simp only[eT,co,aZ,bG,bQ,aS,aK,or_false]at hx;rcases hx with rfl|rfl
  ·exact ha
  ·exact hb
 |lt _ _ h2 h3 =>
  intro x hx;simp only[eT,co,aZ,bQ,bJ,bF,aS,aK,or_false]at hx;rcases hx with⟨p,hp,rfl⟩|rfl
  ·exact h2 p hp
  ·exact h3
 |qX _ _ h2 h3 =>
  intro x hx;simp only[eT,co,aZ,bG,bJ,bF,aS,aK,or_false]at hx;rcases hx with rfl|⟨p,hp,rfl⟩
  ·exact h2
  ·exact h3 p hp
theorem zcwb{B:Nat}{c:Co}(h:pU B c):c.s.length<=B:=by cases h<;>assumption
theorem za1{B:Nat}:∀(k:Nat)(c:Co)(g s h:List Tx),pU B c->∀x∈jO k c g s h,x∈h\/x.length<=B
 |0,c,g,s,h,_,x,hx=>.inl hx
 |k+1,c,g,s,h,hs,x,hx=>by
  simp only[jO]at hx;cases hn:pP c g s h with
  |true =>rw[hn]at hx;simp only[dQ,bJ,aS,aK,or_false]at hx;exact hx.imp id fun e=>by rw[e];exact zcwb hs
  |false =>
   rw[hn]at hx;simp only[dX]at hx;have hf:∀(n:Nat),n<=(eT c).length->∀x∈(List.range n).foldl (fun h i=>jO k ((eT c).getD i c0) (g++lC c i) s h) h,x∈h\/x.length<=B:=by
    intro n;induction n with
    |zero=>intro _ x hx;exact .inl hx
    |succ n yn =>
     intro hle x hx;rw[List.range_succ,List.foldl_append]at hx;simp only[List.foldl_cons,List.foldl_nil]at hx;have hlt:n<(eT c).length:=by omega
     rw[iU _ _ _ hlt]at hx;rcases za1 k _ _ _ _ (zfa hs _ (aX hlt)) x hx with h1|h1
     ·exact yn (by omega) x h1
     ·exact .inr h1
   exact hf _ (aM _) x hx
def mW:List Su->Nat
 |[]=>0
 |u::r=>u.body.size+mW r
theorem XX(a b:List Su):mW (a++b)=mW a+mW b:=by
 induction a with
 |nil=>simp[mW]
 |cons x r ih=>simp only[aW,mW,ih];omega
def UI(B:Nat)(t:Tx)(u:Su):Prop:=pU B u.body/\u.name.length<=t.length+22/\u.ps.length<=u.body.size/\∀p∈u.ps,p.length<=B
def JS(B B':Nat)(t:Tx)(z:Bool)(c:Co)(m:List Su)(r:Co×List Su):Prop:=Fl B' z r.1/\r.1.size<=3*c.size/\mW r.2<=mW m+c.size/\∀u∈r.2,u∈m\/UI B t u
section
variable{B B':Nat}{t:Tx}
theorem ZO{F:Co->List Su->Co×List Su}:∀(l:List (Tx×Co))(m:List Su),(∀p∈l,∀m,JS B B' t true p.2 m (F p.2 m)) ->
  (∀q∈(iP F l m).1,Fl B' true q.2)/\(iP F l m).1.map Prod.fst=l.map Prod.fst/\gG (iP F l m).1<=3*gG l/\mW (iP F l m).2<=mW m+gG l/\∀u∈(iP F l m).2,u∈m\/UI B t u
 |[],m,_=>⟨fun q hq=>by simp[iP]at hq,rfl,by simp[iP,gG],by simp[iP],fun u hu=>.inl hu⟩
 |(s,c)::l,m,h=>by
  obtain⟨a1,a2,a3,a4⟩:=h (s,c) (aQ ..) m;obtain⟨b1,b2,b3,b4,b5⟩:=ZO l (F c m).2 fun q hq=>h q (aI _ hq);simp only[iP]at a1 a2 a3 a4 ⊢;refine⟨fun q hq=>?_,by simp only[aO,b2],by simp only[gG];omega,by simp only[gG];omega,fun u hu=>?_⟩
  ·rcases aS.1 hq with rfl|hq
   ·exact a1
   ·exact b1 q hq
  ·rcases b5 u hu with h1|h1
   ·exact a4 u h1
   ·exact .inr h1
theorem A8{z:Bool}{F:Co->List Su->Co×List Su}:∀(l:List Co)(m:List Su),(∀p∈l,∀m,JS B B' t z p m (F p m)) ->
  (∀q∈(jL F l m).1,Fl B' z q)/\fV (jL F l m).1<=3*fV l/\mW (jL F l m).2<=mW m+fV l/\∀u∈(jL F l m).2,u∈m\/UI B t u
 |[],m,_=>⟨fun q hq=>by simp[jL]at hq,by simp[jL,fV],by simp[jL],fun u hu=>.inl hu⟩
 |c::l,m,h=>by
  obtain⟨a1,a2,a3,a4⟩:=h c (aQ ..) m;obtain⟨b1,b3,b4,b5⟩:=A8 l (F c m).2 fun q hq=>h q (aI _ hq);simp only[jL]at a1 a2 a3 a4 ⊢;refine⟨fun q hq=>?_,by simp only[fV];omega,by simp only[fV];omega,fun u hu=>?_⟩
  ·rcases aS.1 hq with rfl|hq
   ·exact a1
   ·exact b1 q hq
  ·rcases b5 u hu with h1|h1
   ·exact a4 u h1
   ·exact .inr h1
theorem ZN{F:Hd->Co->List Su->Co×List Su}:∀(l:List (Hd×Co))(m:List Su),(∀p∈l,∀m,JS B B' t false p.2 m (F p.1 p.2 m)) ->
  (∀q∈(jT F l m).1,Fl B' false q.2)/\(jT F l m).1.map Prod.fst=l.map Prod.fst/\gP (jT F l m).1<=3*gP l/\mW (jT F l m).2<=mW m+gP l/\∀u∈(jT F l m).2,u∈m\/UI B t u
 |[],m,_=>⟨fun q hq=>by simp[jT]at hq,rfl,by simp[jT,gP],by simp[jT],fun u hu=>.inl hu⟩
 |(s,c)::l,m,h=>by
  obtain⟨a1,a2,a3,a4⟩:=h (s,c) (aQ ..) m;obtain⟨b1,b2,b3,b4,b5⟩:=ZN l (F s c m).2 fun q hq=>h q (aI _ hq);simp only[jT]at a1 a2 a3 a4 ⊢;refine⟨fun q hq=>?_,by simp only[aO,b2],by simp only[gP];omega,by simp only[gP];omega,fun u hu=>?_⟩
  ·rcases aS.1 hq with rfl|hq
   ·exact a1
   ·exact b1 q hq
  ·rcases b5 u hu with h1|h1
   ·exact a4 u h1
   ·exact .inr h1
theorem zc3{z:Bool}:∀(l:List Tx)(c:Co),(∀z,Fl B' z c)->(∀x∈l,x.length<=B')->Fl B' z (pB c l)
 |[],c,h,_=>h z
 |s::l,c,h,hl=>zc3 l (Df' c (gY s)) (fun z=>.app (by simp) (h true) (.leaf (.inl rfl) ⟨by decide,by decide⟩ (hl s (aQ ..)))) fun x hx=>hl x (aI _ hx)
theorem ZM{z:Bool}{c:Co}{ar:List Tx}{m:List Su}(hs:pU B c)(hB:B<=B')(ht:t.length+22<=B'):JS B B' t z c m (vI c ar t m):=by
 have hn:(sL t m).length<=t.length+22:=(by have:=YH ((m.length:Int)+1);simp only[sL,aF,aG,aH];omega);have hfl:=BS c.size c [] ar [];simp only[aH,aN]at hfl;have hp:=lT c;have hnm:∀x∈jO c.size c [] ar [],x.length<=B:=fun x hx=>(za1 _ _ _ _ _ hs x hx).resolve_left (by simp);refine⟨zc3 _ _ (fun z=>.leaf (.inl rfl) ⟨by decide,by decide⟩ (by omega)) fun x hx=>by have:=hnm x hx;omega,?_,?_,fun u hu=>?_⟩
 ·simp only[vI,zs6,zfb];omega
 ·simp only[vI,XX,mW];omega
 ·simp only[vI,bJ,aS,aK,or_false]at hu;exact hu.imp id fun e=>by subst e;exact⟨hs,hn,hfl,hnm⟩
theorem DZ{c:Co}(hs:pU B c)(hB:B<=B')(ht:t.length+22<=B'):∀(z:Bool)(ar:List Tx)(m:List Su),JS B B' t z c m (fS c z ar t m):=by
 induction hs with
 |@leaf f n s hf hn hl =>
  intro z ar m;cases kE:rC (.mk f n s [] [] []) z with
  |true =>rw[y9 _ _ _ _ _ kE];exact ZM (.leaf hf hn hl) hB ht
  |false =>
   rw[Kq _ _ _ _ _ kE];simp only[co,fB,fK,fA,aH,List.take_nil,iP,jL,jT];refine⟨?_,by simp only;omega,by simp only;omega,fun u hu=>.inl hu⟩;rcases hf with rfl|rfl|rfl|rfl
   ·exact .leaf (.inl rfl) hn (by omega)
   ·exact .leaf (.inr (.inl rfl)) hn (by omega)
   ·exact .leaf (.inr (.inr rfl)) hn (by omega)
   ·cases z with
    |true=>cases kE
    |false=>exact .fail
 |@app s a b hl _ _ iha ihb =>
  intro z ar m;have kE:rC (.mk 4 0 s [a,b] [] []) z=false:=by cases z<;>rfl
  rw[Kq _ _ _ _ _ kE];have e:(z||((4:Int)==4))=true:=by cases z<;>rfl
  have hk:=A8 (B:=B) (B':=B') (t:=t) (z:=true) (F:=fun x m=>fS x true (ar++[]) t m) [a,b] m fun p hp m=>by
   simp only[aS,aK,or_false]at hp;rcases hp with rfl|rfl
   ·exact iha _ _ _
   ·exact ihb _ _ _
  simp only[co,fB,fK,fA,aH,List.take_nil,iP,jT,e,aZ,aV];obtain⟨k1,k2,k3,k4⟩:=hk;refine⟨?_,?_,?_,k4⟩
  ·simp only[jL]at k1 ⊢;exact .app (by omega) (k1 _ (by simp)) (k1 _ (by simp))
  ·simp only[Co.size,gG,gP]at k2 ⊢;omega
  ·simp only[Co.size,gG,gP]at k3 ⊢;omega
 |@rH s a b hl ha hb iha ihb =>
  intro z ar m;cases z with
  |true =>rw[y9 _ _ _ _ _ rfl];exact ZM (.rH hl ha hb) hB ht
  |false =>
   rw[Kq _ _ _ _ _ rfl];have e:(false||((10:Int)==4))=false:=rfl;have hk:=A8 (B:=B) (B':=B') (t:=t) (z:=false) (F:=fun x m=>fS x false (ar++[]) t m) [a,b] m fun p hp m=>by
    simp only[aS,aK,or_false]at hp;rcases hp with rfl|rfl
    ·exact iha _ _ _
    ·exact ihb _ _ _
   simp only[co,fB,fK,fA,aH,List.take_nil,iP,jT,e,aZ,aV];obtain⟨k1,k2,k3,k4⟩:=hk;refine⟨?_,?_,?_,k4⟩
   ·simp only[jL]at k1 ⊢;exact .rH (by omega) (k1 _ (by simp)) (k1 _ (by simp))
   ·simp only[Co.size,gG,gP]at k2 ⊢;omega
   ·simp only[Co.size,gG,gP]at k3 ⊢;omega
 |@lt s b bs hl hbn hbs hb yo ihb =>
  intro z ar m;have kE:rC (.mk 8 0 s [b] bs []) z=false:=by cases z<;>rfl
  rw[Kq _ _ _ _ _ kE];have e:(z||((8:Int)==4))=z:=by cases z<;>rfl
  obtain⟨b1,b2,b3,b4,b5⟩:=ZO (B:=B) (B':=B') (t:=t) (F:=fun x m=>fS x true (ar++bs.map Prod.fst) t m) bs m fun p hp m=>yo p hp _ _ _;obtain⟨k1,k2,k3,k4⟩:=A8 (B:=B) (B':=B') (t:=t) (z:=z) (F:=fun x m=>fS x z (ar++bs.map Prod.fst) t m) [b] (iP (fun x m=>fS x true (ar++bs.map Prod.fst) t m) bs m).2 fun p hp m=>by
   simp only[aS,aK,or_false]at hp;subst hp;exact ihb _ _ _
  simp only[co,fB,fK,fA,aH,List.take_nil,jT,e,aV];refine⟨?_,?_,?_,fun u hu=>?_⟩
  ·simp only[jL]at k1 ⊢;refine .lt (by omega) (fun p hp=>?_) b1 (k1 _ (by simp));have hm:p.1∈(iP (fun x m=>fS x true (ar++bs.map Prod.fst) t m) bs m).1.map Prod.fst:=bF.2 ⟨p,hp,rfl⟩;rw[b2]at hm;obtain⟨q,hq,e⟩:=bF.1 hm;have:=hbn q hq;rw[<-e];omega
  ·simp only[Co.size,gP]at k2 ⊢;omega
  ·simp only[Co.size,gP]at k3 ⊢;omega
  ·rcases k4 u hu with h1|h1
   ·exact b5 u h1
   ·exact .inr h1
 |@qX s x al hl hal hx hxs KN yo =>
  intro z ar m;cases z with
  |true =>rw[y9 _ _ _ _ _ rfl];exact ZM (.qX hl hal hx hxs) hB ht
  |false =>
   rw[Kq _ _ _ _ _ rfl];have e:(false||((9:Int)==4))=false:=rfl;obtain⟨k1,k2,k3,k4⟩:=A8 (B:=B) (B':=B') (t:=t) (z:=false) (F:=fun x m=>fS x false (ar++[]) t m) [x] m fun p hp m=>by
    simp only[aS,aK,or_false]at hp;subst hp;exact KN _ _ _
   obtain⟨a1,a2,a3,a4,a5⟩:=ZN (B:=B) (B':=B') (t:=t) (F:=fun h x m=>fS x false (ar++h.vars) t m) al (jL (fun x m=>fS x false (ar++[]) t m) [x] m).2 fun p hp m=>yo p hp _ _ _;simp only[co,fB,fK,fA,aH,List.take_nil,iP,e,aZ,aV];refine⟨?_,?_,?_,fun u hu=>?_⟩
   ·simp only[jL]at k1 a1 a2 ⊢;refine .qX (by omega) (fun p hp=>?_) (k1 _ (by simp)) a1;have hm:p.1∈(jT (fun h x m=>fS x false (ar++h.vars) t m) al (fS x false (ar++[]) t m).2).1.map Prod.fst:=bF.2 ⟨p,hp,rfl⟩;rw[a2]at hm;obtain⟨q,hq,e⟩:=bF.1 hm;have:=hal q hq;rw[<-e];exact⟨this.1,by omega,fun v hv=>by have:=this.2.2 v hv;omega⟩
   ·simp only[Co.size,gG]at k2 ⊢;omega
   ·simp only[Co.size,gG]at k3 ⊢;omega
   ·rcases a5 u hu with h1|h1
    ·exact k4 u h1
    ·exact .inr h1
end
theorem zee{B B':Nat}{t:Tx}{c:Co}(hs:pU B c)(hB:B<=B')(ht:t.length+22<=B')(ar:List Tx)(m:List Su):mW (fS c false ar t m).2+1<=mW m+c.size:=by
 have kE:rC c false=false:=rfl;rw[Kq _ _ _ _ _ kE];have hsz:=jD c;have hparts:=zfa hs;have h1:=(ZO (B:=B) (B':=B') (t:=t) (F:=fun x m=>fS x true (ar++c.bs.map Prod.fst) t m) c.bs m fun p hp m=>DZ (hparts _ (by simp only[eT,bJ,bF];exact .inl (.inl ⟨p,hp,rfl⟩))) hB ht _ _ _).2.2.2.1;have h2:=(A8 (B:=B) (B':=B') (t:=t) (z:=false||(c.f==4)) (F:=fun x m=>fS x (false||(c.f==4)) (ar++c.bs.map Prod.fst) t m) c.ks (fB c ar t m c.bs.length).2 fun p hp m=>DZ (hparts _ (by simp only[eT,bJ];exact .inl (.inr hp))) hB ht _ _ _).2.2.1;have h3:=(ZN (B:=B) (B':=B') (t:=t) (F:=fun h x m=>fS x false (ar++h.vars) t m) c.al (fK c false ar t (fB c ar t m c.bs.length).2 c.ks.length).2 fun p hp m=>DZ (hparts _ (by simp only[eT,bJ,bF];exact .inr ⟨p,hp,rfl⟩)) hB ht _ _ _).2.2.2.1;have e1:fB c ar t m c.bs.length=iP (fun x m=>fS x true (ar++c.bs.map Prod.fst) t m) c.bs m:=by rw[fB,aV]
 have e2:∀m,fK c false ar t m c.ks.length=jL (fun x m=>fS x (false||(c.f==4)) (ar++c.bs.map Prod.fst) t m) c.ks m:=fun m=>by rw[fK,aV]
 have e3:∀m,fA c ar t m c.al.length=jT (fun h x m=>fS x false (ar++h.vars) t m) c.al m:=fun m=>by rw[fA,aV]
 rw[e1]at h2 h3 ⊢;rw[e2]at h3 ⊢;simp only[e3];omega
def Qg:Tx:=[80,85,83,72,73]
def vZ:Tx:=[80,85,83,72,71]
def Kt:Tx:=[80,85,83,72,65]
def Em:Tx:=[77,75,65,80]
def lU:Tx:=[83,76,73,68,69]
def sB:Tx:=[65,76,76,79,67]
def nJ:Tx:=[85,80,68,65,84,69]
def jX(c:Co)(i:Nat):Co:=c.ks.getD i c0
def dW(c:Co):List Tx:=c.bs.map Prod.fst
def rS(a b:Int):Int:=IntKind.i64.wrap (IntKind.i64.wrap (a-1)-b)
def wK(L:Co->List Tx->List In)(c:Co)(env:List Tx)(i:Nat):List In:=(List.range i).foldl (fun out i=>fM (fM out (L (c.bs.getD i ([],c0)).2 (env++dW c))) [eJ nJ (rS c.bs.length i)]) [eJ sB c.bs.length]
def nR:Nat->Co->List Tx->List In
 |0,_,_=>[]
 |k+1,c,env=>dK (c.f==3) [eJ Qg c.n] (dK (c.f==2) [⟨vZ,0,0,c.s⟩] (dK (c.f==1) (dK (decide (qE env c.s<0)) [⟨vZ,0,0,c.s⟩] [eJ Kt (rS env.length (qE env c.s))])
   (dK (c.f==4) (fM (fM (nR k (jX c 1) env) (nR k (jX c 0) (pQ env (env.length+1)))) [eJ Em 0])
    (fM (fM (wK (nR k) c env c.bs.length) (nR k (jX c 0) (env++dW c))) [eJ lU c.bs.length]))))
def kC(c:Co)(env:List Tx):List In:=nR c.size c env
def lF(c:Co)(env:List Tx)(i:Nat):List In:=wK kC c env i
theorem zapb(c:Co)(i:Nat)(h:i<c.bs.length):(c.bs.getD i ([],c0)).2.size<c.size:=by rw[iU _ _ _ h];have:=xB c.bs _ (aX h);have:=jD c;omega
theorem BV(L:Co->List Tx->List In)(c:Co)(env:List Tx)(i:Nat):wK L c env (i+1)=fM (fM (wK L c env i) (L (c.bs.getD i ([],c0)).2 (env++dW c))) [eJ nJ (rS c.bs.length i)]:=by rw[wK,List.range_succ,List.foldl_append];rfl
theorem XL{L L':Co->List Tx->List In}(c:Co)(env:List Tx)(h:∀i,i<c.bs.length->∀e,L (c.bs.getD i ([],c0)).2 e=L' (c.bs.getD i ([],c0)).2 e):∀i,i<=c.bs.length->wK L c env i=wK L' c env i
 |0,_=>rfl
 |i+1,hi=>by rw[BV,BV,XL c env h i (by omega),h i (by omega)]
theorem MW(k:Nat)(n:Int)(s:Tx)(env:List Tx):nR (k+1) (.mk 3 n s [] [] []) env=[eJ Qg n]:=rfl
theorem MV(k:Nat)(n:Int)(s:Tx)(env:List Tx):nR (k+1) (.mk 2 n s [] [] []) env=[⟨vZ,0,0,s⟩]:=rfl
theorem BZ(k:Nat)(n:Int)(s:Tx)(env:List Tx):nR (k+1) (.mk 1 n s [] [] []) env=dK (decide (qE env s<0)) [⟨vZ,0,0,s⟩] [eJ Kt (rS env.length (qE env s))]:=rfl
theorem BX(k:Nat)(s:Tx)(a b:Co)(env:List Tx):nR (k+1) (.mk 4 0 s [a,b] [] []) env=fM (fM (nR k b env) (nR k a (pQ env (env.length+1)))) [eJ Em 0]:=rfl
theorem CV(k:Nat)(s:Tx)(b:Co)(bs:List (Tx×Co))(env:List Tx):nR (k+1) (.mk 8 0 s [b] bs []) env=fM (fM (wK (nR k) (.mk 8 0 s [b] bs []) env bs.length) (nR k b (env++bs.map Prod.fst))) [eJ lU bs.length]:=rfl
theorem zS:Small 0:=⟨by decide,by decide⟩
theorem LZ{B:Nat}:∀(n:Nat)(c:Co),c.size=n->∀(z:Bool),Fl B z c->(c.f=1\/c.f=2\/c.f=3\/c.f=4\/c.f=8)->∀(k k':Nat)(env:List Tx),(z=true\/c.f≠8)->c.size<=k->c.size<=k'->nR k c env=nR k' c env:=by
 intro n;induction n using Nat.strongRecOn with
 |ind n ih =>
  intro c hn z hf hform k k' env hz hk hk';have hp:=lT c;obtain⟨k,rfl⟩:∃j,k=j+1:=⟨k-1,by omega⟩;obtain⟨k',rfl⟩:∃j,k'=j+1:=⟨k'-1,by omega⟩;have hform':∀{c:Co},Fl B true c->(c.f=1\/c.f=2\/c.f=3\/c.f=4\/c.f=8):=fun h=>by
   cases h with
   |leaf h=>rcases h with rfl|rfl|rfl<;>simp[co]
   |app=>simp[co]
   |lt=>simp[co]
  cases hf with
  |leaf h =>
   rcases h with rfl|rfl|rfl
   ·rw[BZ,BZ]
   ·rw[MV,MV]
   ·rw[MW,MW]
  |@app _ s a b _ ha hb =>
   have sa:a.size<(Co.mk 4 0 s [a,b] [] []).size:=by simp only[Co.size,fV];omega
   have sb:b.size<(Co.mk 4 0 s [a,b] [] []).size:=by simp only[Co.size,fV];omega
   rw[BX,BX,ih _ (by omega) b rfl true hb (hform' hb) k k' _ (.inl rfl) (by omega) (by omega),ih _ (by omega) a rfl true ha (hform' ha) k k' _ (.inl rfl) (by omega) (by omega)]
  |@lt _ s b bs _ _ hbs hb =>
   have Oh:z=true:=hz.resolve_right (fun h=>h rfl);subst Oh;have sb:b.size<(Co.mk 8 0 s [b] bs []).size:=by simp only[Co.size,fV];omega
   have hl:=XL (L:=nR k) (L':=nR k') (.mk 8 0 s [b] bs []) env (fun i hi e=>by
    have h1:=zapb (.mk 8 0 s [b] bs []) i hi;have h2:Fl B true (bs.getD i ([],c0)).2:=by rw[iU bs i _ hi];exact hbs _ (aX hi)
    simp only[co]at h1 ⊢;exact ih _ (by omega) _ rfl true h2 (hform' h2) k k' _ (.inl rfl) (by omega) (by omega)) bs.length (aM _)
   rw[CV,CV,hl,ih _ (by omega) b rfl true hb (hform' hb) k k' _ (.inl rfl) (by omega) (by omega)]
  |fail=>simp[co]at hform
  |rH _ _ _=>simp[co]at hform
  |qX _ _ _ _=>simp[co]at hform
theorem OQ{B:Nat}{c:Co}(h:Fl B true c):c.f=1\/c.f=2\/c.f=3\/c.f=4\/c.f=8:=by
 cases h with
 |leaf h=>rcases h with rfl|rfl|rfl<;>simp[co]
 |app=>simp[co]
 |lt=>simp[co]
def GI(B:Nat)(i:In):Prop:=i.op.length<=6/\Small i.n/\Small i.m/\i.name.length<=B
theorem Ek{B:Nat}{s:Tx}{x:Int}(hs:s.length<=6)(hx:Small x):GI B (eJ s x):=⟨hs,hx,(⟨by decide,by decide⟩:Small 0),by simp[eJ]⟩
theorem Wl{B:Nat}{a b:List In}(ha:∀i∈a,GI B i)(hb:∀i∈b,GI B i):∀i∈fM a b,GI B i:=by
 intro i hi;simp only[fM,bJ,bF]at hi;rcases hi with h|⟨x,hx,rfl⟩
 ·exact ha i h
 ·have:=hb x hx;unfold lQ;cases wB x.op with
  |true=>exact⟨this.1,XV _,this.2.2.1,this.2.2.2⟩
  |false=>exact this
theorem Kr{B:Nat}{x:In}(h:GI B x):∀i∈[x],GI B i:=fun i hi=>by
 simp only[aS,aK,or_false]at hi;rw[hi];exact h
theorem Bd{k:Nat}(h:k<1000000000):Small (k:Int):=⟨by omega,by omega⟩
theorem YI{B:Nat}{L:Co->List Tx->List In}(c:Co)(env:List Tx)(hl:c.bs.length<1000000000)(h:∀i,i<c.bs.length->∀e,(∀x∈L (c.bs.getD i ([],c0)).2 e,GI B x)/\(L (c.bs.getD i ([],c0)).2 e).length<=6*(c.bs.getD i ([],c0)).2.size) :
  ∀i,i<=c.bs.length->(∀x∈wK L c env i,GI B x)/\(wK L c env i).length<=1+6*gG (c.bs.take i)
 |0,_=>⟨Kr (Ek (by decide) (Bd hl)),by simp[wK]⟩
 |i+1,hi=>by
  obtain⟨h1,h2⟩:=YI c env hl h i (by omega);obtain⟨h3,h4⟩:=h i (by omega) (env++dW c);rw[BV];refine⟨Wl (Wl h1 h3) (Kr (Ek (by decide) (XV _))),?_⟩;rw[kP,kP,<-mC c.bs i (by omega),MK];have hg:=iU c.bs i ([],c0) (by omega);have hz:gG [c.bs[i]]=c.bs[i].2.size+1:=by cases c.bs[i];simp only[gG];omega
  rw[hg]at h4 ⊢;rw[hz];simp only[aG,aH];omega
theorem BK{B:Nat}:∀(k:Nat)(c:Co)(z:Bool)(env:List Tx),Fl B z c->(z=true\/(c.f=1\/c.f=2\/c.f=3\/c.f=4))->c.size<100000000->(∀i∈nR k c env,GI B i)/\(nR k c env).length<=6*c.size
 |0,c,z,env,_,_,_=>⟨fun i hi=>(by cases hi),by simp[nR]⟩
 |k+1,c,z,env,hf,hz,hs=>by
  have hp:=lT c;have hsz:=jD c;cases hf with
  |@leaf _ f n s h hn hl =>
   have hg:GI B ⟨vZ,0,0,s⟩:=⟨(by decide:vZ.length<=6),zS,zS,hl⟩;rcases h with rfl|rfl|rfl
   ·rw[BZ];cases decide (qE env s<0)with
    |true=>exact⟨Kr hg,by simp only[dQ,aG,aH];omega⟩
    |false=>exact⟨Kr (Ek (by decide) (XV _)),by simp only[dX,aG,aH];omega⟩
   ·rw[MV];exact⟨Kr hg,by simp only[aG,aH];omega⟩
   ·rw[MW];exact⟨Kr (Ek (by decide) hn),by simp only[aG,aH];omega⟩
  |@app _ s a b _ ha hb =>obtain⟨a1,a2⟩:=BK k a true (pQ env (env.length+1)) ha (.inl rfl) (by simp only[Co.size,fV]at hs;omega);obtain⟨b1,b2⟩:=BK k b true env hb (.inl rfl) (by simp only[Co.size,fV]at hs;omega);rw[BX];refine⟨Wl (Wl b1 a1) (Kr (Ek (by decide) ⟨by decide,by decide⟩)),?_⟩;rw[kP,kP];simp only[Co.size,fV,aG,aH];omega
  |@lt _ s b bs _ _ hbs hb =>
   have Oh:z=true:=hz.resolve_right (by simp[co]);subst Oh;have hbl:=mY bs;simp only[co]at hsz;obtain⟨b1,b2⟩:=BK k b true (env++bs.map Prod.fst) hb (.inl rfl) (by simp only[Co.size,fV]at hs;omega)
   have uX:=YI (B:=B) (L:=nR k) (.mk 8 0 s [b] bs []) env (by simp only[co];omega) (fun i hi e=>by
    simp only[co]at hi ⊢;have hm:=xB bs _ (aX hi);rw[iU bs i _ hi];exact BK k _ true e (hbs _ (aX hi)) (.inl rfl) (by omega)) bs.length (aM _)
   rw[CV];refine⟨Wl (Wl uX.1 b1) (Kr (Ek (by decide) (Bd (by omega)))),?_⟩;have:=uX.2;simp only[co,aV]at this;rw[kP,kP];simp only[Co.size,fV,gP,aG,aH];omega
  |fail=>simp[co]at hz
  |rH _ _ _=>simp[co]at hz
  |qX _ _ _ _=>simp[co]at hz
theorem zbmb{B:Nat}{s:Tx}{a b:Co}(env:List Tx)(ha:Fl B true a)(hb:Fl B true b):kC (.mk 4 0 s [a,b] [] []) env=fM (fM (kC b env) (kC a (pQ env (env.length+1)))) [eJ Em 0]:=by
 have hz:(Co.mk 4 0 s [a,b] [] []).size=(a.size+b.size)+1:=by simp only[Co.size,fV,gG,gP];omega
 rw[kC,hz,BX,kC,kC,LZ _ b rfl true hb (OQ hb) _ b.size _ (.inl rfl) (by omega) (by omega),LZ _ a rfl true ha (OQ ha) _ a.size _ (.inl rfl) (by omega) (by omega)]
theorem zfhb{B:Nat}{s:Tx}{b:Co}{bs:List (Tx×Co)}(env:List Tx)(hbs:∀p∈bs,Fl B true p.2)(hb:Fl B true b):kC (.mk 8 0 s [b] bs []) env=fM (fM (lF (.mk 8 0 s [b] bs []) env bs.length) (kC b (env++bs.map Prod.fst))) [eJ lU bs.length]:=by
 have hz:(Co.mk 8 0 s [b] bs []).size=(gG bs+b.size)+1:=by simp only[Co.size,fV,gP];omega
 have hl:=XL (L:=nR (gG bs+b.size)) (L':=kC) (.mk 8 0 s [b] bs []) env (fun i hi e=>by
  have hi:i<bs.length:=hi;have h2:Fl B true (bs.getD i ([],c0)).2:=by rw[iU bs i _ hi];exact hbs _ (aX hi)
  have hm:(bs.getD i ([],c0)).2.size<=gG bs:=(by rw[iU bs i _ hi];have:=xB bs _ (aX hi);omega);exact LZ _ _ rfl true h2 (OQ h2) _ _ _ (.inl rfl) (by first|omega|(simp only[co];omega)) (aM _)) bs.length (aM _)
 rw[kC,hz,CV,hl,LZ _ b rfl true hb (OQ hb) _ b.size _ (.inl rfl) (by omega) (by omega)];rfl
theorem zbob(n:Int)(s:Tx)(env:List Tx):kC (.mk 3 n s [] [] []) env=[eJ Qg n]:=by
 have hz:(Co.mk 3 n s [] [] []).size=0+1:=by simp only[Co.size,fV,gG,gP]
 rw[kC,hz,MW]
theorem zbnb(n:Int)(s:Tx)(env:List Tx):kC (.mk 2 n s [] [] []) env=[⟨vZ,0,0,s⟩]:=by
 have hz:(Co.mk 2 n s [] [] []).size=0+1:=by simp only[Co.size,fV,gG,gP]
 rw[kC,hz,MV]
theorem zbpb(n:Int)(s:Tx)(env:List Tx):kC (.mk 1 n s [] [] []) env=dK (decide (qE env s<0)) [⟨vZ,0,0,s⟩] [eJ Kt (rS env.length (qE env s))]:=by
 have hz:(Co.mk 1 n s [] [] []).size=0+1:=by simp only[Co.size,fV,gG,gP]
 rw[kC,hz,BZ]
theorem Vt{B:Nat}(c:Co)(z:Bool)(env:List Tx)(hf:Fl B z c)(hz:z=true\/(c.f=1\/c.f=2\/c.f=3\/c.f=4))(hs:c.size<100000000):(∀i∈kC c env,GI B i)/\(kC c env).length<=6*c.size:=BK _ _ _ _ hf hz hs
theorem MU{B:Nat}(c:Co)(env:List Tx)(hbs:∀p∈c.bs,Fl B true p.2)(hs:c.size<100000000)(i:Nat)(hi:i<=c.bs.length):(∀x∈lF c env i,GI B x)/\(lF c env i).length<=1+6*gG (c.bs.take i):=by have hsz:=jD c;have hb:=mY c.bs;refine YI c env (by omega) (fun j hj e=>?_) i hi;rw[iU c.bs j _ hj];have:=xB c.bs _ (aX hj);exact Vt _ true e (hbs _ (aX hj)) (.inl rfl) (by omega)
def gu:List D->Cell->Prop:=fun ds c=>∀co env,ds=[dM co,dG env]->c=⟨false,eM (kC co env)⟩
theorem q9{S:fC}(hS:dC S vN=some gu)(a:Co)(env:List Tx)(hp:eW vN [dM a,dG env] ⟨false,eM (kC a env)⟩)(n:Nat)(O:Store):T S (n+1) vN [dM a,dG env] O=some (.ret ⟨false,eM (kC a env)⟩,O):=by
 obtain⟨c,h1,h2⟩:=lD (S:=S) hS rfl (c:=⟨false,eM (kC a env)⟩) (fun a' b' e=>by
  simp only[aL,and_true]at e;rw[qO e.1,lN e.2]) hp
 rw[h2,h1 a env rfl]
def lv:List D->Cell->Prop:=fun ds c=>∀co env,ds=[dM co,dG env]->c=⟨false,.fN [eM (lF co env co.bs.length),dG (env++dW co)]⟩
theorem YX{S:fC}(hS:dC S Ip=some lv)(a:Co)(env:List Tx)(hp:eW Ip [dM a,dG env] ⟨false,.fN [eM (lF a env a.bs.length),dG (env++dW a)]⟩)(n:Nat)(O:Store):T S (n+1) Ip [dM a,dG env] O=some (.ret ⟨false,.fN [eM (lF a env a.bs.length),dG (env++dW a)]⟩,O):=by
 obtain⟨c,h1,h2⟩:=lD (S:=S) hS rfl (c:=⟨false,.fN [eM (lF a env a.bs.length),dG (env++dW a)]⟩) (fun a' b' e=>by
  simp only[aL,and_true]at e;rw[qO e.1,lN e.2]) hp
 rw[h2,h1 a env rfl]
def qI:fC:=[(nN,UB),(nG,ib),(Xz,ma),(IK,zic),(yI,Wa),(mJ,Wu),(vN,gu),(Ip,lv)]
section
variable{C:eV}{n:Nat}{O:Store}
def Uj(c:Co)(env:List Tx)(o:Bool)(i:Nat):Env:={slots:=[(6,⟨false,.int .i64 c.bs.length⟩),(7,⟨false,dG (env++dW c)⟩),(8,⟨o,eM (lF c env i)⟩),(9,⟨false,.int .i64 i⟩)],dR:=[(2,2,0)],boxes:=[(2,bC c)],defers:=[]}
theorem zffb(c:Co)(env:List Tx)(i:Nat)(h:i<c.bs.length)(hl:c.size<100000000)(h1:C vN [dM c.bs[i].2,dG (env++dW c)] O=some (.ret ⟨false,eM (kC c.bs[i].2 (env++dW c))⟩,O))
  (h2:C nG [eM (lF c env i),eM (kC c.bs[i].2 (env++dW c))] O=some (.ret ⟨false,eM (fM (lF c env i) (kC c.bs[i].2 (env++dW c)))⟩,O)) (h3:C nN [.str nJ,.int .i64 (rS c.bs.length i)] O=some (.ret ⟨false,eM [eJ nJ (rS c.bs.length i)]⟩,O))
  (h4:C nG [eM (fM (lF c env i) (kC c.bs[i].2 (env++dW c))),eM [eJ nJ (rS c.bs.length i)]] O=some (.ret ⟨false,eM (lF c env (i+1))⟩,O)):exec C n none P6 (Uj c env false i) O=some (.normal,Uj c env false (i+1),O):=by
 have hb:=mY c.bs;have hsz:=jD c;have hi:((i:Int)<(c.bs.length:Int)):=by omega
 have hp:=TV c.bs[i];simp only[nJ,rS]at h3 h4;simp only[eO,eX]at h1 hp;simp only[P6,Uj,bC,sA,seval,kn,hi,SG _ i h,OG,hp,h1,h2,h3,h4,iE (i:=i) (by omega)]
theorem zivb(c:Co)(env:List Tx):exec C n none P6 (Uj c env false c.bs.length) O=some (.exit 0,{Uj c env false c.bs.length with slots:=[(6,⟨false,.int .i64 c.bs.length⟩),(7,⟨false,dG (env++dW c)⟩),(8,⟨false,eM (lF c env c.bs.length)⟩),(9,⟨false,.int .i64 c.bs.length⟩),(21,⟨false,.bool false⟩)]},O):=by
 have hi:¬((c.bs.length:Int)<(c.bs.length:Int)):=by omega
 simp only[P6,Uj,bC,sA,seval,kn,hi]
end
theorem zej{B:Nat}(c:Co)(env:List Tx)(hbs:∀p∈c.bs,Fl B true p.2)(hl:env.length+c.size<100000000)(hL:∀i (hi:i<c.bs.length),eW vN [dM c.bs[i].2,dG (env++dW c)] ⟨false,eM (kC c.bs[i].2 (env++dW c))⟩) :
  eW Ip [dM c,dG env] ⟨false,.fN [eM (lF c env c.bs.length),dG (env++dW c)]⟩:=by
 have hsz:=jD c;have hb:=mY c.bs;refine jH (af:=RI) (n:=c.size+1) (O':=cH) (jG qI 1) rfl rfl (by simp[fO,mL,jY]) (by simp[iF,fO,Gs,jY]) ?_;have h1:=BI (S:=qI) rfl c (by omega) 0 cH;have h2:=Vq (S:=qI) rfl env (dW c) (by simp[dW];omega) 0 cH;have h3:=vF (S:=qI) rfl sB c.bs.length 0 cH
 have hl0:=nI (body:=exec (T qI 1) (c.size+1) none P6) (Uj c env false) (fun _=>cH) c.bs.length (r:=_) (fun _ _ h=>by cases h) (fun i hi=>by
  obtain⟨g1,g2⟩:=MU c env hbs (by omega) i (by omega);have ht:=zfj c.bs i hi;obtain⟨g3,g4⟩:=Vt (B:=B) c.bs[i].2 true (env++dW c) (hbs _ (aX hi)) (.inl rfl) (by omega);have e:fM (fM (lF c env i) (kC c.bs[i].2 (env++dW c))) [eJ nJ (rS c.bs.length i)]=lF c env (i+1):=by
   rw[lF,lF,BV,iU c.bs i _ hi]
  have h4:=uB (S:=qI) rfl (fM (lF c env i) (kC c.bs[i].2 (env++dW c))) [eJ nJ (rS c.bs.length i)] (by rw[kP];simp;omega) 0 cH;rw[e]at h4;exact zffb c env i hi (by omega) (q9 (S:=qI) rfl _ _ (hL i hi) 0 cH) (uB (S:=qI) rfl _ _ (by omega) 0 cH) (vF (S:=qI) rfl _ _ 0 cH) h4) (zivb c env) 0 (c.size+1) (by omega) (by omega)
 have e0:lF c env 0=[eJ sB c.bs.length]:=rfl;have en:c.bs.map Prod.fst=dW c:=rfl;rw[en]at h1;simp only[sB]at h3 e0;simp only[Uj,bC,iG,e0]at hl0;simp only[eO,eX]at h1;simp only[RI,sA,seval,kn,eO,eX,tO,h1,h2,h3,hl0]
theorem zxg{B:Nat}:∀(k:Nat)(c:Co)(z:Bool)(env:List Tx),c.size=k->Fl B z c->(z=true\/(c.f=1\/c.f=2\/c.f=3\/c.f=4))->env.length+c.size<100000000->eW vN [dM c,dG env] ⟨false,eM (kC c env)⟩:=by
 intro k;induction k using Nat.strongRecOn with
 |ind k ih =>
  intro c z env hk hf hz hl;have mk:∀{o:Bool},nA Ra (fun _ _ _=>none) Et 0 (exec (T qI 1) 1 none Et.body (mX [dM c,dG env]) cH)=some (.ret ⟨o,eM (kC c env)⟩,cH)->eW vN [dM c,dG env] ⟨false,eM (kC c env)⟩:=fun{o} hr =>
   eW.weak (o:=o) rfl (jH (af:=Et) (n:=1) (O':=cH) (jG qI 1) rfl rfl (by simp[fO,mL,jY]) (Gs _) hr)
  cases hf with
  |@leaf _ f n s h _ _ =>
   rcases h with rfl|rfl|rfl
   ·have h1:=zasb (S:=qI) rfl env s (by omega) 0 cH;have hr:=XM env s;rw[zbpb]at mk ⊢;by_cases hlt:qE env s<0
    ·simp only[decide_eq_true hlt,dQ]at mk ⊢;refine mk (o:=true) ?_;simp only[Et,sA,seval,kn,eO,eX,co,h1,hlt];rfl
    ·have h2:=vF (S:=qI) rfl Kt (rS env.length (qE env s)) 0 cH;simp only[decide_eq_false hlt,dX]at mk ⊢;refine mk (o:=false) ?_;simp only[Kt,rS]at h2 ⊢;simp only[Et,sA,seval,kn,eO,eX,co,lE,h1,hlt,h2]
   ·rw[zbnb]at mk ⊢;refine mk (o:=true) ?_;simp only[Et,sA,seval,kn,eO,eX,co];rfl
   ·have h2:=vF (S:=qI) rfl Qg n 0 cH;rw[zbob]at mk ⊢;refine mk (o:=false) ?_;simp only[Qg]at h2 ⊢;simp only[Et,sA,seval,kn,eO,eX,co,h2]
  |@app _ s a b _ ha hb =>
   have hsa:(Co.mk 4 0 s [a,b] [] []).size=1+a.size+b.size:=by simp only[Co.size,fV,gG,gP];omega
   have h1:=q9 (S:=qI) rfl b env (ih _ (by omega) b true env rfl hb (.inl rfl) (by omega)) 0 cH;have h2:=zd9 (S:=qI) rfl env (env.length+1) (by omega) 0 cH;have hpl:(pQ env (env.length+1)).length=env.length+1:=by simp[pQ]
   have h3:=q9 (S:=qI) rfl a (pQ env (env.length+1)) (ih _ (by omega) a true _ rfl ha (.inl rfl) (by omega)) 0 cH;have g1:=(Vt b true env hb (.inl rfl) (by omega)).2;have g2:=(Vt a true (pQ env (env.length+1)) ha (.inl rfl) (by omega)).2;have h4:=uB (S:=qI) rfl (kC b env) (kC a (pQ env (env.length+1))) (by omega) 0 cH;have h5:=vF (S:=qI) rfl Em 0 0 cH;have h6:=uB (S:=qI) rfl (fM (kC b env) (kC a (pQ env (env.length+1)))) [eJ Em 0] (by rw[kP];simp;omega) 0 cH;have w:=iE (i:=env.length) (by omega);have hx1:kU 10 (iI [a,b]) 1=some (.gC (dM b)):=rfl;have hx0:kU 10 (iI [a,b]) 0=some (.gC (dM a)):=rfl;rw[zbmb env ha hb]at mk ⊢;refine mk (o:=false) ?_;simp only[Em]at h5 h6 ⊢;simp only[eO,eX]at h1 h3 hx1 hx0;simp only[Et,sA,seval,kn,eO,eX,co,lE,w,hx1,hx0,h1,h2,h3,h4,h5,h6]
  |@lt _ s b bs _ _ hbs hb =>
   have Oh:z=true:=hz.resolve_right (by simp[co]);subst Oh;have hsa:(Co.mk 8 0 s [b] bs []).size=1+b.size+gG bs:=by simp only[Co.size,fV,gP];omega
   have hbl:=mY bs;have hen:dW (.mk 8 0 s [b] bs [])=bs.map Prod.fst:=rfl
   have h1:=YX (S:=qI) rfl (.mk 8 0 s [b] bs []) env (zej (B:=B) _ env hbs (by omega) (fun i hi=>by
    have hi:i<bs.length:=hi;have hm:=Pe bs _ (aX hi);exact ih _ (by first|omega|(simp only[co];omega)) bs[i].2 true _ rfl (hbs _ (aX hi)) (.inl rfl) (by rw[hen];simp;omega))) 0 cH
   rw[hen]at h1;have h2:=q9 (S:=qI) rfl b (env++bs.map Prod.fst) (ih _ (by omega) b true _ rfl hb (.inl rfl) (by simp;omega)) 0 cH;have g1:=(MU (B:=B) (.mk 8 0 s [b] bs []) env hbs (by omega) bs.length (aM _)).2;simp only[co,aV]at g1;have g2:=(Vt b true (env++bs.map Prod.fst) hb (.inl rfl) (by omega)).2;have h3:=uB (S:=qI) rfl (lF (.mk 8 0 s [b] bs []) env bs.length) (kC b (env++bs.map Prod.fst)) (by omega) 0 cH;have h4:=vF (S:=qI) rfl lU bs.length 0 cH;have h5:=uB (S:=qI) rfl (fM (lF (.mk 8 0 s [b] bs []) env bs.length) (kC b (env++bs.map Prod.fst))) [eJ lU bs.length] (by rw[kP];simp;omega) 0 cH;have hx0:kU 10 (iI [b]) 0=some (.gC (dM b)):=rfl;rw[zfhb env hbs hb]at mk ⊢;refine mk (o:=false) ?_;simp only[lU]at h4 h5 ⊢;simp only[eO,eX,co]at h1 h2 hx0;simp only[Et,sA,seval,kn,eO,eX,co,tO,hx0,h1,h2,h3,h4,h5]
  |fail=>simp[co]at hz
  |rH _ _ _=>simp[co]at hz
  |qX _ _ _ _=>simp[co]at hz
def GC(B n:Nat)(is:List In):Prop:=(∀i∈is,GI B i)/\is.length<=n
def mO:Tx:=[70,65,73,76]
def Hr:Tx:=[69,86,65,76]
def kT:Tx:=[80,79,80]
def yX:Tx:=[85,78,87,73,78,68]
theorem sH{B m n:Nat}{a b:List In}(ha:GC B m a)(hb:GC B n b):GC B (m+n) (fM a b):=⟨Wl ha.1 hb.1,by rw[kP];have:=ha.2;have:=hb.2;omega⟩
theorem Hk{B:Nat}{s:Tx}{x:Int}(hs:s.length<=6)(hx:Small x):GC B 1 [eJ s x]:=⟨Kr (Ek hs hx),by simp⟩
theorem uR{B m n:Nat}{a:List In}(h:GC B m a)(hmn:m<=n):GC B n a:=⟨h.1,Nat.le_trans h.2 hmn⟩
theorem zzc(s:Tx):(rF s).length<=6:=by unfold rF;cases s==[97,100,100]<;>cases s==[115,117,98]<;>cases s==[109,117,108]<;>cases s==[100,105,118]<;>cases s==[101,113]<;>cases s==[108,116]<;>simp[dK]
theorem dw{B:Nat}(c:Co)(z:Bool)(env:List Tx)(hf:Fl B z c)(hz:z=true\/(c.f=1\/c.f=2\/c.f=3\/c.f=4))(hl:env.length+c.size<10000000):eW vN [dM c,dG env] ⟨false,eM (kC c env)⟩:=zxg _ c z env rfl hf hz (by omega)
theorem zh2{B:Nat}(c:Co)(env:List Tx)(hbs:∀p∈c.bs,Fl B true p.2)(hl:env.length+c.size<10000000):eW Ip [dM c,dG env] ⟨false,.fN [eM (lF c env c.bs.length),dG (env++dW c)]⟩ :=
 zej c env hbs (by omega) fun i hi=>dw _ true _ (hbs _ (aX hi)) (.inl rfl) (by
  have:=Pe c.bs _ (aX hi);have:=jD c;simp[dW];omega)
def Lh:Tx:=[84,69,83,84]
def Kv:Tx:=[84,69,83,84,73]
def Ku:Tx:=[83,80,76,73,84]
def fZ(a:Hd×Co)(env:List Tx):List In×List Tx :=
 dK (a.1.form==1) ([⟨Lh,0,0,a.1.name⟩,eJ Ku a.1.vars.length],env++a.1.vars.reverse) (dK (a.1.form==2) ([⟨Kv,0,a.1.num,[]⟩,eJ kT 1],env) ([eJ kT 1],env))
theorem zex(a:Hd×Co):iF (dA a)=true:=by
 have h:oP [a]=[dA a]:=by rw[DW];rfl
 have h1:=YL [a];rw[h]at h1;simpa[fO]using h1
theorem zh2b{a b:Hd×Co}(h:dA a=dA b):a=b:=by
 have h1:oP [a]=oP [b]:=by rw[DW,DW];simp only[aO,aZ,h]
 have:=ay h1;simpa using this
def Y9:fC:=[(nN,UB),(Qs,gy),(mJ,Wu)]
theorem zajb(a:Hd×Co)(env:List Tx)(hl:env.length+a.1.vars.length<100000000):eW V4 [dA a,dG env] ⟨false,.fN [eM (fZ a env).1,dG (fZ a env).2]⟩:=by
 have mk:∀{O'},nA Ra (fun _ _ _=>none) Sj 0 (exec (T Y9 1) 1 none Sj.body (mX [dA a,dG env]) cH)=some (.ret ⟨false,.fN [eM (fZ a env).1,dG (fZ a env).2]⟩,O')->eW V4 [dA a,dG env] ⟨false,.fN [eM (fZ a env).1,dG (fZ a env).2]⟩:=fun{O'} hr =>
  jH (af:=Sj) (n:=1) (O':=O') (jG Y9 1) rfl rfl (by simp[fO,zex,jY]) (by simp[iF,fO,Gs,jY]) hr
 have hp:=V9 a;have h1:=vF (S:=Y9) rfl Ku a.1.vars.length 0 cH;have h2:=Jn (S:=Y9) rfl a.1.vars (by omega) 0 cH;have h3:=Vq (S:=Y9) rfl env a.1.vars.reverse (by simp;omega) 0 cH;have h4:=vF (S:=Y9) rfl kT 1 0 cH;have hap:∀(x y:In),lM fE 48 ⟨true,eM [x]⟩ [dI y]=some ⟨true,eM [x,y]⟩:=fun x y=>og [x] y true (fun _=>rfl) (by simp);have ha1:=hap ⟨Lh,0,0,a.1.name⟩ (eJ Ku a.1.vars.length);have ha2:=hap ⟨Kv,0,a.1.num,[]⟩ (eJ kT 1);simp only[Ku,kT]at h1 h4;refine mk (O':=cH) ?_;unfold fZ;cases e1:a.1.form==1 with
 |true =>simp only[dQ];simp only[eM,aO,aZ,gX,dI,Lh,Ku]at h1 ha1 ⊢;simp only[Sj,sA,seval,kn,xM,eX,e1,lE,h1,h2,h3,ha1]
 |false =>
  cases e2:a.1.form==2 with
  |true =>simp only[dQ,dX];simp only[eM,aO,aZ,gX,dI,Kv,kT]at h4 ha2 ⊢;simp only[Sj,sA,seval,kn,xM,eX,e1,e2,lE,h4,ha2]
  |false =>simp only[dX];simp only[kT]at h4 ⊢;simp only[Sj,sA,seval,kn,xM,eX,e1,e2,lE,h4]
def zib:List D->Cell->Prop:=fun ds c=>∀a env,ds=[dA a,dG env]->c=⟨false,.fN [eM (fZ a env).1,dG (fZ a env).2]⟩
theorem OH(a:Hd×Co)(env:List Tx):(fZ a env).1≠[]:=by unfold fZ;cases a.1.form==1<;>cases a.1.form==2<;>simp[dK]
theorem Vw(a:Hd×Co)(env:List Tx):(fZ a env).2.length<=env.length+a.1.vars.length:=by unfold fZ;cases a.1.form==1<;>cases a.1.form==2<;>simp[dK]
theorem zky:Small 1:=⟨by decide,by decide⟩
theorem zxn{B:Nat}(a:Hd×Co)(env:List Tx)(hn:Small a.1.num)(hB:a.1.name.length<=B)(hl:a.1.vars.length<100000000):GC B 2 (fZ a env).1:=by unfold fZ;have g1:GI B (eJ kT 1):=Ek (by decide) zky;have g2:GI B (eJ Ku a.1.vars.length):=Ek (by decide) (Bd (by omega));have g3:GI B ⟨Lh,0,0,a.1.name⟩:=⟨by simp[Lh],zS,zS,hB⟩;have g4:GI B ⟨Kv,0,a.1.num,[]⟩:=⟨by simp[Kv],zS,hn,by simp⟩;cases a.1.form==1<;>cases a.1.form==2<;>simp only[dQ,dX]<;>refine⟨?_,by simp⟩<;>simp[g1,g2,g3,g4]
open Go Go.Mx Go.Proofs
def Jk:eR:=(.seq (sq [mt 10 6,mt 11 1,I9 12 11,I0 13 .lss 10 12] [10,11,12] (O7 13 .skip (.exit 0))) (.seq (.block 1 (sq [mt 16 1,mt 17 6,O0 18 4 16 17,O1 19 4 false 18,mo 7 (.alloc Q5),I3 4 7 19] [13,16,17,18,19] (.seq (sq [mf 20 0 7,ml 21 20,mo 22 (.bin .eql (I 21) (I5 [84,69,83,84])),mw 23 22,I4 24 23 false (.fieldAddr 0 none (I 7)),I4 25 23 false (.load none false (I 24)),I4 26 23 false (.bin .eql (I 25) (I5 [84,69,83,84,73])),O5 27 23 26,mw 28 27,I4 29 28 false (.fieldAddr 0 none (I 7)),I4 30 28 false (.load none false (I 29)),I4 31 28 false (.bin .eql (I 30) (I5 [74,85,77,80])),O5 32 28 31] [20,21,22,23,24,25,26,27,28,29,30,31] (O7 32 (rg [mf 33 1 7,ml 34 33,mt 35 0,I9 36 35,I0 37 .add 34 36,mf 38 1 7,I3 1 38 37] [32,33,34,35,36,37,38]) .skip)) (rg [mw 39 5,O1 40 4 false 7,O2 41 fE 40,mo 42 (.qN fE 48 (.mv 39) (I 41)),mw 5 42] [7,32,39,40,41,42])))) (rg [mt 14 6,I1 15 .add 14 1,mw 6 15] [14,15])))
def BH:dZ:=⟨2,44,[.tmp 4],(sq [mo 4 (.dO I8)] [4] (sq [mt 8 0,mo 9 (.qN fE 48 I8 (I 8)),mw 5 9] [8,9] (.seq (sq [O6 6 0] [] (.block 0 (.loop Jk))) (sq [mw 43 5,mw 4 43] [0,1,5,6,13,43] .ret)))),false⟩
def Ba:dZ:=⟨4,92,[.tmp 8],(sq [mo 4 (.box (I 0)),mo 8 (.dO I8)] [0,8] (.seq (sq [mt 13 1,mf 14 9 4,ml 15 14,I9 16 15,I0 17 .geq 13 16] [13,14,15,16] (O7 17 (.seq (sq [mt 18 3] [1,2,3,4,17] (O7 18 (sq [mo 19 (.call nN [(I5 [70,65,73,76]),(ci 0)]),mw 8 19] [18,19] .ret) .skip)) (sq [mo 20 (.call nN [(I5 [80,79,80]),(ci 1)]),mo 21 (.call nN [(I5 [70,65,73,76]),(ci 0)]),mo 22 (.append fE 48 (.mv 20) (I 21)),mw 8 22] [18,20,21,22] .ret)) .skip)) (sq [mf 23 9 4,ml 24 23,mt 25 1,O0 26 14 24 25,O1 27 14 false 26,mo 9 (.alloc Q2),I3 14 9 27] [17,23,24,25,26,27] (sq [O1 29 14 false 9,mt 30 2,O3 31 V4 [I 29,I 30],mw 28 31,I2 32 28 0,I2 33 28 1,mw 10 32,mw 11 33] [28,29,30,31,32,33] (.seq (sq [mt 34 3] [] (O7 34 (rg [mt 35 10,mo 36 (.fieldAddr 4 (some 10) (I 9)),O1 37 10 false 36,mt 38 11,O3 39 Ab [I 37,I 38],O3 40 nG [I 35,I 39],mw 10 40] [11,34,35,36,37,38,39,40]) (rg [mt 41 10,mo 42 (.fieldAddr 4 (some 10) (I 9)),O1 43 10 false 42,mt 44 11,O3 45 wN [I 43,I 44],O3 46 nG [I 41,I 45],mw 10 46] [11,34,41,42,43,44,45,46]))) (.seq (sq [mt 47 3,mo 48 (.un .not (I 47)),mw 49 48,I4 50 49 true (.fieldAddr 0 none (I 9)),I4 51 49 true (.load none false (I 50)),I4 52 49 true (.bin .eql (I 51) (ci 1)),O4 53 49 52] [47,48,49,50,51,52] (O7 53 (rg [mt 54 10,mf 55 3 9,ml 56 55,I9 57 56,mo 58 (.call nN [(I5 [83,76,73,68,69]),I 57]),O3 59 nG [I 54,I 58],mw 10 59] [53,54,55,56,57,58,59]) .skip)) (sq [mo 12 (.dO I8)] [53] (.seq (sq [mf 60 0 9,ml 61 60,I1 62 .neq 61 3] [60,61] (O7 62 (rg [O1 63 10 false 4,mt 64 1,I1 65 .add 64 1,mt 66 2,mt 67 3,O3 68 Dk [I 63,I 65,I 66,I 67],mw 12 68] [1,2,4,62,63,64,65,66,67,68]) .skip)) (.seq (sq [mt 69 3,mo 70 (.un .not (I 69))] [1,2,3,4,62,69] (O7 70 (rg [mw 71 10,mt 72 10,I9 73 72,I1 74 .add 73 1,mt 75 12,I9 76 75,I0 77 .add 74 76,mo 78 (.build Q5 [(0,1,(I5 [74,85,77,80])),(1,1,(I 77))]),O2 79 fE 78,mo 80 (.qN fE 48 (.mv 71) (I 79)),mw 10 80] [70,71,72,73,74,75,76,77,78,79,80]) .skip)) (.seq (sq [mf 81 0 9,ml 82 81,I1 83 .neq 82 3] [9,70,81,82] (O7 83 (rg [mt 84 10,mt 85 10,I9 86 85,mo 87 (.indexAddr 4 (I 84) (ci 0)),mf 88 1 87,I3 1 88 86] [83,84,85,86,87,88]) .skip)) (sq [mw 89 10,mw 90 12,O3 91 nG [I 89,I 90],mw 8 91] [10,12,83,89,90,91] (.Dw [.slot 8] .ret)))))))))))),false⟩
theorem zqw:eL Tryz.prog Tryz.f59 BH=true:=by kernel_rfl
theorem zpb:eL Tryz.prog Tryz.f62 Ba=true:=by kernel_rfl
theorem Vu{body:Env->Store->oC}(P:Nat->Env->Store->Prop)(Q:rO×Env×Store->Prop)(k:Nat)(hstep:∀i e O,i<k->P i e O->∃e' O',body e O=some (.normal,e',O')/\P (i+1) e' O')
  (hend:∀e O,P k e O->∃r,body e O=some r/\(∀e O,r≠(.normal,e,O))/\Q r):∀(j n:Nat)(e:Env)(O:Store),j<=k->k<n+j->P j e O->∃r,jI body n e O=some r/\Q r
 |j,0,e,O,h1,h2,_=>by omega
 |j,n+1,e,O,h1,h2,hp=>by
  rw[jI];by_cases hj:j=k
  ·subst hj;obtain⟨r,hr,hn,hq⟩:=hend e O hp;rw[hr];obtain⟨x,e',O'⟩:=r;cases x with
   |normal=>exact absurd rfl (hn e' O')
   |_=>exact⟨_,rfl,hq⟩
  ·obtain⟨e',O',hb,hp'⟩:=hstep j e O (by omega) hp;rw[hb];exact Vu P Q k hstep hend (j+1) n e' O' (by omega) (by omega) hp'
theorem AV:∀a b:List D,cellsOf (a++b)=cellsOf a++cellsOf b
 |[],b=>rfl
 |d::a,b=>by simp only[aW,cellsOf,AV a b,bR]
theorem LQ:∀a:List D,(cellsOf a).map (fun c=>Cell.of c.d)=cellsOf a
 |[]=>rfl
 |d::a=>by
  simp only[cellsOf,aU,cD,LQ a];rfl
theorem zai{k:RowK}:∀ds:List D,(∀d∈ds,d.cells.length=k.sz/\Hq k d.cells=d)->xE k ds.length ((cellsOf ds).map fun c=>c.d)=ds
 |[],_=>rfl
 |d::ds,h=>by
  obtain⟨h1,h2⟩:=h d (by simp);have h3:=zai ds fun x hx=>h x (aI _ hx);have e1:(d.cells.map Cell.of).map (fun c=>c.d)=d.cells:=by
   rw[cD];exact List.map_id'' (fun _=>rfl) _
  simp only[aG,xE,cellsOf,aU,e1];rw[List.take_left' h1,List.drop_left' h1,h2,h3]
theorem WM{k:RowK}{ds:List D}(h:∀d∈ds,d.cells.length=k.sz/\Hq k d.cells=d):Hj k (cellsOf ds) 0 ds.length=ds:=by simp only[Hj,Nat.zero_mul,List.drop_zero];exact zai ds h
theorem XH{n:Nat}{os:mU}:∀ds:List D,(∀d∈ds,kR n d os=some (d,os))->Gy (kR n) ds os=some (ds,os)
 |[],_=>rfl
 |d::ds,h=>by
  have h1:=h d (by simp);have h2:=XH ds fun x hx=>h x (aI _ hx);simp only[Gy,h1,dH,eP,h2]
def cI:List In->List Cell
 |[]=>[]
 |i::r=>⟨false,.str i.op⟩::⟨false,.int .i64 i.n⟩::⟨false,.int .i64 i.m⟩::⟨false,.str i.name⟩::cI r
theorem Ej:∀l:List In,cI l=cellsOf (l.map dI)
 |[]=>rfl
 |i::r=>by rw[cI,Ej r];rfl
theorem Wx:∀l:List In,(cI l).length=l.length*4
 |[]=>rfl
 |i::r=>by rw[cI];simp only[aG,Wx r];omega
theorem ER(l:List In):∀d∈l.map dI,d.cells.length=fE.sz/\Hq fE d.cells=d:=fun d hd=>by
 obtain⟨x,_,rfl⟩:=bF.1 hd;exact⟨rfl,rfl⟩
theorem zfv:∀l:List In,jZ fE.sz (l.map dI)=true
 |[]=>rfl
 |i::r=>by simp only[aO,jZ,zfv r];rfl
theorem zcl{α:Type}:∀(o:List (Nat×α))(id:Nat),(∀p∈o,p.1<id)->gI o id=o
 |[],_,_=>rfl
 |(k,x)::o,id,h=>by
  have hk:(k==id)=false:=beq_false_of_ne (by have:=h (k,x) (by simp);simp only at this;omega);rw[gI,hk,dX,zcl o id fun p hp=>h p (aI _ hp)]
structure AS(o:List (Nat×List Cell))(O:Store)(id:Nat)(l:List In):Prop where
 dE:O.dE=(id,cI l)::o
 low:∀p∈o,p.1<id
 fH:dC O.fH id=some ⟨fE.el,fE.sz⟩
 lt:id<O.next
theorem AS.get{o:List (Nat×List Cell)}{O:Store}{id:Nat}{l:List In}(h:AS o O id l):dC O.dE id=some (cI l):=by rw[h.dE];simp[dC,dK]
theorem AS.list{o:List (Nat×List Cell)}{O:Store}{id:Nat}{l:List In}(h:AS o O id l):nB O.dE (.arr fE id 0 l.length)=some (l.map dI):=by
 have e:=WM (k:=fE) (ds:=l.map dI) (ER l);rw[aJ]at e;have hd:decide ((0+l.length)*fE.sz<=(cI l).length)=true:=by rw[Wx];simp[fE]
 have hc:(fE.ag||fE.sz==1)=true:=rfl;simp only[nB,h.get,dH,eP,hc,hd,aY,dQ];rw[Ej,e]
theorem AS.more{o:List (Nat×List Cell)}{O:Store}{id:Nat}{l:List In}(h:AS o O id l)(x:In)(hl:l.length<1000000000):∃O',lR O fE 48 (.arr fE id 0 l.length) [dI x]=some (.arr fE O.next 0 (l.length+1),O')/\AS o O' O.next (l++[x]):=by
 have h1:jZ fE.sz [dI x]=true:=rfl;have e0:decide (l.length*fE.sz<=(cI l).length)=true:=by rw[Wx];simp[fE]
 have e1:decide ((l.length+1)*48<=iN)=true:=decide_eq_true (show(l.length+1)*48<=1099511627776 by omega);have e2:decide (l.length+1<=iN)=true:=decide_eq_true (show l.length+1<=1099511627776 by omega);have ek:fE.same fE=true:=rfl;have ht:(cI l).take (l.length*fE.sz)=cI l:=List.take_of_length_le (by rw[Wx];simp[fE]);have en:(cI l).map (fun c=>Cell.of c.d)++cellsOf [dI x]=cI (l++[x]):=(by rw[Ej,Ej,LQ,aU,AV];rfl);refine⟨fR {O with dE:=gI O.dE id} fE (cI (l++[x])),?_,?_⟩
 ·simp only[lR,h1,dQ,h.get,h.fH,dH,eP,ek,bW,aG,aH,aN,e0,e1,e2,aY,ht,en]
 ·have hb:(id==id)=true:=by simp
  have hdel:gI O.dE id=o:=by rw[h.dE,gI,hb,dQ,zcl o id h.low]
  refine⟨by simp only[fR,hdel],fun p hp=>Nat.lt_trans (h.low p hp) h.lt,by simp[fR,dC,dK],by simp[fR]⟩
theorem AS.first{O:Store}(hlow:∀p∈O.dE,p.1<O.next)(l:List In)(hne:l≠[])(hl:l.length<1000000000):∃O',lR O fE 48 .dN (l.map dI)=some (.arr fE O.next 0 l.length,O')/\AS O.dE O' O.next l:=by
 have e1:decide (l.length*48<=iN)=true:=decide_eq_true (show l.length*48<=1099511627776 by omega);have e2:decide (l.length<=iN)=true:=decide_eq_true (show l.length<=1099511627776 by omega);have e:(l.map dI).isEmpty=false:=by cases l with
  |nil=>exact absurd rfl hne
  |cons a b=>rfl
 refine⟨fR O fE (cI l),?_,?_⟩
 ·rw[Ej];simp only[lR,zfv,e,dQ,dX,e1,e2,aY,aJ]
 ·exact⟨rfl,hlow,by simp[fR,dC,dK],by simp[fR]⟩
section
variable{C:eV}{n:Nat}
def Ah(d:D)(b:List In)(id m i:Nat):Env:={slots:=[(0,⟨false,d⟩),(1,⟨false,eM b⟩),(5,⟨false,.arr fE id 0 m⟩),(6,⟨false,.int .i64 i⟩)],dR:=[],boxes:=[],defers:=[]}
theorem zfdb(d:D)(k:Nat)(hd:lenOf d=some k)(b:List In)(i id m:Nat)(O O':Store)(h:i<b.length)(hl:b.length<1000000000)(ha:lR O fE 48 (.arr fE id 0 m) [dI (lQ k b[i])]=some (.arr fE O.next 0 (m+1),O')):exec C n none Jk (Ah d b id m i) O=some (.normal,Ah d b O.next (m+1) (i+1),O'):=by
 have hi:((i:Int)<(b.length:Int)):=by omega
 have w:=iE (i:=i) (by omega);have hx:=zj0 b i h;cases hb:b[i]with
 |mk op nn mm nm =>
 rw[hb]at ha hx;simp only[lQ,wB]at ha;simp only[dI]at hx ha;cases h1:op==[84,69,83,84]with
 |true =>simp only[h1,Bool.true_or,dQ]at ha;simp only[Jk,Ah,sA,seval,kn,fP,mE,xQ,hd,hi,hx,h1,ha,w]
 |false =>
  cases h2:op==[84,69,83,84,73]with
  |true =>simp only[h1,h2,bY,Bool.true_or,dQ]at ha;simp only[Jk,Ah,sA,seval,kn,fP,mE,xQ,hd,hi,hx,h1,h2,ha,w]
  |false =>
   cases h3:op==[74,85,77,80]with
   |true =>simp only[h1,h2,h3,bY,dQ]at ha;simp only[Jk,Ah,sA,seval,kn,fP,mE,xQ,hd,hi,hx,h1,h2,h3,ha,w]
   |false =>simp only[h1,h2,h3,bY,dX]at ha;simp only[Jk,Ah,sA,seval,kn,fP,mE,xQ,hd,hi,hx,h1,h2,h3,ha,w]
theorem ziub(d:D)(b:List In)(id m:Nat)(O:Store):exec C n none Jk (Ah d b id m b.length) O=some (.exit 0,{Ah d b id m b.length with slots:=[(0,⟨false,d⟩),(1,⟨false,eM b⟩),(5,⟨false,.arr fE id 0 m⟩),(6,⟨false,.int .i64 b.length⟩),(13,⟨false,.bool false⟩)]},O):=by
 have hi:¬((b.length:Int)<(b.length:Int)):=by omega
 simp only[Jk,Ah,sA,seval,kn,xQ,hi]
end
theorem zlkb{C:eV}{n:Nat}{RD:eV}(d:D)(a b:List In)(O:Store)(hlow:∀p∈O.dE,p.1<O.next)(hne:a≠[])(hla:lenOf d=some a.length)(kE:nB O.dE d=some (a.map dI))(hl:a.length+b.length<1000000000)(hn:b.length<n) :
  ∃id O',nA Ra RD BH O.next (exec C n none BH.body (mX [d,eM b]) O)=some (.ret ⟨false,.arr fE id 0 (a.length+b.length)⟩,O')/\AS O.dE O' id (fM a b):=by
 obtain⟨O1,h1,hs1⟩:=AS.first hlow a hne (by omega)
 obtain⟨r,hr,id,O',rfl,hs⟩:=Vu (body:=exec C n none Jk)
  (fun i e O2=>∃id,e=Ah d b id (a.length+i) i/\AS O.dE O2 id (a++(b.take i).map (lQ a.length)))
  (fun r=>∃id O',r=(.exit 0,{Ah d b id (a.length+b.length) b.length with slots:=[(0,⟨false,d⟩),(1,⟨false,eM b⟩),(5,⟨false,.arr fE id 0 (a.length+b.length)⟩),(6,⟨false,.int .i64 b.length⟩),(13,⟨false,.bool false⟩)]},O')/\AS O.dE O' id (fM a b)) b.length
  (fun i e O2 hi ⟨id,he,hs⟩=>by
   subst he;have hlen:(a++(b.take i).map (lQ a.length)).length=a.length+i:=by simp;omega
   obtain⟨O3,h3,hs3⟩:=hs.more (lQ a.length b[i]) (by omega);rw[hlen]at h3;refine⟨_,O3,zfdb d a.length hla b i id _ O2 O3 hi (by omega) h3,O2.next,by simp[Nat.add_assoc],?_⟩;have e:a++(b.take i).map (lQ a.length)++[lQ a.length b[i]]=a++(b.take (i+1)).map (lQ a.length):=by rw[bR,<-mC b i hi,aU];rfl
   rw[<-e];exact hs3)
  (fun e O2 ⟨id,he,hs⟩=>by
   subst he;refine⟨_,ziub d b id _ O2,fun _ _ h=>(by cases h),id,O2,rfl,?_⟩;rw[aV]at hs;exact hs) 0 n (Ah d b O.next a.length 0) O1 (by omega) (by omega) ⟨O.next,by simp,by simpa using hs1⟩
 simp only[Ah,iG]at hr;exact⟨id,O',by simp only[BH,sA,seval,kn,fP,mE,kE,h1,hr],hs⟩
end Go.Fu
