/- A part of the proof. -/
import Derived.Test.YtldfbnbckiifeaaGreatDoorMyDrawn
import Derived.RangeFuncRecord
import Derived.DefersIn
import Derived.LoopNIn
import Derived.Scope
set_option linter.all false
namespace Go.Mx
open Go
section
variable[kQ]{P:Program}{I:fU}{j:fJ}{own:gZ}{lb:fJ}{N:Nat}{e:Env}{a:Go.Act}{w:World}{O:Store}
theorem zaj{k:RowK}(hk:(k.ag||k.sz==1)=true):∀(n:Nat)(ds:List D)(vs:List Value),n*k.sz<=ds.length->dV I j ds vs->(∀x∈vs,x.oneCell'=true) ->
  ∃us,dV I j (xE k n ds) us/\fL us=vs.take (n*k.sz)/\(xE k n ds).length=n/\∀x∈us,x.cells.size=k.sz
 |0,ds,vs,_,_,_=>⟨[],by simp only[xE,dV],by simp[fL],rfl,by simp⟩
 |n+1,ds,vs,hn,hr,h1=>by
  have hlen:=hr.length;rw[Nat.add_mul]at hn;have ht:dV I j (ds.take k.sz) (vs.take k.sz):=hr.take k.sz;have hd:dV I j (ds.drop k.sz) (vs.drop k.sz):=dV.of (by simp[hlen]) fun i d hi=>by
   rw[List.getElem?_drop]at hi ⊢;exact hr.at _ d hi
  obtain⟨u,hu,huc⟩:=zdk hk (by simp;omega) ht (fun x hx=>h1 x (bH hx));obtain⟨us,k1,k2,k3,k4⟩:=zaj hk n (ds.drop k.sz) (vs.drop k.sz) (by simp;omega) hd (fun x hx=>h1 x (List.mem_of_mem_drop hx));refine⟨u::us,by simp only[xE,dV];exact⟨u,us,rfl,hu,k1⟩,?_,by simp only[xE,aG,k3],fun x hx=>?_⟩
  ·have:fL (u::us)=u.cells.toList++fL us:=by simp[fL]
   rw[this,huc,k2,Nat.add_mul,Nat.one_mul,Nat.add_comm,List.take_add]
  ·rcases aS.1 hx with rfl|hx
   ·rw[<-Array.length_toList,huc,bI];omega
   ·exact k4 x hx
theorem zrp(hG:eH I j own O w){k:RowK}{id off len:Nat}{cs:List Cell}(hk:(k.ag||k.sz==1)=true)(hc:dC O.dE id=some cs)(hle:(off+len)*k.sz<=cs.length) :
  ∃b us,j id=some b/\own b=some (.obj id)/\dV I j (Hj k cs off len) us/\(Hj k cs off len).length=len/\(∀(n:Nat)(u:Value),(fL us)[n]?=some u->w.cell? ⟨b,off*k.sz+n,none⟩=some u)/\∀x∈us,x.cells.size=k.sz:=by
 obtain⟨b,q1,q2,q3⟩:=hG.dE id cs hc;obtain⟨vs,T,h1,h2,h3,h4⟩:=q3.si;rw[Nat.add_mul]at hle;have hlen:=h3.length;have hd:dV I j ((cs.map fun c=>c.d).drop (off*k.sz)) ((vs.take cs.length).drop (off*k.sz)):=dV.of (by simp;omega) fun i d hi=>by
  rw[List.getElem?_drop]at hi ⊢;exact h3.at _ d hi
 obtain⟨us,k1,k2,k3,k4⟩:=zaj hk len _ _ (by simp;omega) hd (fun x hx=>h4 x (List.mem_of_mem_drop hx));refine⟨b,us,q1,q2,k1,k3,fun n u hn=>?_,k4⟩;rw[k2,List.getElem?_take]at hn;split at hn
 ·rw[List.getElem?_drop,List.getElem?_take]at hn;split at hn
  ·rw[cell_of_row w b _ _ T (0,0) h1];simpa using hn
  ·cases hn
 ·cases hn
def zP(os:mU)(t:Tag):Prop:=∃id,t=.obj id/\(dC os id).isSome=true
theorem zcm{os:mU}{id:Nat}{t:Tag}(h:zP (gI os id) t):zP os t:=by
 obtain⟨i,rfl,hi⟩:=h;rw[mK]at hi;split at hi
 ·cases hi
 ·exact⟨i,rfl,hi⟩
theorem ziwb{os:mU}(hG:eH I j own {O with dE:=os} w){id b:Nat}{cs:List Cell}(hc:dC os id=some cs)(hb:j id=some b) :
  ∃I' own',eH I' j own' {O with dE:=gI os id} w/\fD I j own w I' j own' w (zP os)/\∀o v,o<cs.length->w.cell? ⟨b,o,none⟩=some v->I' b o=some v:=by
 classical
 obtain⟨b',hb',hown,oD⟩:=hG.dE id cs hc;rw[hb]at hb';cases hb';have zk7b:=oD;obtain⟨vs,T,hrow,_⟩:=zk7b
 let I':fU:=fun x o=>if x=b then(if o<cs.length then w.cell? ⟨b,o,none⟩else none)else I x o
 let own':gZ:=fun x=>if x=b then none else own x
 have hno:=hG.kS b _ hown rfl;have hE:fD I j own w I' j own' w (fun t=>t=.obj id):=by
  refine⟨rfl,rfl,rfl,aM _,fun x o v h=>?_,fun _ _ h=>h,fun x _ hx=>?_⟩
  ·have hne:x≠b:=fun e=>by rw[e,hno o]at h;cases h
   simp only[I',if_neg hne];exact h
  ·have hne:x≠b:=fun e=>hx _ (e▸hown) rfl;exact⟨rfl,if_neg hne,fun o=>if_neg hne⟩
 refine⟨I',own',⟨fun x o v h=>?_,fun x t h hu o=>?_,fun id' cs' h=>?_,fun id' t' cs' h1 h2 x hx=>?_,fun id' x' h=>?_,hG.mG,fun x t h=>?_⟩,hE.weaken (fun t h=>by subst h;exact⟨id,rfl,by rw[hc];rfl⟩),fun o v ho hv=>by simp only[I',if_true,if_pos ho];exact hv⟩
 ·by_cases hx:x=b
  ·subst hx;simp only[I',if_true]at h;split at h
   ·exact h
   ·cases h
  ·simp only[I',if_neg hx]at h;exact hG.holds x o v h
 ·by_cases hx:x=b
  ·simp only[own',if_pos hx]at h;cases h
  ·simp only[own',if_neg hx]at h;simp only[I',if_neg hx];exact hG.kS x t h hu o
 ·simp only[mK]at h;split at h
  ·cases h
  ·rename_i hne;obtain⟨B,q1,q2,q3⟩:=hG.dE id' cs' h;have hB:B≠b:=fun e=>by
    rw[e,hown]at q2;cases q2;exact hne rfl
   exact⟨B,q1,by simp only[own',if_neg hB];exact q2,hE.zB q2 (fun h=>by cases h;exact hne rfl) (fun _ _ _ _ h=>by cases h) q3⟩
 ·simp only[mK]at h2;split at h2
  ·cases h2
  ·exact hG.fH id' t' cs' h1 h2 x hx
 ·obtain⟨B,q1,q2,q3⟩:=hG.dP id' x' h;have hB:B≠b:=fun e=>by
   subst e;exact q3.Jt hrow
  exact⟨B,q1,by simp only[own',if_neg hB];exact q2,q3.keep rfl hE.qY hE.lay⟩
 ·by_cases hx:x=b
  ·simp only[own',if_pos hx]at h;cases h
  ·simp only[own',if_neg hx]at h;exact hG.jU x t h
def Yv(j:fJ)(w:World)(O:Store)(I:fU)(own:gZ)(os os':mU)(Q:fU->Prop):Prop :=
 ∃I' own',eH I' j own' {O with dE:=os'} w/\fD I j own w I' j own' w (zP os)/\(∀t,zP os' t->zP os t)/\Q I'
theorem Yv.refl{os:mU}(hG:eH I j own {O with dE:=os} w){Q:fU->Prop}(hQ:Q I):Yv j w O I own os os Q:=⟨I,own,hG,fD.refl _ _ _ _ _,fun _ h=>h,hQ⟩
theorem zx{f:D->mU->Option (D×mU)}(hf:∀(d:D) (os:mU) (d':D) (os':mU) (I:fU) (own:gZ) (v:Value),f d os=some (d',os')->eH I j own {O with dE:=os} w->dL I j d v->Yv j w O I own os os' fun I'=>dL I' j d' v) :
  ∀(ds:List D)(os:mU)(ds':List D)(os':mU)(I:fU)(own:gZ)(vs:List Value),Gy f ds os=some (ds',os')->eH I j own {O with dE:=os} w->dV I j ds vs->Yv j w O I own os os' fun I'=>dV I' j ds' vs
 |[],os,ds',os',I,own,vs,h,hG,hr=>by
  simp only[Gy,aA,Prod.mk.injEq]at h;obtain⟨rfl,rfl⟩:=h;exact Yv.refl hG hr
 |d::ds,os,ds',os',I,own,vs,h,hG,hr=>by
  simp only[Gy]at h;obtain⟨⟨d1,os1⟩,h1,h⟩:=dJ h;obtain⟨⟨ds1,os2⟩,h2,h⟩:=dJ h;cases h;simp only[dV]at hr;obtain⟨x,r,rfl,hx,hr⟩:=hr;obtain⟨I1,jQ,g1,g2,g3,g4⟩:=hf d os d1 os1 I own x h1 hG hx;obtain⟨I2,iL,k1,k2,k3,k4⟩:=zx hf ds os1 ds1 os2 I1 jQ r h2 g1 (g2.Nj hr);refine⟨I2,iL,k1,g2.trans (k2.weaken g3),fun t h=>g3 t (k3 t h),?_⟩;simp only[dV];exact⟨x,r,rfl,k2.rep g4,k4⟩
theorem VY:∀(n:Nat)(d:D)(os:mU)(d':D)(os':mU)(I:fU)(own:gZ)(v:Value),kR n d os=some (d',os')->eH I j own {O with dE:=os} w->dL I j d v->Yv j w O I own os os' fun I'=>dL I' j d' v
 |0,d,os,d',os',I,own,v,h,_,_=>by simp only[kR,reduceCtorEq]at h
 |n+1,d,os,d',os',I,own,v,h,hG,hr=>by
  have hL:=zx (VY n);cases d with
  |arr k id off len =>
   simp only[kR]at h;obtain⟨cs,hc,h⟩:=dJ h;obtain⟨hb,h⟩:=gQ h;obtain⟨⟨es,os1⟩,h1,h⟩:=dJ h;cases h;simp only[aC,cE]at hb;obtain⟨hk,hle⟩:=hb;simp only[dL]at hr;obtain⟨b,c,ad,r1,r2,r3,hv,r4⟩:=hr;obtain⟨b',us,e1,e2,e3,e4,e5,e6⟩:=zrp hG hk hc hle;rw[r1]at e1;cases e1;obtain⟨I1,jQ,g1,g2,g3⟩:=ziwb hG hc r1;obtain⟨I2,iL,k1,k2,k3,k4⟩:=hL _ _ _ _ I1 jQ us h1 g1 (g2.Nj e3);refine⟨I2,iL,k1,g2.trans (k2.weaken fun t h=>zcm h),fun t h=>zcm (k3 t h),?_⟩;have hlen:es.length=len:=by rw[<-k4.length,e3.length,e4]
   simp only[dL];refine⟨some ad,c-off,by rw[hlen];exact hv,by omega,by omega,?_⟩;rcases r4 with h0|rfl
   ·exact .inl (bL (by omega))
   ·refine .inr ⟨b,_,rfl,jS.EE k4 e6 fun i u hi=>k2.qY _ _ _ (g3 _ _ ?_ (e5 i u hi))⟩;have hlt:=(List.getElem?_eq_some_iff.1 hi).1;rw[Bc e6,k4.length,hlen]at hlt;rw[Nat.add_mul]at hle;omega
  |agg ds =>simp only[kR]at h;obtain⟨⟨es,os1⟩,h1,h⟩:=dJ h;cases h;simp only[dL]at hr;obtain⟨vs,hv,hr,h2⟩:=hr;obtain⟨I2,iL,k1,k2,k3,k4⟩:=hL _ _ _ _ I own vs h1 hG hr;exact⟨I2,iL,k1,k2,k3,by simp only[dL];exact⟨vs,hv,k4,h2⟩⟩
  |fN ds =>simp only[kR]at h;obtain⟨⟨es,os1⟩,h1,h⟩:=dJ h;cases h;simp only[dL]at hr;obtain⟨vs,hv,hr⟩:=hr;obtain⟨I2,iL,k1,k2,k3,k4⟩:=hL _ _ _ _ I own vs h1 hG hr;exact⟨I2,iL,k1,k2,k3,by simp only[dL];exact⟨vs,hv,k4⟩⟩
  |iface t d =>simp only[kR]at h;obtain⟨⟨es,os1⟩,h1,h⟩:=dJ h;cases h;simp only[dL]at hr;obtain⟨x,hv,hr⟩:=hr;obtain⟨I2,iL,k1,k2,k3,k4⟩:=VY n _ _ _ _ I own x h1 hG hr;exact⟨I2,iL,k1,k2,k3,by simp only[dL];exact⟨x,hv,k4⟩⟩
  |_ =>simp only[kR,aA,Prod.mk.injEq]at h;obtain⟨rfl,rfl⟩:=h;exact Yv.refl hG hr
theorem zp6{n:Nat}{k:RowK}{es:List D}{os:mU}{r:D×mU}(h:kR n (.list k es) os=some r):r=(.list k es,os):=by
 cases n with
 |zero=>simp only[kR,reduceCtorEq]at h
 |succ n=>simp only[kR,aA]at h;exact h.symm
theorem za2{os os':mU}{c:Cell}{d':D}{v:Value}{t:Tag}(ht:∀id,t≠.obj id)(h:kR 40 c.d os=some (d',os'))(hG:eH I j own {O with dE:=os} w)(hr:uG I j own w t c v) :
  ∃I' own',eH I' j own' {O with dE:=os'} w/\fD I j own w I' j own' w (zP os)/\(∀t,zP os' t->zP os t)/\uG I' j own' w t ⟨c.keeps,d'⟩ v:=by
 obtain⟨I',own',k1,k2,k3,k4⟩:=VY 40 _ _ _ _ I own v h hG hr.1;refine⟨I',own',k1,k2,k3,k4,fun ho=>?_⟩;simp only[Cell.keeps]at ho;cases hd:c.d<;>rw[hd]at ho<;>simp only[aE]at ho;rename_i k es;rw[hd]at h;have:=zp6 h;simp only[Prod.mk.injEq]at this;obtain⟨rfl,rfl⟩:=this;have:=hr.2 ho;rw[hd]at this;exact k2.owned (fun hh=>by obtain⟨id,he,_⟩:=hh;exact ht id he) this
theorem VW{t:Nat->Tag}(ht:∀i id,t i≠.obj id):∀(cs:List Cell)(o:Nat)(os:mU)(cs':List Cell)(os':mU)(I:fU)(own:gZ)(vs:List Value),Bj cs os=some (cs',os')->eH I j own {O with dE:=os} w ->
  (∀(i:Nat)(c:Cell),cs[i]?=some c->∃v,vs[i]?=some v/\uG I j own w (t (o+i)) c v) ->
  ∃I' own',eH I' j own' {O with dE:=os'} w/\fD I j own w I' j own' w (zP os)/\(∀t,zP os' t->zP os t)/\cs'.length=cs.length/\∀(i:Nat)(c:Cell),cs'[i]?=some c->∃v,vs[i]?=some v/\uG I' j own' w (t (o+i)) c v
 |[],o,os,cs',os',I,own,vs,h,hG,hr=>by
  simp only[Bj,aA,Prod.mk.injEq]at h;obtain⟨rfl,rfl⟩:=h;exact⟨I,own,hG,fD.refl _ _ _ _ _,fun _ h=>h,rfl,fun i c hi=>by simp at hi⟩
 |c::cs,o,os,cs',os',I,own,vs,h,hG,hr=>by
  simp only[Bj]at h;obtain⟨⟨d1,os1⟩,h1,h⟩:=dJ h;obtain⟨⟨cs1,os2⟩,h2,h⟩:=dJ h;cases h;obtain⟨v0,hv0,hc0⟩:=hr 0 c rfl;obtain⟨I1,jQ,g1,g2,g3,g4⟩:=za2 (ht _) h1 hG hc0
  obtain⟨I2,iL,k1,k2,k3,k4,k5⟩:=VW ht cs (o+1) os1 cs1 os2 I1 jQ (vs.drop 1) h2 g1 (fun i c hi=>by
   obtain⟨v,q1,q2⟩:=hr (i+1) c (by simpa using hi);refine⟨v,by rw[List.getElem?_drop,Nat.add_comm];exact q1,?_⟩;rw[show o+1+i=o+(i+1) by omega];exact g2.OJ (fun _ hh=>by obtain⟨id,he,_⟩:=hh;exact ht _ id he) q2)
  refine⟨I2,iL,k1,g2.trans (k2.weaken g3),fun t h=>g3 t (k3 t h),by simp[k4],fun i c' hi=>?_⟩;cases i with
  |zero =>simp only[List.getElem?_cons_zero,aA]at hi;subst hi;exact⟨v0,hv0,k2.OJ (fun _ hh=>by obtain⟨id,he,_⟩:=hh;exact ht _ id he) g4⟩
  |succ i =>obtain⟨v,q1,q2⟩:=k5 i c' (by simpa using hi);rw[List.getElem?_drop,Nat.add_comm]at q1;refine⟨v,q1,?_⟩;rw[show o+(i+1)=o+1+i by omega];exact q2
theorem zpc{s:Nat}{cs:List Cell}(hG:eH I j own O w)(hL:eI I j own lb N e a w)(h1:dC e.boxes s=some cs)(h2:dC e.dR s=some (s,0)) :
  ∃I' j' own',eH I' j' own' {O with dE:=(O.next,cs.map fun c=>Cell.of c.d)::O.dE,fH:=gI O.fH O.next,next:=O.next+1} w /\
   eI I' j' own' lb N {e with slots:=fF e.slots s ⟨false,.ptr O.next 0⟩,dR:=xR (gI e.dR s) s,boxes:=gI e.boxes s} a w/\fD I j own w I' j' own' w (fun _=>True):=by
 classical
 obtain⟨B,q1,q2,q3⟩:=hL.boxes s cs h1;obtain⟨B',g1,g2⟩:=hL.dR s s 0 h2;rw[q1]at g1;cases g1
 let j':fJ:=fun i=>if i=O.next then some B else j i
 let own':gZ:=fun b=>if b=B then some (.obj O.next)else own b
 have hjn:∀i b,j i=some b->i≠O.next:=fun i b h e=>by have:=hG.mG i b h;omega
 have uX:∀i b,j i=some b->j' i=some b:=fun i b h=>by simp only[j',if_neg (hjn i b h)];exact h
 have hE:fD I j own w I j' own' w (fun t=>t=.box s):=(by refine⟨rfl,rfl,rfl,aM _,fun _ _ _ h=>h,uX,fun b _ ht=>⟨rfl,?_,fun _=>rfl⟩⟩;have hb:b≠B:=fun e=>ht _ (e▸q2) rfl;simp only[own',if_neg hb]);refine⟨I,j',own',⟨hG.holds,fun b t h hu o=>?_,fun id cs' h=>?_,fun id t cs' h1' h2' b hb=>?_,fun id x h=>?_,fun id b h=>?_,fun b t h=>?_⟩,?_,hE.weaken fun _ _=>trivial⟩
 ·by_cases hb:b=B
  ·subst hb;exact hG.kS b _ q2 rfl o
  ·simp only[own',if_neg hb]at h;exact hG.kS b t h hu o
 ·simp only[nH]at h;by_cases hid:O.next=id
  ·rw[if_pos hid]at h;cases h;subst hid;obtain⟨vs,T,r1,r2,r3⟩:=q3;refine⟨B,if_pos rfl,if_pos rfl,vs,T,r1,by simpa using r2,fun i c hi=>?_⟩;rw[List.getElem?_map,Option.map_eq_some_iff]at hi;obtain⟨c0,hi,rfl⟩:=hi;obtain⟨v,v1,v2,v3⟩:=r3 i c0 hi;exact⟨v,v1,v2,dL.mono (fun _ _ _ h=>h) uX _ _ v3.1,fun h=>by cases h⟩
  ·rw[if_neg hid]at h;obtain⟨B2,r1,r2,r3⟩:=hG.dE id cs' h;have hne:B2≠B:=fun e=>by
    subst e;rw[q2]at r2;cases r2
   exact⟨B2,uX _ _ r1,by simp only[own',if_neg hne];exact r2,hE.zB r2 (fun h=>by cases h) (fun _ _ _ _ h=>by cases h) r3⟩
 ·simp only[nH]at h2';simp only[mK]at h1';by_cases hid:O.next=id
  ·rw[if_pos hid]at h1';cases h1'
  ·rw[if_neg hid]at h2' h1';have hid2:¬id=O.next:=fun e=>hid e.symm;have hjb:j id=some b:=by
    simp only[j',if_neg hid2]at hb;exact hb
   exact(hG.fH id t cs' h1' h2' b hjb).keep rfl uX
 ·obtain⟨B2,r1,r2,r3⟩:=hG.dP id x h;have hne:B2≠B:=fun e=>by
   subst e;rw[q2]at r2;cases r2
  exact⟨B2,uX _ _ r1,by simp only[own',if_neg hne];exact r2,r3.keep rfl (fun _ _ _ h=>h) uX⟩
 ·by_cases hid:id=O.next
  ·simp only;omega
  ·simp only[j',if_neg hid]at h;have:=hG.mG id b h;simp only;omega
 ·by_cases hb:b=B
  ·subst hb;exact hG.jU b _ q2
  ·simp only[own',if_neg hb]at h;exact hG.jU b t h
 ·have hL0:eI I j own lb N {e with dR:=xR (gI e.dR s) s,boxes:=gI e.boxes s} a w:=hL.sub (fun s' c h=>⟨c,h,rfl,fun h=>h⟩) (fun s' p h=>by
    have:=(LH _ _ _ _ _ (show dC (xR (gI e.dR s) s) s'=some (p.1,p.2)from h)).2;rw[mK]at this;split at this
    ·cases this
    ·exact this) (fun s' cs' h=>by
    rw[mK]at h;split at h
    ·cases h
    ·exact⟨cs',h,pL.refl _⟩) rfl
  have hL1:=hL0.kN hE (fun _ _ _ _ h=>by cases h) (fun s' cs' hs=>⟨(fun h=>by
   cases h;simp only[mK,if_true]at hs;cases hs),(fun _ _ _ _ h=>by cases h)⟩)
  exact{size:=hL1.size,slots:=fun s' c' hs=>(by
   simp only[jM]at hs;split at hs
   ·rename_i hss;cases hs;refine⟨?_,fun h=>by cases h⟩;rw[<-hss,g2];simp only[dL];exact⟨B,if_pos rfl,rfl⟩
   ·exact hL1.slots s' c' hs),dR:=hL1.dR,boxes:=hL1.boxes,defers:=hL1.defers}
theorem zov{t:X4}{e':Env}{O':Store}(h:uI t e O=some (e',O'))(hG:eH I j own O w)(hL:eI I j own lb N e a w) :
  ∃I' j' own',eH I' j' own' O' w/\eI I' j' own' lb N e' a w/\fD I j own w I' j' own' w (fun _=>True):=by
 cases t with
 |zg5 s =>simp only[uI]at h;obtain⟨cs,h1,h⟩:=dJ h;obtain⟨p,h2,h⟩:=dJ h;obtain⟨h3,h⟩:=gQ h;cases h;obtain⟨p1,p2⟩:=p;simp only[aC,beq_iff_eq]at h3;obtain⟨rfl,rfl⟩:=h3;exact zpc hG hL h1 h2
 |slot s =>
  simp only[uI]at h;obtain⟨c,h1,h⟩:=dJ h;obtain⟨⟨d',os'⟩,h2,h⟩:=dJ h;cases h;obtain⟨I',own',k1,k2,k3,k4⟩:=za2 (t:=.slot s) (fun _ h=>by cases h) h2 hG (hL.slots s c h1);refine⟨I',j,own',k1,?_,k2.weaken fun _ _=>trivial⟩;have hL':=hL.kN k2 (fun _ _ _ _ h=>by obtain⟨_,h,_⟩:=h;cases h) (fun _ _ _=>⟨(fun h=>by obtain⟨_,h,_⟩:=h;cases h),(fun _ _ _ _ h=>by obtain⟨_,h,_⟩:=h;cases h)⟩)
  exact{size:=hL'.size,slots:=fun s' c' hs=>(by
   simp only[jM]at hs;split at hs
   ·rename_i hss;cases hs;rw[<-hss];exact k4
   ·exact hL'.slots s' c' hs),dR:=hL'.dR,boxes:=hL'.boxes,defers:=hL'.defers}
 |box b =>
  simp only[uI]at h;obtain⟨cs,h1,h⟩:=dJ h;obtain⟨⟨cs',os'⟩,h2,h⟩:=dJ h;cases h;obtain⟨B,q1,q2,vs,T,q3,q4,q5⟩:=hL.boxes b cs h1
  obtain⟨I',own',k1,k2,k3,k4,k5⟩:=VW (t:=.cell b) (fun _ _ h=>by cases h) cs 0 _ _ _ I own vs h2 hG (fun i c hi=>by
   obtain⟨v,g1,_,g3⟩:=q5 i c hi;exact⟨v,g1,by rw[aN];exact g3⟩)
  refine⟨I',j,own',k1,?_,k2.weaken fun _ _=>trivial⟩;have hL':=hL.kN k2 (fun _ _ _ _ h=>by obtain⟨_,h,_⟩:=h;cases h) (fun _ _ _=>⟨(fun h=>by obtain⟨_,h,_⟩:=h;cases h),(fun _ _ _ _ h=>by obtain⟨_,h,_⟩:=h;cases h)⟩);obtain⟨B',q1',q2',_⟩:=hL'.boxes b cs h1;rw[q1]at q1';cases q1';refine hL'.jd q1 q2' ⟨vs,T,q3,by show cs'.length<=vs.length;omega,fun i c hi=>?_⟩;obtain⟨v,g1,g2⟩:=k5 i c hi;rw[aN]at g2;have hlt:i<cs.length:=by
   rw[<-k4];exact(List.getElem?_eq_some_iff.1 hi).1
  obtain⟨v',g3,g4,_⟩:=q5 i _ (List.getElem?_eq_getElem hlt);rw[g1]at g3;cases g3;exact⟨v,g1,g4,g2⟩
 |obj s =>
  simp only[uI]at h;obtain⟨p,hp,h⟩:=dJ h;split at h
  ·rename_i id hpd;obtain⟨cs,h1,h⟩:=dJ h;obtain⟨⟨cs',os'⟩,h2,h⟩:=dJ h;cases h;obtain⟨B,q1,q2,q3⟩:=hG.dE id cs h1;have oD:=q3;obtain⟨vs,T,g1,g2,g3⟩:=oD
   have hG0:eH I j own {O with dE:=gI O.dE id} w:=hG.sub (fun i c h=>by
     simp only[mK]at h;split at h
     ·cases h
     ·exact⟨c,h,pL.refl c⟩) (aM _) (fun _ _ h=>h) (fun _ _ h=>h)
   obtain⟨I',own',k1,k2,k3,k4,k5⟩:=VW (O:=O) (t:=.uV id) (fun _ _ h=>by cases h) cs 0 _ _ _ I own vs h2 hG0 (fun i c hi=>by
    obtain⟨v,r1,_,r3⟩:=g3 i c hi;exact⟨v,r1,by rw[aN];exact r3⟩)
   have hnt:¬zP (gI O.dE id) (.obj id):=(by rintro⟨i,hi,hs⟩;cases hi;rw[mK,if_pos rfl]at hs;cases hs);have hlt:=hG.jU B _ q2;have hown':own' B=some (.obj id):=(k2.block B hlt (fun t h=>by rw[q2]at h;cases h;exact hnt)).2.1.trans q2;have hL':=hL.kN k2 (fun _ _ _ _ h=>by obtain⟨_,h,_⟩:=h;cases h) (fun _ _ _=>⟨(fun h=>by obtain⟨_,h,_⟩:=h;cases h),(fun _ _ _ _ h=>by obtain⟨_,h,_⟩:=h;cases h)⟩);refine⟨I',j,own',⟨k1.holds,k1.kS,fun i c h=>?_,fun i t c h1' h2' b hb=>?_,fun i x h=>k1.dP i x h,k1.mG,k1.jU⟩,hL',k2.weaken fun _ _=>trivial⟩
   ·simp only[jM]at h;split at h
    ·rename_i hid;cases h;subst hid;refine⟨B,q1,hown',vs,T,g1,by show cs'.length<=vs.length;omega,fun i c hi=>?_⟩;obtain⟨v,r1,r2⟩:=k5 i c hi;rw[aN]at r2;have hlt:i<cs.length:=by
      rw[<-k4];exact(List.getElem?_eq_some_iff.1 hi).1
     obtain⟨v',r3,r4,_⟩:=g3 i _ (List.getElem?_eq_getElem hlt);rw[r1]at r3;cases r3;exact⟨v,r1,r4,r2⟩
    ·exact k1.dE i c h
   ·simp only[jM]at h2';split at h2'
    ·rename_i hid;subst hid;exact hG.fH _ t cs h1' h1 b hb
    ·exact k1.fH i t c h1' h2' b hb
  ·cases h
theorem zy:∀{ts:List X4}{e e':Env}{O O':Store}{I:fU}{j:fJ}{own:gZ},tK ts e O=some (e',O')->eH I j own O w->eI I j own lb N e a w ->
  ∃I' j' own',eH I' j' own' O' w/\eI I' j' own' lb N e' a w/\fD I j own w I' j' own' w (fun _=>True)
 |[],e,e',O,O',I,j,own,h,hG,hL=>by
  simp only[tK,aA,Prod.mk.injEq]at h;obtain⟨rfl,rfl⟩:=h;exact⟨I,j,own,hG,hL,fD.refl _ _ _ _ _⟩
 |t::ts,e,e',O,O',I,j,own,h,hG,hL=>by
  simp only[tK]at h;obtain⟨⟨e1,O1⟩,h1,h⟩:=dJ h;obtain⟨I1,j1,jQ,k1,k2,k3⟩:=zov h1 hG hL;obtain⟨I2,j2,iL,g1,g2,g3⟩:=zy h k1 k2;exact⟨I2,j2,iL,g1,g2,k3.trans g3⟩
end
section
variable[kQ]{P:Program}{I:fU}{j:fJ}{own:gZ}{lb:fJ}{N:Nat}{e:Env}{a:Go.Act}{w:World}{O:Store}
theorem fo(hG:eH I j own O w){x:rJ}{ob:Obj}(hx:∀j':fJ,(∀i b,j i=some b->j' i=some b)->yZ I j' (w.alloc ob) w.heap.size x) :
  ∃j' own',eH I j' own' {O with dP:=(O.next,x)::O.dP,next:=O.next+1} (w.alloc ob)/\fD I j own w I j' own' (w.alloc ob) (fun _=>False)/\j' O.next=some w.heap.size:=by
 classical
 let j':fJ:=fun i=>if i=O.next then some w.heap.size else j i
 have hjn:∀i b,j i=some b->i≠O.next:=fun i b h e=>by have:=hG.mG i b h;omega
 have hE0:=Zx hG ob (.obj O.next);have hE:fD I j own w I j' (fun b=>if b=w.heap.size then some (.obj O.next)else own b) (w.alloc ob) (fun _=>False) :=
  ⟨hE0.os,hE0.tape,hE0.output,hE0.size,hE0.qY,fun i b h=>by simp only[j',if_neg (hjn i b h)];exact h,hE0.block⟩
 have hG0:=KW hG ob (.obj O.next);refine⟨j',_,?_,hE,if_pos rfl⟩;refine⟨hG0.holds,hG0.kS,fun id cs h=>?_,fun id t cs h1 h2 b hb=>?_,fun id x' h=>?_,fun id b h=>?_,hG0.jU⟩
 ·obtain⟨B,q1,q2,q3⟩:=hG.dE id cs h;have hlt:=hG.jU B _ q2;exact⟨B,hE.lay _ _ q1,by rw[if_neg (by omega)];exact q2,hE.zB q2 (fun h=>h) (fun _ _ _ _ h=>h) q3⟩
 ·obtain⟨B,q1,q2,q3⟩:=hG.dE id cs h2;have hb':=hE.lay _ _ q1;rw[hb]at hb';cases hb';have hlt:=hG.jU b _ q2;exact(hG.fH id t cs h1 h2 b q1).keep (heap_alloc_old w _ hlt) hE.lay
 ·simp only[nH]at h;by_cases hid:O.next=id
  ·rw[if_pos hid]at h;cases h;subst hid;exact⟨w.heap.size,if_pos rfl,if_pos rfl,hx _ hE.lay⟩
  ·rw[if_neg hid]at h;obtain⟨B,q1,q2,q3⟩:=hG.dP id x' h;have hlt:=hG.jU B _ q2;exact⟨B,hE.lay _ _ q1,by rw[if_neg (by omega)];exact q2,q3.keep (heap_alloc_old w _ hlt) hE.qY hE.lay⟩
 ·by_cases hid:id=O.next
  ·simp only;omega
  ·simp only[j',if_neg hid]at h;have:=hG.mG id b h;simp only;omega
theorem eI.su{I':fU}{j':fJ}{own':gZ}{w':World}(h:fD I j own w I' j' own' w' (fun _=>False))(hL:eI I j own lb N e a w):eI I' j' own' lb N e a w' :=
 hL.kN h (fun _ _ _ _ h=>h) (fun _ _ _=>⟨fun h=>h,fun _ _ _ _ h=>h⟩)
theorem eI.sw{I':fU}{j':fJ}{own':gZ}{w':World}{id:Nat}(h:fD I j own w I' j' own' w' (fun t=>t=.obj id))(hL:eI I j own lb N e a w):eI I' j' own' lb N e a w' :=
 hL.kN h (fun _ _ _ _ h=>by cases h) (fun _ _ _=>⟨(fun h=>by cases h),(fun _ _ _ _ h=>by cases h)⟩)
theorem zcn:∀(l:List (Nat×Cell))(s:Nat)(c:Cell),dC (Fo l) s=some c->c.own=false/\∃c0,dC l s=some c0/\c0.d=c.d
 |[],s,c,h=>by simp[Fo,sU]at h
 |(k,c1)::r,s,c,h=>by
  simp only[Fo,nH]at h;rw[nH];by_cases hk:k=s
  ·rw[if_pos hk]at h ⊢;cases h;exact⟨rfl,c1,rfl,rfl⟩
  ·rw[if_neg hk]at h ⊢;exact zcn r s c h
theorem MZ{l:Nat}{r:Rw}(h:xI O l=some r):dC O.dP l=some (.loop r):=by unfold xI at h;obtain⟨x,h1,h⟩:=dJ h;cases x<;>simp only[reduceCtorEq,aA]at h;rw[h1,h]
theorem znr{l₀:Nat}{r₀:Loop}(h:w.heap[l₀]?=some (.loop r₀))(fn:FuncId)(tmps:Array Value)(ps:Array Tmp)(assign body:Code) :
  (Instr.enterLoop fn tmps ps assign body (some l₀)).run P w =
   .ok (w.heap.size,[]) (w.alloc (.loop {state:=.ready,pending:=none,fn,tmps,params:=ps,assign,body,defers:=r₀.defers})):=by
 unfold Instr.enterLoop;simp only[Sem.run_bind,run_getLoop h,run_newObj_alloc,Result.andThen,Sem.run_pure]
def Yi(j:fJ)(ro r:Option Nat):Prop:=match ro with
 |none=>r=none
 |some id=>∃b,r=some b/\j id=some b
theorem Yi.mono{j':fJ}{ro r:Option Nat}(h:Yi j ro r)(hj:∀i b,j i=some b->j' i=some b):Yi j' ro r:=by
 cases ro with
 |none=>exact h
 |some id=>obtain⟨b,h1,h2⟩:=h;exact⟨b,h1,hj _ _ h2⟩
theorem zrq(hG:eH I j own O w)(hL:eI I j own lb N e a w){ro r:Option Nat}(hro:Yi j ro r){ps:Array Tmp}{assign body:Code}{ps':List Nat}{assign' GG:eR}
  (hps:ps=⟨ps'⟩) (xz:∀p∈ps',p<N) (h1:kQ.ok N assign assign') (h2:kQ.ok N body GG) {lid:Nat} {e':Env} {O':Store} (h:enterLoop ro ⟨Fo e.slots,ps',assign',GG,.ready⟩ e O=some (lid,e',O')) (fn:FuncId) :
  ∃(l:Nat)(mark:List Deferred)(w':World)(j':fJ)(own':gZ),(Instr.enterLoop fn a.tmps ps assign body r).run P w=.ok (l,mark) w'/\eH I j' own' O' w'/\eI I j' own' lb N e' {a with defers:=mark++a.defers} w' /\
   fD I j own w I j' own' w' (fun _=>False)/\j' lid=some l:=by
 have hrec:∀(df:Nat)(j0 j':fJ)(W:World),(∀i b,j i=some b->j0 i=some b)->(∀i b,j0 i=some b->j' i=some b)->yZ I j' (W.alloc (.loop {state:=.ready,pending:=none,fn,tmps:=a.tmps,params:=ps,assign,body,defers:=df})) W.heap.size (.loop ⟨Fo e.slots,ps',assign',GG,.ready⟩):=(by intro df j0 j' W hj hj';refine⟨_,heap_alloc_new W _,hps,(by rw[hL.size];exact xz),fun s c hs=>?_,by rw[hL.size];exact h1,by rw[hL.size];exact h2,rfl,rfl⟩;obtain⟨k1,c0,k2,k3⟩:=zcn _ _ _ hs;refine⟨k1,?_⟩;rw[<-k3];exact dL.mono (fun _ _ _ h=>h) (fun i b h=>hj' _ _ (hj _ _ h)) _ _ (hL.slots s c0 k2).1);cases ro with
 |none =>
  simp only[Yi]at hro;subst hro;simp only[enterLoop,aA,Prod.mk.injEq]at h;obtain⟨rfl,rfl,rfl⟩:=h;obtain⟨j1,jQ,g1,g2,g3⟩:=fo hG (x:=.yP) (ob:=.deferred (some [])) (fun j' _=>heap_alloc_new w _);obtain⟨j2,iL,k1,k2,k3⟩:=fo g1 (x:=.loop ⟨Fo e.slots,ps',assign',GG,.ready⟩) (ob:=.loop {state:=.ready,pending:=none,fn,tmps:=a.tmps,params:=ps,assign,body,defers:=w.heap.size}) (fun j' hj'=>hrec _ j1 j' _ g2.lay hj');refine⟨_,_,_,j2,iL,run_enterLoop_outer _ _ _ _ _,k1,?_,g2.trans k2,?_⟩
  ·have hL2:=(hL.su g2).su k2;refine{size:=hL2.size,slots:=hL2.slots,dR:=hL2.dR,boxes:=hL2.boxes,defers:=?_};simp only[aW,bG];refine⟨_,_,rfl,hL2.defers,?_⟩;rw[if_pos (zgq _),Nat.add_sub_cancel_left];exact⟨_,k2.lay _ _ g3,rfl⟩
  ·simpa using k3
 |some id =>obtain⟨b,rfl,hb⟩:=hro;simp only[enterLoop]at h;obtain⟨r0,h0,h⟩:=dJ h;cases h;obtain⟨b',q1,_,L,q3,_⟩:=hG.dP id _ (MZ h0);rw[hb]at q1;cases q1;obtain⟨j2,iL,k1,k2,k3⟩:=fo hG (x:=.loop ⟨Fo e.slots,ps',assign',GG,.ready⟩) (ob:=.loop {state:=.ready,pending:=none,fn,tmps:=a.tmps,params:=ps,assign,body,defers:=L.defers}) (fun j' hj'=>hrec _ j j' _ (fun _ _ h=>h) hj');exact⟨_,_,_,j2,iL,znr q3 _ _ _ _ _,k1,hL.su k2,k2,k3⟩
theorem WC(hG:eH I j own O w){l b:Nat}{r:Rw}(hl:xI O l=some r)(hb:j l=some b){st:Dq}{s:LoopState}{p:Option Code}(hst:UC st s p) :
  ∃L:Loop,w.heap[b]?=some (.loop L)/\UC r.st L.state L.pending/\eH I j own (Ed O l r st) (w.putObj b (.loop {L with state:=s,pending:=p}))/\fD I j own w I j own (w.putObj b (.loop {L with state:=s,pending:=p})) (fun t=>t=.obj l):=by
 obtain⟨b',q1,q2,q3⟩:=hG.dP l _ (MZ hl);rw[hb]at q1;cases q1;obtain⟨L,k1,k2,yu,k3,k4,k5,k6⟩:=q3;obtain⟨g1,g2⟩:=lg hG (y:=.loop {r with st:=st}) (ob:=.loop {L with state:=s,pending:=p}) (MZ hl) hb q2 (fun w' hw'=>⟨_,hw',k2,yu,k3,k4,k5,hst⟩) rfl;exact⟨L,k1,k6,g1,g2⟩
theorem zewb(hG:eH I j own O w){id B:Nat}{x:rJ}{ob:Obj}(hB:j id=some B)(hown:own B=some (.obj id))(hid:dC O.dP id=some x) :
  eH I j own {O with dP:=gI O.dP id} (w.putObj B ob)/\fD I j own w I j own (w.putObj B ob) (fun t=>t=.obj id):=by
 obtain⟨B',hB',_,hrel⟩:=hG.dP id x hid;rw[hB]at hB';cases hB';have hBlt:=hrel.lt;have hoth:∀b,b≠B->(w.putObj B ob).heap[b]?=w.heap[b]?:=fun b hb=>World.putObj_heap_other hb;have hE:fD I j own w I j own (w.putObj B ob) (fun t=>t=.obj id) :=
  ⟨rfl,rfl,rfl,by simp,fun _ _ _ h=>h,fun _ _ h=>h,fun b _ hb=>⟨hoth b (fun e=>hb _ (e▸hown) rfl),rfl,fun _=>rfl⟩⟩
 refine⟨?_,hE⟩;refine⟨fun b o' v h=>?_,hG.kS,fun id' cs h=>?_,fun id' t cs h1 h2 b hb=>?_,fun id' x' h=>?_,hG.mG,fun b t h=>aP (hG.jU b t h) hE.size⟩
 ·have hne:b≠B:=fun e=>by
   rw[e,hG.kS B _ hown rfl o']at h;cases h
  rw[World.cell?_of_block (w:=w) (w':=w.putObj B ob) (a:=⟨b,o',none⟩) (hoth b hne)];exact hG.holds b o' v h
 ·obtain⟨B2,q1,q2,q3⟩:=hG.dE id' cs h;have hne:B2≠B:=fun e=>by
   obtain⟨vs,T,h1,_⟩:=q3;rw[e]at h1;exact hrel.Jt h1
  have Yl:id'≠id:=fun e=>by
   subst e;rw[hB]at q1;cases q1;exact hne rfl
  exact⟨B2,q1,q2,hE.zB q2 (fun h=>by cases h;exact Yl rfl) (fun _ _ _ _ h=>by cases h) q3⟩
 ·have hty:=hG.fH id' t cs h1 h2 b hb;obtain⟨row,hrow,_⟩:=hty;have hne:b≠B:=fun e=>by
   rw[e]at hrow;exact hrel.Jt hrow
  exact(hG.fH id' t cs h1 h2 b hb).keep (hoth b hne) (fun _ _ h=>h)
 ·simp only[mK]at h;by_cases hi:id=id'
  ·rw[if_pos hi]at h;cases h
  ·rw[if_neg hi]at h;obtain⟨B2,q1,q2,q3⟩:=hG.dP id' x' h;have hne:B2≠B:=fun e=>by
    subst e;rw[hown]at q2;cases q2;exact hi rfl
   exact⟨B2,q1,q2,q3.keep (hoth B2 hne) (fun _ _ _ h=>h) (fun _ _ h=>h)⟩
end
def NU(o:Oper):Bool:=match o.op with
 |.defer _=>false
 |_=>true
def mQ(P:Program)(N:Nat)(rd:Bool):Code->eR->Bool
 |.skip,.skip=>true
 |.region _ ops false,.region l none _=>(!rd||ops.toList.all NU)&&(ET N ops&&V8 P N ops ops.toList l)
 |.region _ ops true,.region l (some p) _=>(!rd||ops.toList.all NU)&&(P.follows .mixedOrders&&zg0 P N ops l p)
 |.seq a b,.seq a' b'=>mQ P N rd a a'&&mQ P N rd b b'
 |.cond c t f,.cond c' t' f'=>dT c c'&&mQ P N rd t t'&&mQ P N rd f f'
 |.block i b,.block i' b'=>i==i'&&mQ P N rd b b'
 |.loop b,.loop b'=>mQ P N rd b b'
 |.exit i,.exit i'=>i==i'
 |.ret,.ret=>true
 |.scope b,.scope b'=>mQ P N rd b b'
 |.label l,.label l'=>l==l'
 |.goto l,.goto l'=>l==l'
 |.scope b,.ll l b' r'=>mQ P N rd b b'&&(match findLabel b l with|some r=>mQ P N rd r r'|none=>false)
 |.rangeFunc g ps a b,.H5 g' ps' a' b'=>dT g g'&&decide (ps.toList=ps')&&ps'.all (fun p=>decide (p<N))&&mQ P N true a a'&&mQ P N true b b'
 |_,.stuck=>true
 |c,.Dw _ b'=>mQ P N rd c b'
 |_,_=>false
class Ql (P:Program) (K:kQ):Prop where
 iff:∀N c c',K.ok N c c'↔mQ P N true c c'=true
def tQ(P:Program):List ResultVar->List Lj->Bool
 |[],[]=>true
 |.tmp t::l,.tmp s::r=>t==s&&tQ P l r
 |.cell t ty::l,.cell s k::r=>t==s&&oR P ty k&&tQ P l r
 |.cell t ty::l,.SC s k::r=>t==s&&oR P ty (some k)&&tQ P l r
 |_,_=>false
def eL(P:Program)(fn:Func)(af:dZ):Bool:=match fn.body with
 |some c=>!(fn.name == "runtime.NumGoroutine")&&decide (af.nargs<=fn.ntmps)&&mQ P fn.ntmps false c af.body&&tQ P fn.results.toList af.res
 |none=>false
section
variable[kQ]{P:Program}{N:Nat}{e:Env}{a:Go.Act}{w:World}{O:Store}{I I0:fU}{j j0:fJ}{own iK:gZ}{w0:World}{lb:fJ}{κ:Ctx}
def vL(I0:fU)(j0:fJ)(iK:gZ)(w0:World)(N:Nat)(Q:Exit->Go.Act->World->Prop):rO×Env×Store->Prop
 |(.normal,e,O)=>∀a w,St I0 j0 iK w0 N e O a w->Q .normal a w
 |(.exit id,e,O)=>∀a w,St I0 j0 iK w0 N e O a w->Q (.exit id) a w
 |(.ret,e,O)=>∀a w,St I0 j0 iK w0 N e O a w->Q .ret a w
 |(.panic d,e,O)=>∀a w chain,Jf I0 j0 iK w0 N d chain e O a w->Q (.panic chain) a w
 |(.goto l,e,O)=>∀a w,St I0 j0 iK w0 N e O a w->Q (.goto l) a w
theorem St.clear(h:St I0 j0 iK w0 N e O a w)(vR:List Nat):St I0 j0 iK w0 N (CR e vR) O a w:=by obtain⟨I,j,own,lb,h1,h2,h3⟩:=h;exact⟨I,j,own,lb,h1,h2.sub (fun s c h=>⟨c,BN _ _ _ _ h,rfl,fun h=>h⟩) (fun s p h=>BN _ _ _ _ h) (fun s cs h=>⟨cs,BN _ _ _ _ h,pL.refl cs⟩) rfl,h3⟩
theorem vL.noGoto{Q:Exit->Go.Act->World->Prop}{r:rO×Env×Store}(hn:∀l,r.1≠.goto l)(h:vL I0 j0 iK w0 N Q r):vL I0 j0 iK w0 N (Exit.noGoto Q) r:=by
 obtain⟨x,e1,O1⟩:=r;cases x with
 |goto l=>exact absurd rfl (hn l)
 |_=>exact h
def yt(l:Nat)(J:Go.Act->World->Prop)(Q:Exit->Go.Act->World->Prop):Exit->Go.Act->World->Prop
 |.goto l',a,w=>l'=l/\J a w
 |e,a,w=>Q e a w
def SH(F:Fence)(n:Nat)(P:Program)(l:Nat)(rest:Code)(Q:Exit->Go.Act->World->Prop):Nat->Go.Act->World->Prop
 |0,_,_=>False
 |m+1,a,w=>rest.wpIn F n P (yt l (SH F n P l rest Q m) Q) a w
theorem znt{F:Fence}{n:Nat}{Q:Exit->Go.Act->World->Prop}{c rest:Code}{l:Nat}(hf:findLabel c l=some rest)(m:Nat)(first:c.wpIn F n P (yt l (SH F n P l rest Q m) Q) a w):(Code.scope c).wpIn F n P Q a w:=by
 intro b k cs hro hb hr;have hg:gotoIn l (.inScope c::k)=some (.code rest::.inScope c::k):=by simp[gotoIn,hf]
 have h0:(lone (b.atR a (.code (.scope c)::k)) cs w).fenced P F:=fenced_calm hb hr rfl;have s1:step P (lone (b.atR a (.code (.scope c)::k)) cs w)=.next (lone (b.atR a (.code c::.inScope c::k)) cs w) :=
  step_lone_go (by simp[stepG,stepG.exec,Frame.atR])
 have s2:∀a₁ w₁,StepsIn (Machine.fenced P F) P (lone (b.atR a₁ (.inScope c::k)) cs w₁) (lone (b.atR a₁ k) cs w₁):=fun a₁ w₁ =>
  .one (fenced_calm (fr:=b.atR a₁ (.inScope c::k)) hb hr rfl) (step_lone_go (by simp[stepG,stepG.exec,Frame.atR]))
 have ways:∀{e:Exit}{a₁:Go.Act}{w₁:World}{mm:Machine},(∀l',e≠.goto l')->ArrivesIn (Machine.fenced P F) P mm b (.inScope c::k) cs e a₁ w₁->ArrivesIn (Machine.fenced P F) P mm b k cs e a₁ w₁:=by
  intro e a₁ w₁ mm hn harr;cases e with
  |normal=>exact StepsIn.trans harr (s2 a₁ w₁)
  |exit id=>exact⟨fun k' hk=>harr.1 k' (by simpa[exitTo]using hk),fun hr1 hk=>harr.2 hr1 (by simpa[exitTo]using hk)⟩
  |goto l'=>exact absurd rfl (hn l')
  |ret=>exact harr
  |panic ch=>exact harr
  |outgrown=>exact harr
 have key:∀(m:Nat)(a:Go.Act)(w:World),SH F n P l rest Q m a w->∃e a' w',Q e a' w'/\ArrivesIn (Machine.fenced P F) P (lone (b.atR a (.code rest::.inScope c::k)) cs w) b k cs e a' w':=by
  intro m;induction m with
  |zero=>intro a w h;exact h.elim
  |succ m ih =>
   intro a w h;obtain⟨e,a₁,w₁,hq,harr⟩:=h b (.inScope c::k) cs hro hb hr;cases e with
   |goto l' =>obtain⟨rfl,hJ⟩:=hq;obtain⟨e₂,a₂,w₂,yf,om⟩:=ih a₁ w₁ hJ;exact⟨e₂,a₂,w₂,yf,.of_steps (harr.1 _ hg) om⟩
   |normal=>exact⟨_,a₁,w₁,hq,ways (by simp) harr⟩
   |exit id=>exact⟨_,a₁,w₁,hq,ways (by simp) harr⟩
   |ret=>exact⟨_,a₁,w₁,hq,ways (by simp) harr⟩
   |panic ch=>exact⟨_,a₁,w₁,hq,ways (by simp) harr⟩
   |outgrown=>exact⟨_,a₁,w₁,hq,ways (by simp) harr⟩
 obtain⟨e,a₁,w₁,hq,harr⟩:=first b (.inScope c::k) cs hro hb hr
 cases e with
 |goto l' =>obtain⟨rfl,hJ⟩:=hq;obtain⟨e₂,a₂,w₂,yf,om⟩:=key m a₁ w₁ hJ;exact⟨e₂,a₂,w₂,yf,.of_steps (.head h0 s1 (harr.1 _ hg)) om⟩
 |normal=>exact⟨_,a₁,w₁,hq,.of_steps (.one h0 s1) (ways (by simp) harr)⟩
 |exit id=>exact⟨_,a₁,w₁,hq,.of_steps (.one h0 s1) (ways (by simp) harr)⟩
 |ret=>exact⟨_,a₁,w₁,hq,.of_steps (.one h0 s1) (ways (by simp) harr)⟩
 |panic ch=>exact⟨_,a₁,w₁,hq,.of_steps (.one h0 s1) (ways (by simp) harr)⟩
 |outgrown=>exact⟨_,a₁,w₁,hq,.of_steps (.one h0 s1) (ways (by simp) harr)⟩
theorem zmz{F:Fence}{n:Nat}{Q:Exit->Go.Act->World->Prop}{c:Code}(h:c.wpIn F n P (Exit.noGoto Q) a w):(Code.scope c).wpIn F n P Q a w:=by
 intro b k cs hro hb hr;have h0:(lone (b.atR a (.code (.scope c)::k)) cs w).fenced P F:=fenced_calm hb hr rfl;have s1:step P (lone (b.atR a (.code (.scope c)::k)) cs w)=.next (lone (b.atR a (.code c::.inScope c::k)) cs w) :=
  step_lone_go (by simp[stepG,stepG.exec,Frame.atR])
 obtain⟨e,a₁,w₁,hq,harr⟩:=h b (.inScope c::k) cs hro hb hr;have s2:step P (lone (b.atR a₁ (.inScope c::k)) cs w₁)=.next (lone (b.atR a₁ k) cs w₁) :=
  step_lone_go (by simp[stepG,stepG.exec,Frame.atR])
 cases e with
 |normal=>exact⟨.normal,a₁,w₁,hq,.head h0 s1 (StepsIn.trans harr (.one (fenced_calm (fr:=b.atR a₁ (.inScope c::k)) hb hr rfl) s2))⟩
 |exit id =>refine⟨.exit id,a₁,w₁,hq,fun k' hk=>.head h0 s1 (harr.1 k' (by simpa[exitTo]using hk)),fun hr1 hk=>?_⟩;obtain⟨k₁,h1,h2⟩:=harr.2 hr1 (by simpa[exitTo]using hk);exact⟨k₁,h1,.head h0 s1 h2⟩
 |goto l=>exact hq.elim
 |ret=>exact⟨_,a₁,w₁,hq,.of_steps (.one h0 s1) harr⟩
 |panic ch=>exact⟨_,a₁,w₁,hq,.of_steps (.one h0 s1) harr⟩
 |outgrown=>exact⟨_,a₁,w₁,hq,.of_steps (.one h0 s1) harr⟩
theorem zaf{l:List Oper}(h:l.all NU=true):∀o∈l,∀c,o.op≠.defer c:=by intro o ho c hc;have:=bM.1 h o ho;unfold NU at this;rw[hc]at this;cases this
theorem wW[K:Ql P ‹kQ›]{C:eV}(hC:rM P κ C)(hB:Base κ iK w0)(n:Nat){ro rr:Option Nat}{rd:Bool}(hro:Yi j0 ro rr)(hrd:rr=none\/rd=true):∀(c':eR)(c:Code),mQ P N rd c c'=true->∀{e O a w r Q},exec C n ro c' e O=some r->St I0 j0 iK w0 N e O a w->vL I0 j0 iK w0 N Q r->c.wpIn (FW rr) 0 P Q a w
 |.skip,c,hk,e,O,a,w,r,Q,h,hSt,hQ=>by
  cases c<;>simp only[mQ,aE]at hk;simp only[exec,aA]at h;subst h;exact wpIn_skip (hQ a w hSt)
 |.ret,c,hk,e,O,a,w,r,Q,h,hSt,hQ=>by
  cases c<;>simp only[mQ,aE]at hk;simp only[exec,aA]at h;subst h;exact wpIn_ret (hQ a w hSt)
 |.exit id,c,hk,e,O,a,w,r,Q,h,hSt,hQ=>by
  cases c<;>simp only[mQ,aE,beq_iff_eq]at hk;subst hk;simp only[exec,aA]at h;subst h;exact wpIn_exit (hQ a w hSt)
 |.seq x' y',c,hk,e,O,a,w,r,Q,h,hSt,hQ=>by
  cases c<;>simp only[mQ,aE,aC]at hk;rename_i x y;simp only[exec]at h;cases hx:exec C n ro x' e O with
  |none=>rw[hx]at h;cases h
  |some r1 =>
   obtain⟨ex,e1,O1⟩:=r1;rw[hx]at h;refine wpIn_seq (wW hC hB n hro hrd x' x hk.1 hx hSt ?_);cases ex with
   |normal=>exact fun a1 w1 h1=>wW hC hB n hro hrd y' y hk.2 h h1 hQ
   |exit id=>simp only[aA]at h;subst h;exact hQ
   |ret=>simp only[aA]at h;subst h;exact hQ
   |panic d=>simp only[aA]at h;subst h;exact hQ
   |goto l=>simp only[aA]at h;subst h;exact hQ
 |.cond c0 t' f',c,hk,e,O,a,w,r,Q,h,hSt,hQ=>by
  cases c<;>simp only[mQ,aE,aC]at hk;rename_i x t f;simp only[exec]at h;obtain⟨cl,h1,h⟩:=dJ h;obtain⟨b,h2,h⟩:=dJ h;have hx:a.eval x=.bool b:=by
   obtain⟨I,j,own,lb,g1,g2,g3⟩:=hSt;have hr:=gW g2 hk.1.1 h1;cases hd:cl.d<;>rw[hd]at h2 hr<;>simp only[D.bool?,reduceCtorEq,aA]at h2;subst h2;simpa only[dL]using hr
  refine wpIn_cond hx ?_;cases b with
  |true=>exact wW hC hB n hro hrd t' t hk.1.2 h hSt hQ
  |false=>exact wW hC hB n hro hrd f' f hk.2 h hSt hQ
 |.block id b',c,hk,e,O,a,w,r,Q,h,hSt,hQ=>by
  cases c<;>simp only[mQ,aE,aC,beq_iff_eq]at hk;rename_i Zb b;obtain⟨rfl,hk⟩:=hk;simp only[exec]at h;cases hx:exec C n ro b' e O with
  |none=>rw[hx]at h;cases h
  |some r1 =>
   obtain⟨ex,e1,O1⟩:=r1;rw[hx]at h;refine wpIn_block (wW hC hB n hro hrd b' b hk hx hSt ?_);cases ex with
   |normal=>simp only[aA]at h;subst h;exact hQ
   |exit id' =>
    simp only at h;by_cases hid:id'=Zb
    ·subst hid;simp only[bW,dQ,aA]at h;subst h;intro a1 w1 h1;simp only[Exit.inBlock,if_true];exact hQ a1 w1 h1
    ·have:(id'==Zb)=false:=by simpa using hid
     simp only[this,dX,aA]at h;subst h;intro a1 w1 h1;simp only[Exit.inBlock,if_neg hid];exact hQ a1 w1 h1
   |ret=>simp only[aA]at h;subst h;exact hQ
   |panic d=>simp only[aA]at h;subst h;exact hQ
   |goto l=>simp only[aA]at h;subst h;exact hQ
 |.Dw ts b',c,hk,e,O,a,w,r,Q,h,hSt,hQ=>by
  have hk':mQ P N rd c b'=true:=by cases c<;>simpa only[mQ]using hk
  simp only[exec]at h;obtain⟨⟨e1,O1⟩,h1,h⟩:=dJ h;obtain⟨I,j,own,lb,g1,g2,g3⟩:=hSt;obtain⟨I1,j1,jQ,k1,k2,k3⟩:=zy h1 g1 g2;exact wW hC hB n hro hrd b' c hk' h ⟨I1,j1,jQ,lb,k1,k2,g3.trans k3⟩ hQ
 |.stuck,c,hk,e,O,a,w,r,Q,h,hSt,hQ=>by
  simp only[exec,reduceCtorEq]at h
 |.scope b',c,hk,e,O,a,w,r,Q,h,hSt,hQ=>by
  cases c<;>simp only[mQ,aE]at hk;simp only[exec]at h;cases hx:exec C n ro b' e O with
  |none=>rw[hx]at h;cases h
  |some r1 =>
   obtain⟨ex,e1,O1⟩:=r1;rw[hx]at h;refine zmz (wW hC hB n hro hrd b' _ hk hx hSt ?_);cases ex with
   |goto l=>simp only[reduceCtorEq]at h
   |_=>simp only[aA]at h;subst h;exact hQ.noGoto (by simp)
 |.label l,c,hk,e,O,a,w,r,Q,h,hSt,hQ=>by
  cases c<;>simp only[mQ,aE]at hk;simp only[exec,aA]at h;subst h;exact wpIn_label (hQ a w hSt)
 |.goto l,c,hk,e,O,a,w,r,Q,h,hSt,hQ=>by
  cases c<;>simp only[mQ,aE,beq_iff_eq]at hk;subst hk;simp only[exec,aA]at h;subst h;exact wpIn_goto (hQ a w hSt)
 |.ll l b' r',c,hk,e,O,a,w,r,Q,h,hSt,hQ=>by
  cases c<;>simp only[mQ,aE,aC]at hk;rename_i b;obtain⟨hk1,hk2⟩:=hk;split at hk2
  ·rename_i rest hf;simp only[exec]at h;have key:∀(m:Nat){e1:Env}{O1:Store}{ex:rO},Lc l (exec C n ro r') m (some (ex,e1,O1))=some r->vL I0 j0 iK w0 N (yt l (SH (FW rr) 0 P l rest Q m) Q) (ex,e1,O1):=by
    intro m;induction m with
    |zero =>
     intro e1 O1 ex h;cases ex with
     |goto l'=>simp only[Lc,reduceCtorEq]at h
     |_=>simp only[Lc,aA]at h;subst h;exact hQ
    |succ m ih =>
     intro e1 O1 ex h;cases ex with
     |goto l' =>
      simp only[Lc]at h;obtain⟨h1,h⟩:=gQ h;refine fun a1 w1 hs=>⟨by simpa using h1,?_⟩;cases hx:exec C n ro r' e1 O1 with
      |none=>rw[hx]at h;cases m<;>simp only[Lc,reduceCtorEq]at h
      |some r1 =>obtain⟨ex2,e2,O2⟩:=r1;rw[hx]at h;exact wW hC hB n hro hrd r' rest hk2 hx hs (ih h)
     |_=>simp only[Lc,aA]at h;subst h;exact hQ
   cases hx:exec C n ro b' e O with
   |none=>rw[hx]at h;cases n<;>simp only[Lc,reduceCtorEq]at h
   |some r1 =>obtain⟨ex,e1,O1⟩:=r1;rw[hx]at h;exact znt hf n (wW hC hB n hro hrd b' b hk1 hx hSt (key n h))
  ·cases hk2
 |.loop b',c,hk,e,O,a,w,r,Q,h,hSt,hQ=>by
  cases c<;>simp only[mQ,aE]at hk;rename_i b;simp only[exec]at h;have key:∀(m:Nat){e O a w},jI (exec C n ro b') m e O=some r->St I0 j0 iK w0 N e O a w->Code.roundsIn (FW rr) 0 P b Q m a w:=by
   intro m;induction m with
   |zero=>intro e O a w h _;cases h
   |succ m ih =>
    intro e O a w h hSt;simp only[jI]at h;cases hx:exec C n ro b' e O with
    |none=>rw[hx]at h;cases h
    |some r1 =>
     obtain⟨ex,e1,O1⟩:=r1;rw[hx]at h;rw[roundsIn_succ];refine wW hC hB n hro hrd b' b hk hx hSt ?_;cases ex with
     |normal=>exact fun a1 w1 h1=>ih h h1
     |exit id=>simp only[aA]at h;subst h;exact hQ
     |ret=>simp only[aA]at h;subst h;exact hQ
     |panic d=>simp only[aA]at h;subst h;exact hQ
     |goto l=>simp only[aA]at h;subst h;exact hQ
  exact wpIn_loop_rounds n (key n h hSt)
 |.H5 g' ps' a' b',c,hk,e,O,a,w,r,Q,h,hSt,hQ=>by
  cases c<;>simp only[mQ,aE,aC,cE]at hk;rename_i g ps az bd;obtain⟨⟨⟨⟨hg,hps⟩,xz⟩,hka⟩,hkb⟩:=hk;simp only[exec]at h;obtain⟨c,h1,h⟩:=dJ h;obtain⟨⟨f,x,y⟩,h2,h⟩:=dJ h;obtain⟨⟨lid,e1,O1⟩,h3,h⟩:=dJ h;obtain⟨⟨out,O2⟩,h4,h⟩:=dJ h;simp only at h h4;obtain⟨I,j,own,lb,g1,g2,g3⟩:=hSt;obtain⟨hY,vf,vc,hv,r1,r2⟩:=zhp h2 (gW g2 hg h1);refine wpIn_rangeFunc fun fn _=>?_;rw[zdz];obtain⟨l,mark,w1,j1,jQ,k1,k2,k3,k4,k5⟩:=zrq (P:=P) g1 g2 (hro.mono g3.lay) (ps:=ps) (by rw[<-hps]) (fun p hp=>by simpa using bM.1 xz p hp) ((K.iff _ _ _).2 hka) ((K.iff _ _ _).2 hkb) h3 fn;obtain⟨hbody,hcall⟩:=(wY hY).1 (hC f _ O1 out O2 h4);have hE1:=g3.trans (k4.weaken (fun _ h=>h.elim));refine⟨l,mark,w1,{target:=.fn (.func f) ⟨vc⟩,args:=⟨vf⟩++#[.func (.yield l) #[] #[]]},w1,f,⟨vf++[.func (.yield l) ⟨[]⟩ ⟨[]⟩]++vc⟩,w1,k1,?_,fun f' _=>H9 rr f',?_,fun h=>YT rr h,zbr.2 ?_⟩
  ·have hc:∀v,a.eval (.const v)=v:=fun v=>rfl;simp[resolve,hv,Deferred.ofValue,Sem.run_bind,Sem.run_pure,Result.andThen_ok,hc]
  ·obtain⟨fn',c',q1,q2,q3⟩:=hbody;have harr:(⟨vf⟩:Array Value)++#[.func (.yield l) #[] #[]]++⟨vc⟩=⟨vf++[.func (.yield l) ⟨[]⟩ ⟨[]⟩]++vc⟩:=by
    apply Array.ext';simp
   simp only[invoke];rw[harr];exact MuLone.run_callFunc_enter q1 q2 q3 _ w1
  ·refine(hcall _ j1 (shared jQ) w1 _ (Vh jQ) (hB.kN hE1).shared k2.Pg (((k4.Nj r1).append (vb:=[.func (.yield l) ⟨[]⟩ ⟨[]⟩]) ?_).append (k4.Nj r2))).mono ?_
   ·simp only[dV,dL];exact⟨_,_,rfl,⟨l,k5,rfl⟩,rfl⟩
   ·rintro en w3 ⟨I2,j2,iL,q1,q2,q3,q4⟩;cases out with
    |panic d=>simp only at h;cases h
    |ret c2 =>
     cases en with
     |panicked chain=>exact q4.elim
     |outgrown=>exact q4.elim
     |returned v =>
      simp only at h;obtain⟨qG,s1,s2,s3,_⟩:=Jn k2 k3 q1 q2 q3 0 false c2.d v (fun h=>by cases h);unfold endLoop at h;obtain⟨r2',h5,h⟩:=dJ h;have hj2:j2 lid=some l:=s3.lay _ _ k5;obtain⟨L,t1,t2,t3,t4⟩:=WC s1 h5 hj2 (st:=.over) (s:=.exhausted) (p:=(match r2'.st with|.done (.exit i)=>some (.exit i)|.done .ret=>some .ret|_=>none)) trivial
      have hfin:∀(hb:L.state≠.busy),L.pending=(match r2'.st with|.done (.exit i)=>some (.exit i)|.done .ret=>some .ret|_=>none)->∃w4,(Instr.endLoop l).run P w3=.ok (match r2'.st with|.done (.exit i)=>some (.exit i)|.done .ret=>some .ret|_=>none) w4 /\
        St I0 j0 iK w0 N e1 {O2 with dP:=gI O2.dP lid} {a with defers:=mark++a.defers} w4:=by
       intro hb hp;have hrun:=run_endLoop (P:=P) t1 hb;rw[hp]at hrun;refine⟨_,hrun,I2,j2,qG,lb,?_,?_,(hE1.trans s3).trans (t4.weaken fun _ _=>trivial)⟩
       ·have t3':=t3.sub (O':={O2 with dP:=gI O2.dP lid}) (fun id cs h=>⟨cs,h,pL.refl cs⟩) (aM _) (fun id t h=>h) (fun id x h=>by
         simp only[mK]at h;by_cases hid:lid=id
         ·rw[if_pos hid]at h;cases h
         ·rw[if_neg hid]at h;simp only[Ed,jM,if_neg hid];exact h)
        rw[hp]at *
        exact t3'
       ·rw[hp]at *
        exact s2.sw t4
      cases hst:r2'.st with
      |busy=>rw[hst]at h;simp only at h;cases h
      |over=>rw[hst]at h;simp only at h;cases h
      |ready =>rw[hst]at h t2 hfin;simp only[aA]at h;subst h;obtain⟨w4,pW,e2'⟩:=hfin (by rw[t2.1];simp) t2.2;exact⟨none,w4,pW,hQ _ _ e2'⟩
      |done x =>
       rw[hst]at h t2 hfin;obtain⟨u1,c4,u2,u3⟩:=t2;cases x with
       |exit i =>simp only[aA]at h;subst h;obtain⟨w4,pW,e2'⟩:=hfin (by rw[u1];simp) (by rw[u2,u3]);exact⟨_,w4,pW,wpIn_exit (hQ _ _ e2')⟩
       |ret =>simp only[aA]at h;subst h;obtain⟨w4,pW,e2'⟩:=hfin (by rw[u1];simp) (by rw[u2,u3]);exact⟨_,w4,pW,wpIn_ret (hQ _ _ e2')⟩
 |.region l perm vR,c,hk,e,O,a,w,r,Q,h,hSt,hQ=>by
  simp only[exec]at h;cases ho:mR C l e O with
  |none=>rw[ho]at h;cases h
  |some out =>
   rw[ho]at h;have hpost:perm=none->zfr I0 j0 iK w0 N Q out:=by
    rintro rfl;cases out with
    |normal e1 O1 =>simp only[aA]at h;subst h;exact fun a1 w1 h1=>hQ a1 w1 (h1.clear vR)
    |panic d e1 O1 =>simp only[aA]at h;subst h;exact hQ
   have zinb:∀p,perm=some p->CK I0 j0 iK w0 N Q out:=by
    rintro p rfl;cases out with
    |normal e1 O1 =>simp only[aA]at h;subst h;exact fun a1 w1 h1=>hQ a1 w1 (h1.clear vR)
    |panic d e1 O1 =>simp only[aA]at h;subst h;exact hQ
   cases c with
   |region id ops d =>
    cases d with
    |false =>
     cases perm with
     |none =>
      simp only[mQ,aC,Bool.or_eq_true,Bool.not_eq_true']at hk;have hdf:rr=none\/∀o∈ops.toList,∀c,o.op≠.defer c:=by
       rcases hrd with h|h
       ·exact .inl h
       ·exact .inr (zaf (hk.1.resolve_left (by rw[h];simp)))
      exact wpIn_region_list (WJ hC hB hk.2.1 _ _ hk.2.2 hdf ho hSt (hpost rfl))
     |some p=>simp[mQ]at hk
    |true =>
     cases perm with
     |none=>simp[mQ]at hk
     |some p =>
      simp only[mQ,zg0,aC,beq_iff_eq]at hk;obtain⟨hk0,hk⟩:=hk;simp only[Bool.or_eq_true,Bool.not_eq_true']at hk0;have hdf:rr=none\/∀o∈ops.toList,∀c,o.op≠.defer c:=by
       rcases hrd with h|h
       ·exact .inl h
       ·exact .inr (zaf (hk0.resolve_left (by rw[h];simp)))
      obtain⟨hm,⟨⟨⟨⟨⟨⟨⟨k1,k2⟩,k3⟩,VQ⟩,k4⟩,k5⟩,k6⟩,k7⟩⟩:=hk;refine wpIn_region_any hm ?_;have ou:(p.zip l).map (·.1)=p:=by
       rw[show((p.zip l).map (·.1))=(p.zip l).map Prod.fst from rfl,List.map_fst_zip (by omega)]
      have hmap2:(p.zip l).map (·.2)=l:=(by rw[show((p.zip l).map (·.2))=(p.zip l).map Prod.snd from rfl,List.map_snd_zip (by omega)]);have hlen:(p.zip l).length=ops.size:=by rw[List.length_zip];omega
      have hall:∀k,k<ops.size->k∈p:=fun k hk=>by
       simpa using bM.1 VQ k (List.mem_range.2 hk)
      have:=zty hC hB hdf k4 k5 (p.zip l) (Array.replicate ops.size false) (Q:=Q) k6 k7 (by rw[ou];exact za5 k3) (by simp) (fun k hk=>by
       rw[ou];refine⟨fun _=>hall k hk,fun _=>?_⟩;simp[hk]) (fun k hk hn=>absurd (by rw[ou];exact hall k hk) hn) (by rw[hmap2];exact ho) hSt.draw (zinb p rfl)
      rw[hlen]at this;exact this
   |_=>simp[mQ]at hk
end
end Go.Mx
