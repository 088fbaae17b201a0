/- A part of the proof. -/
import Derived.Test.YtldfbnbckiifeaaGreatDoorMyCore
import Derived.WalkKit
set_option linter.all false
namespace Go.Mx
open Go
abbrev fU:=Nat->Nat->Option Value
def At(I:fU)(b o:Nat)(v:Value):Prop:=∀i x,v.cells[i]?=some x->I b (o+i)=some x
mutual
def dL(I:fU)(j:Nat->Option Nat):D->Value->Prop
 |.undef,v=>v=Go.undef
 |.bool b,v=>v=.bool b
 |.int k n,v=>v=.int k n
 |.str s,v=>v=.string ⟨⟨s⟩⟩
 |.dN,v=>v=.slice none 0 0
 |.list sz es,v=>∃a cap,v=.slice a es.length cap/\es.length<=cap/\cap<=maxLen/\(es=[]\/∃b o,a=some ⟨b,o,none⟩/\jS I j sz.sz es b o)
 |.agg cs,v=>∃vs,v=.agg ⟨vs⟩/\dV I j cs vs/\∀x∈vs,x.oneCell'=true
 |.fN ds,v=>∃vs,v=.tuple ⟨vs⟩/\dV I j ds vs
 |.rR,v=>v=.pointer none
 |.ptr id off,v=>∃b,j id=some b/\v=.pointer (some ⟨b,off,none⟩)
 |.gC d,v=>∃b o x,v=.pointer (some ⟨b,o,none⟩)/\At I b o x/\dL I j d x
 |.fn f first nS,v=>∃vf vc,v=.func f ⟨vf⟩ ⟨vc⟩/\dV I j first vf/\dV I j nS vc
 |.tP,v=>v=.nilFunc
 |.iface t d,v=>∃x,v=.iface t x/\dL I j d x
 |.rY,v=>v=.nilIface
 |.Md,_=>True
 |.arr k id off len,v=>∃b c a,j id=some b/\j (id+1)=some c/\(off+len<=c/\c<=maxLen)/\v=.slice (some a) len (c-off)/\(off=c\/a=⟨b,off*k.sz,none⟩)
 |.mV,v=>∃a,v=.slice a 0 0
 |.map id,v=>∃b,j id=some b/\v=.map (some b)
 |.lH,v=>v=.map none
 |.sT id,v=>∃b,j id=some b/\v=.func (.yield b) ⟨[]⟩ ⟨[]⟩
def dV(I:fU)(j:Nat->Option Nat):List D->List Value->Prop
 |[],vs=>vs=[]
 |d::ds,vs=>∃x r,vs=x::r/\dL I j d x/\dV I j ds r
def jS(I:fU)(j:Nat->Option Nat)(sz:Nat):List D->Nat->Nat->Prop
 |[],_,_=>True
 |d::ds,b,o=>(∃x,At I b o x/\x.cells.size=sz/\dL I j d x)/\jS I j sz ds b (o+sz)
end
section mono
variable{I I':fU}{j j':Nat->Option Nat}
theorem At.mono(hI:∀b o v,I b o=some v->I' b o=some v){b o:Nat}{v:Value}(h:At I b o v):At I' b o v:=fun i x hx=>hI _ _ _ (h i x hx)
mutual
theorem dL.mono(hI:∀b o v,I b o=some v->I' b o=some v)(hj:∀i b,j i=some b->j' i=some b):∀(d:D)(v:Value),dL I j d v->dL I' j' d v
 |.undef,_,h|.bool _,_,h|.int _ _,_,h|.str _,_,h|.dN,_,h|.rR,_,h|.tP,_,h|.rY,_,h=>by simpa only[dL]using h
 |.Md,_,_=>by simp only[dL]
 |.list sz es,v,h=>by
  simp only[dL]at h ⊢;obtain⟨a,cap,h1,h2,h3,h4⟩:=h;refine⟨a,cap,h1,h2,h3,?_⟩;rcases h4 with h4|⟨b,o,ha,hr⟩
  ·exact .inl h4
  ·exact .inr ⟨b,o,ha,jS.mono hI hj sz.sz es b o hr⟩
 |.agg cs,v,h=>by
  simp only[dL]at h ⊢;obtain⟨vs,h1,h2,h3⟩:=h;exact⟨vs,h1,dV.mono hI hj cs vs h2,h3⟩
 |.fN ds,v,h=>by
  simp only[dL]at h ⊢;obtain⟨vs,h1,h2⟩:=h;exact⟨vs,h1,dV.mono hI hj ds vs h2⟩
 |.ptr id off,v,h=>by
  simp only[dL]at h ⊢;obtain⟨b,h1,h2⟩:=h;exact⟨b,hj _ _ h1,h2⟩
 |.gC d,v,h=>by
  simp only[dL]at h ⊢;obtain⟨b,o,x,h1,h2,h3⟩:=h;exact⟨b,o,x,h1,h2.mono hI,dL.mono hI hj d x h3⟩
 |.fn f first nS,v,h=>by
  simp only[dL]at h ⊢;obtain⟨vf,vc,h1,h2,h3⟩:=h;exact⟨vf,vc,h1,dV.mono hI hj first vf h2,dV.mono hI hj nS vc h3⟩
 |.iface t d,v,h=>by
  simp only[dL]at h ⊢;obtain⟨x,h1,h2⟩:=h;exact⟨x,h1,dL.mono hI hj d x h2⟩
 |.arr k id off len,v,h=>by
  simp only[dL]at h ⊢;obtain⟨b,c,a,h1,h2,h3⟩:=h;exact⟨b,c,a,hj _ _ h1,hj _ _ h2,h3⟩
 |.mV,v,h=>by simpa only[dL]using h
 |.lH,v,h=>by simpa only[dL]using h
 |.map id,v,h=>by
  simp only[dL]at h ⊢;obtain⟨b,h1,h2⟩:=h;exact⟨b,hj _ _ h1,h2⟩
 |.sT id,v,h=>by
  simp only[dL]at h ⊢;obtain⟨b,h1,h2⟩:=h;exact⟨b,hj _ _ h1,h2⟩
theorem dV.mono(hI:∀b o v,I b o=some v->I' b o=some v)(hj:∀i b,j i=some b->j' i=some b):∀(ds:List D)(vs:List Value),dV I j ds vs->dV I' j' ds vs
 |[],_,h=>by simpa only[dV]using h
 |d::ds,vs,h=>by
  simp only[dV]at h ⊢;obtain⟨x,r,h1,h2,h3⟩:=h;exact⟨x,r,h1,dL.mono hI hj d x h2,dV.mono hI hj ds r h3⟩
theorem jS.mono(hI:∀b o v,I b o=some v->I' b o=some v)(hj:∀i b,j i=some b->j' i=some b)(sz:Nat):∀(ds:List D)(b o:Nat),jS I j sz ds b o->jS I' j' sz ds b o
 |[],_,_,_=>by simp only[jS]
 |d::ds,b,o,h=>by
  simp only[jS]at h ⊢;obtain⟨⟨x,h1,h2,h3⟩,h4⟩:=h;exact⟨⟨x,h1.mono hI,h2,dL.mono hI hj d x h3⟩,jS.mono hI hj sz ds b (o+sz) h4⟩
end
end mono
/-! ### Small facts -/
theorem Qe{α:Type}:∀(l:List α)(i:Nat),pX l i=l[i]?
 |[],_=>by simp[pX]
 |_::_,0=>by simp[pX]
 |_::l,n+1=>by simp[pX,Qe l n]
theorem sU{α:Type}(s:Nat):dC ([]:List (Nat×α)) s=none:=rfl
theorem nH{α:Type}(k:Nat)(v:α)(r:List (Nat×α))(s:Nat):dC ((k,v)::r) s=if k=s then some v else dC r s:=by
 by_cases h:k=s
 ·subst h;simp[dC,dK]
 ·have:(k==s)=false:=by simpa using h
  simp[dC,dK,this,h]
theorem jM{α:Type}:∀(l:List (Nat×α))(s t:Nat)(x:α),dC (fF l s x) t=if s=t then some x else dC l t
 |[],s,t,x=>by simp[fF,nH,sU]
 |(k,v)::r,s,t,x=>by
  by_cases h:k=s
  ·subst h;have:(k==k)=true:=by simp
   simp only[fF,this,dQ,nH];split<;>rfl
  ·have:(k==s)=false:=by simpa using h
   simp only[fF,this,dX];cases hb:Nat.ble s k with
   |true=>rw[dQ,nH]
   |false =>
    rw[dX,nH,nH,jM r s t x];by_cases h1:k=t
    ·subst h1;simp only[if_true];rw[if_neg (fun e=>h e.symm)]
    ·simp only[h1,if_false]
theorem mK{α:Type}:∀(l:List (Nat×α))(s t:Nat),dC (gI l s) t=if s=t then none else dC l t
 |[],s,t=>by simp[gI,sU]
 |(k,v)::r,s,t=>by
  by_cases h:k=s
  ·subst h;have:(k==k)=true:=by simp
   simp only[gI,this,dQ,nH,mK r k t];split<;>rfl
  ·have:(k==s)=false:=by simpa using h
   simp only[gI,this,dX,nH,mK r s t];by_cases h1:k=t
   ·subst h1;simp only[if_true];rw[if_neg (fun e=>h e.symm)]
   ·simp only[h1,if_false]
theorem BN{α:Type}:∀(l:List (Nat×α))(c:List Nat)(t:Nat)(x:α),dC (Dc l c) t=some x->dC l t=some x
 |[],_,_,_,h=>by simp[Dc,sU]at h
 |(k,v)::r,c,t,x,h=>by
  simp only[Dc]at h;cases hm:Zc c k with
  |true =>
   rw[hm,dQ]at h;have h':=BN r c t x h;rw[nH];by_cases hk:k=t
   ·subst hk;exfalso;have key:∀(l:List (Nat×α)),dC (Dc l c) k=none:=by
     intro l;induction l with
     |nil=>rfl
     |cons p l ih =>
      obtain⟨q,u⟩:=p;simp only[Dc];cases hq:Zc c q with
      |true=>rw[dQ];exact ih
      |false =>
       rw[dX,nH];by_cases hqk:q=k
       ·subst hqk;rw[hm]at hq;cases hq
       ·rw[if_neg hqk];exact ih
    rw[key r]at h;cases h
   ·rw[if_neg hk];exact h'
  |false =>
   rw[hm,dX,nH]at h;rw[nH];by_cases hk:k=t
   ·rw[if_pos hk]at h ⊢;exact h
   ·rw[if_neg hk]at h ⊢;exact BN r c t x h
theorem LH:∀(l:List (Nat×(Nat×Nat)))(s t b o:Nat),dC (xR l s) t=some (b,o)->b≠s/\dC l t=some (b,o)
 |[],_,_,_,_,h=>by simp[xR,sU]at h
 |(k,(b',o'))::r,s,t,b,o,h=>by
  simp only[xR]at h;by_cases hb:b'=s
  ·have:(b'==s)=true:=by simpa using hb
   rw[this,dQ,mK]at h;by_cases hk:k=t
   ·rw[if_pos hk]at h;cases h
   ·rw[if_neg hk]at h;rw[nH,if_neg hk];exact LH r s t b o h
  ·have:(b'==s)=false:=by simpa using hb
   rw[this,dX,nH]at h;rw[nH];by_cases hk:k=t
   ·rw[if_pos hk]at h ⊢;cases h;exact⟨hb,rfl⟩
   ·rw[if_neg hk]at h ⊢;exact LH r s t b o h
theorem zq:∀(l:List (Nat×(Nat×Nat)))(s t b o:Nat),dC l t=some (b,o)->b≠s->dC (xR l s) t=some (b,o)
 |[],_,_,_,_,h,_=>by simp[sU]at h
 |(k,(b',o'))::r,s,t,b,o,h,hb=>by
  rw[nH]at h;simp only[xR];by_cases hk:k=t
  ·rw[if_pos hk]at h;simp only[aA,Prod.mk.injEq]at h;have:(b'==s)=false:=by rw[h.1];simpa using hb
   rw[this,dX,nH,if_pos hk,h.1,h.2]
  ·rw[if_neg hk]at h;have ih:=zq r s t b o h hb;cases hbs:b'==s with
   |true=>rw[dQ,mK,if_neg hk];exact ih
   |false=>rw[dX,nH,if_neg hk];exact ih
theorem dJ{α β:Type}{x:Option α}{f:α->Option β}{y:β}(h:dH x f=some y):∃a,x=some a/\f a=some y:=by
 cases x with
 |none=>cases h
 |some a=>exact⟨a,rfl,h⟩
theorem gQ{β:Type}{b:Bool}{x:Option β}{y:β}(h:dK b x none=some y):b=true/\x=some y:=by
 cases b with
 |true=>exact⟨rfl,h⟩
 |false=>cases h
theorem gQ'{β:Type}{b:Bool}{x:Option β}{y:β}(h:dK b none x=some y):b=false/\x=some y:=by
 cases b with
 |true=>cases h
 |false=>exact⟨rfl,h⟩
inductive Tag where
 |slot (s:Nat)
 |box (s:Nat)
 |cell (s c:Nat)
 |obj (id:Nat)
 |uV (id c:Nat)
def Tag.Qp:Tag->Bool
 |.box _=>true
 |.obj _=>true
 |_=>false
def Tag.isLocal:Tag->Bool
 |.obj _=>false
 |.uV _ _=>false
 |_=>true
abbrev gZ:=Nat->Option Tag
abbrev fJ:=Nat->Option Nat
def u6:List D->List Value->Option (RowK×List D×Value)
 |.list k es::_,v::_=>some (k,es,v)
 |_::ds,_::vs=>u6 ds vs
 |_,_=>none
def yJ:D->Value->Option (RowK×List D×Value)
 |.list k es,v=>some (k,es,v)
 |.agg cs,.agg vs=>u6 cs vs.toList
 |_,_=>none
def Ko(I:fU)(own:gZ)(w:World)(t:Tag)(sz:RowK)(es:List D)(v:Value):Prop :=
 (∃a,v=.slice a es.length es.length/\(sz.el=5->es=[]))\/∃b cap cur T,v=.slice (some ⟨b,0,none⟩) es.length cap/\own b=some t/\w.heap[b]?=some (.cells cur T (0,0))/\(T=sz.el/\cur.size=cap*sz.sz)/\∀o,es.length*sz.sz<=o->I b o=none
def mD(I:fU)(own:gZ)(w:World)(t:Tag)(d:D)(v:Value):Prop:=match yJ d v with
 |some p=>Ko I own w t p.1 p.2.1 p.2.2
 |none=>True
theorem p9{I:fU}{own:gZ}{w:World}{t:Tag}{sz:RowK}{es:List D}{v:Value}:mD I own w t (.list sz es) v↔Ko I own w t sz es v:=Iff.rfl
def uG(I:fU)(j:fJ)(own:gZ)(w:World)(t:Tag)(c:Cell)(v:Value):Prop:=dL I j c.d v/\(c.own=true->mD I own w t c.d v)
def sJ(I:fU)(j:fJ)(own:gZ)(w:World)(b:Nat)(mk:Nat->Tag)(cs:List Cell):Prop :=
 ∃vs T,w.heap[b]?=some (.cells ⟨vs⟩ T (0,0))/\cs.length<=vs.length/\∀i c,cs[i]?=some c->∃v,vs[i]?=some v/\v.oneCell'=true/\uG I j own w (mk i) c v
def PS(j:fJ)(w:World)(id b:Nat)(ty:Ty):Prop:=∃row,w.heap[b]?=some (.cells row ty.t (0,0))/\(0<ty.sz->∃c,j (id+1)=some c/\row.size=c*ty.sz/\c<=maxLen)
def jR(I:fU)(j:fJ):List (D×D×Nat)->List MapEntry->Prop
 |[],l=>l=[]
 |(k,v,b)::r,l=>∃e l',l=e::l'/\dL I j k e.key/\dL I j v e.val/\e.born=b/\jR I j r l'
class kQ where
 ok:Nat->Code->eR->Prop
def zfeb:zij->Code->Prop
 |.exit i,c=>c=.exit i
 |.ret,c=>c=.ret
def UC:Dq->LoopState->Option Code->Prop
 |.ready,s,p=>s=.ready/\p=none
 |.busy,s,p=>s=.busy/\p=none
 |.done x,s,p=>s=.done/\∃c,p=some c/\zfeb x c
 |.over,_,_=>True
section
variable[kQ]
def yZ(I:fU)(j:fJ)(w:World)(b:Nat):rJ->Prop
 |.it s pos=>w.heap[b]?=some (.stringIter ⟨⟨s⟩⟩ pos)
 |.map es clock=>∃l,w.heap[b]?=some (.map ⟨l⟩ clock)/\jR I j es l
 |.loop r=>∃L:Loop,w.heap[b]?=some (.loop L)/\L.params=⟨r.params⟩/\(∀p∈r.params,p<L.tmps.size)/\(∀s c,dC r.slots s=some c->c.own=false/\dL I j c.d (L.tmps.getD s Go.undef))/\kQ.ok L.tmps.size L.assign r.assign/\kQ.ok L.tmps.size L.body r.body/\UC r.st L.state L.pending
 |.yP=>w.heap[b]?=some (.deferred (some []))
theorem PS.keep{j j':fJ}{w w':World}{id b:Nat}{ty:Ty}(h:PS j w id b ty)(hw:w'.heap[b]?=w.heap[b]?)(hj:∀i b,j i=some b->j' i=some b):PS j' w' id b ty:=by obtain⟨row,h1,h2⟩:=h;refine⟨row,hw.trans h1,fun h=>?_⟩;obtain⟨c,k1,k2⟩:=h2 h;exact⟨c,hj _ _ k1,k2⟩
theorem jR.mono{I I':fU}{j j':fJ}(hI:∀b o v,I b o=some v->I' b o=some v)(hj:∀i b,j i=some b->j' i=some b):∀(es:List (D×D×Nat))(l:List MapEntry),jR I j es l->jR I' j' es l
 |[],_,h=>h
 |(k,v,b)::r,l,h=>by
  simp only[jR]at h ⊢;obtain⟨e,l',h1,h2,h3,h4,h6⟩:=h;exact⟨e,l',h1,dL.mono hI hj _ _ h2,dL.mono hI hj _ _ h3,h4,jR.mono hI hj r l' h6⟩
theorem yZ.keep{I I':fU}{j j':fJ}{w w':World}{b:Nat}{x:rJ}(h:yZ I j w b x)(hw:w'.heap[b]?=w.heap[b]?)(hI:∀b o v,I b o=some v->I' b o=some v)(hj:∀i b,j i=some b->j' i=some b):yZ I' j' w' b x:=by
 cases x with
 |it s pos=>exact hw.trans h
 |map es clock =>obtain⟨l,h1,h2⟩:=h;exact⟨l,hw.trans h1,h2.mono hI hj⟩
 |loop r =>obtain⟨L,h1,h2,xc,h3,h4⟩:=h;exact⟨L,hw.trans h1,h2,xc,fun s c hs=>⟨(h3 s c hs).1,(h3 s c hs).2.mono hI hj⟩,h4⟩
 |yP=>exact hw.trans h
theorem yZ.lt{I:fU}{j:fJ}{w:World}{b:Nat}{x:rJ}(h:yZ I j w b x):b<w.heap.size:=by
 cases x with
 |it s pos=>exact(Array.getElem?_eq_some_iff.1 h).1
 |map es clock =>obtain⟨l,h1,_⟩:=h;exact(Array.getElem?_eq_some_iff.1 h1).1
 |loop r =>obtain⟨l,h1,_⟩:=h;exact(Array.getElem?_eq_some_iff.1 h1).1
 |yP=>exact(Array.getElem?_eq_some_iff.1 h).1
theorem yZ.Jt{I:fU}{j:fJ}{w:World}{b:Nat}{x:rJ}(h:yZ I j w b x){row:Array Value}{T:TypeId}{fr:Nat×Nat}(hc:w.heap[b]?=some (.cells row T fr)):False:=by
 cases x with
 |it s pos =>have h':w.heap[b]?=_:=h;rw[hc]at h';cases h'
 |map es clock =>obtain⟨l,h1,_⟩:=h;rw[hc]at h1;cases h1
 |loop r =>obtain⟨l,h1,_⟩:=h;rw[hc]at h1;cases h1
 |yP =>have h':w.heap[b]?=_:=h;rw[hc]at h';cases h'
structure eH(I:fU)(j:fJ)(own:gZ)(O:Store)(w:World):Prop where
 holds:∀b o v,I b o=some v->w.cell? ⟨b,o,none⟩=some v
 kS:∀b t,own b=some t->t.Qp=true->∀o,I b o=none
 dE:∀id cs,dC O.dE id=some cs->∃b,j id=some b/\own b=some (.obj id)/\sJ I j own w b (.uV id) cs
 fH:∀id ty cs,dC O.fH id=some ty->dC O.dE id=some cs->∀b,j id=some b->PS j w id b ty
 dP:∀id x,dC O.dP id=some x->∃b,j id=some b/\own b=some (.obj id)/\yZ I j w b x
 mG:∀id b,j id=some b->id<O.next
 jU:∀b t,own b=some t->b<w.heap.size
end
def Bo(I:fU)(j:fJ):List (FuncId×List D)->List Deferred->Prop
 |[],l=>l=[]
 |(f,ds)::r,l=>∃x l',l=x::l'/\Bo I j r l'/\(if jK f=true then∃b,j (f-oV)=some b/\x={target:=.collected b,args:=#[]}else∃cap args,x={target:=.fn (.func f) cap,args:=args}/\dV I j ds (args++cap).toList)
structure eI(I:fU)(j:fJ)(own:gZ)(lb:fJ)(N:Nat)(e:Env)(a:Go.Act)(w:World):Prop where
 size:a.tmps.size=N
 slots:∀s c,dC e.slots s=some c->uG I j own w (.slot s) c (a.tmps.getD s Go.undef)
 dR:∀s b o,dC e.dR s=some (b,o)->∃B,lb b=some B/\a.tmps.getD s Go.undef=.pointer (some ⟨B,o,none⟩)
 boxes:∀s cs,dC e.boxes s=some cs->∃B,lb s=some B/\own B=some (.box s)/\sJ I j own w B (.cell s) cs
 defers:Bo I j e.defers a.defers
structure fD(I:fU)(j:fJ)(own:gZ)(w:World)(I':fU)(j':fJ)(own':gZ)(w':World)(TT:Tag->Prop):Prop where
 os:w'.os=w.os
 tape:w'.tape=w.tape
 output:w'.output=w.output
 size:w.heap.size<=w'.heap.size
 qY:∀b o v,I b o=some v->I' b o=some v
 lay:∀i b,j i=some b->j' i=some b
 block:∀b,b<w.heap.size->(∀t,own b=some t->¬TT t)->w'.heap[b]?=w.heap[b]?/\own' b=own b/\∀o,I' b o=I b o
theorem fD.refl(I:fU)(j:fJ)(own:gZ)(w:World)(TT:Tag->Prop):fD I j own w I j own w TT :=
 ⟨rfl,rfl,rfl,aM _,fun _ _ _ h=>h,fun _ _ h=>h,fun _ _ _=>⟨rfl,rfl,fun _=>rfl⟩⟩
theorem fD.trans{I I' I'':fU}{j j' vS:fJ}{own own' wC:gZ}{w w' w'':World}{TT:Tag->Prop}
  (h:fD I j own w I' j' own' w' TT) (k:fD I' j' own' w' I'' vS wC w'' TT):fD I j own w I'' vS wC w'' TT where
 os:=k.os.trans h.os
 tape:=k.tape.trans h.tape
 output:=k.output.trans h.output
 size:=Nat.le_trans h.size k.size
 qY:=fun b o v x=>k.qY _ _ _ (h.qY _ _ _ x)
 lay:=fun i b x=>k.lay _ _ (h.lay _ _ x)
 block:=fun b hb ht=>by
  obtain⟨h1,h2,h3⟩:=h.block b hb ht;obtain⟨k1,k2,k3⟩:=k.block b (aP hb h.size) (fun t x=>ht t (h2▸x));exact⟨k1.trans h1,k2.trans h2,fun o=>(k3 o).trans (h3 o)⟩
theorem fD.weaken{I I':fU}{j j':fJ}{own own':gZ}{w w':World}{TT TT':Tag->Prop}
  (h:fD I j own w I' j' own' w' TT) (hT:∀t,TT t->TT' t):fD I j own w I' j' own' w' TT' :=
 ⟨h.os,h.tape,h.output,h.size,h.qY,h.lay,fun b hb ht=>h.block b hb fun t x y=>ht t x (hT t y)⟩
section keeps
variable{I I':fU}{j j':fJ}{own own':gZ}{w w':World}{TT:Tag->Prop}
theorem fD.rep(h:fD I j own w I' j' own' w' TT){d:D}{v:Value}(k:dL I j d v):dL I' j' d v:=dL.mono h.qY h.lay d v k
theorem fD.Nj(h:fD I j own w I' j' own' w' TT){ds:List D}{vs:List Value}(k:dV I j ds vs):dV I' j' ds vs:=dV.mono h.qY h.lay ds vs k
theorem fD.owned(h:fD I j own w I' j' own' w' TT){t:Tag}(ht:¬TT t){d:D}{v:Value}(k:mD I own w t d v):mD I' own' w' t d v:=by
 unfold mD at k ⊢;cases hp:yJ d v with
 |none=>trivial
 |some p =>
  rw[hp]at k;rcases k with k|⟨b,cap,cur,T,h1,h2,h3,h4,h5⟩
  ·exact .inl k
  ·have hb:b<w.heap.size:=(Array.getElem?_eq_some_iff.1 h3).1;obtain⟨k1,k2,k3⟩:=h.block b hb (fun t' x=>by rw[h2]at x;cases x;exact ht);exact .inr ⟨b,cap,cur,T,h1,k2.trans h2,k1.trans h3,h4,fun o ho=>(k3 o).trans (h5 o ho)⟩
theorem fD.OJ(h:fD I j own w I' j' own' w' TT){t:Tag}{c:Cell}{v:Value}(ht:c.own=true->¬TT t)(k:uG I j own w t c v):uG I' j' own' w' t c v :=
 ⟨h.rep k.1,fun ho=>h.owned (ht ho) (k.2 ho)⟩
theorem fD.zB(h:fD I j own w I' j' own' w' TT){b:Nat}{mk:Nat->Tag}{cs:List Cell}{t:Tag}(hb:own b=some t)(ht:¬TT t)(hc:∀i c,cs[i]?=some c->c.own=true->¬TT (mk i))
  (k:sJ I j own w b mk cs):sJ I' j' own' w' b mk cs:=by
 obtain⟨vs,T,h1,h2,h3⟩:=k;have hlt:b<w.heap.size:=(Array.getElem?_eq_some_iff.1 h1).1;obtain⟨k1,_,_⟩:=h.block b hlt (fun t' x=>by rw[hb]at x;cases x;exact ht);refine⟨vs,T,k1.trans h1,h2,fun i c hi=>?_⟩;obtain⟨v,hv,ho,hr⟩:=h3 i c hi;exact⟨v,hv,ho,h.OJ (hc i c hi) hr⟩
theorem fD.EO(h:fD I j own w I' j' own' w' TT):∀(ds:List (FuncId×List D))(l:List Deferred),Bo I j ds l->Bo I' j' ds l
 |[],_,k=>k
 |(f,ds)::r,l,k=>by
  simp only[Bo]at k ⊢;obtain⟨x,l',h1,h2,h3⟩:=k;refine⟨x,l',h1,h.EO r l' h2,?_⟩;split
  ·rename_i hf;rw[if_pos hf]at h3;obtain⟨b,k1,k2⟩:=h3;exact⟨b,h.lay _ _ k1,k2⟩
  ·rename_i hf;rw[if_neg hf]at h3;obtain⟨cap,args,k1,k2⟩:=h3;exact⟨cap,args,k1,h.Nj k2⟩
end keeps
/-! ### The fit of an operation: what the generator printed is what the program iV -/
def jv(b:Bool):Value->Bool
 |.bool b'=>b==b'
 |_=>false
def oz(k:IntKind)(n:Int):Value->Bool
 |.int k' n'=>tH k k'&&n==n'
 |_=>false
def pg(s:List UInt8):Value->Bool
 |.string b=>s==b.data.toList
 |_=>false
def XK:Value->Bool
 |.slice a n c=>a.isNone&&n==0&&c==0
 |_=>false
def ZK:Value->Bool
 |.pointer a=>a.isNone
 |_=>false
def dm:Value->Bool
 |.nilFunc=>true
 |_=>false
def ZJ:Value->Bool
 |.map none=>true
 |_=>false
def XJ:Value->Bool
 |.nilIface=>true
 |_=>false
def UQ(f:FuncId):Value->Bool
 |.func (.func f') a b=>f==f'&&a.size==0&&b.size==0
 |_=>false
def RY:Value->Option (List Value)
 |.agg vs=>some vs.toList
 |_=>none
mutual
def oK:D->Value->Bool
 |.bool b,v=>jv b v
 |.int k n,v=>oz k n v
 |.str s,v=>pg s v
 |.dN,v=>XK v
 |.rR,v=>ZK v
 |.tP,v=>dm v
 |.rY,v=>XJ v
 |.lH,v=>ZJ v
 |.fn (.func f) a b,v=>UQ f v&&a.isEmpty&&b.isEmpty
 |.agg cs,v=>iW (RY v) false fun vs=>xA cs vs
 |_,_=>false
def xA:List D->List Value->Bool
 |[],vs=>vs.isEmpty
 |d::ds,vs=>iW vs.head? false fun v=>d.one&&oK d v&&xA ds vs.tail
end
def dT:Operand->dS->Bool
 |.tmp t,.tmp s=>t==s
 |.tmp t,.mv s=>t==s
 |.const v,.const d=>oK d v
 |.func f,.const (.fn (.func f') [] [])=>f==f'
 |_,_=>false
def vY:List Operand->List dS->Bool
 |[],[]=>true
 |x::l,y::r=>dT x y&&vY l r
 |_,_=>false
theorem WU{k k':IntKind}(h:tH k k'=true):k=k':=by cases k<;>cases k'<;>first|rfl|cases h
theorem dL.oneCell{I:fU}{j:fJ}{d:D}{v:Value}(h:dL I j d v)(ho:d.one=true):v.oneCell'=true/\v.cells=#[v]:=by
 cases d<;>simp only[D.one,aE]at ho<;>simp only[dL]at h<;>first
  |(subst h;exact⟨rfl,rfl⟩)
  |(obtain⟨_,_,rfl,_⟩:=h;exact⟨rfl,rfl⟩)
  |(obtain⟨_,_,rfl⟩:=h;exact⟨rfl,rfl⟩)
  |(obtain⟨_,_,_,rfl,_⟩:=h;exact⟨rfl,rfl⟩)
  |(obtain⟨_,rfl,_⟩:=h;exact⟨rfl,rfl⟩)
  |(obtain⟨_,rfl⟩:=h;exact⟨rfl,rfl⟩)
  |(obtain⟨_,_,_,_,_,_,rfl,_⟩:=h;exact⟨rfl,rfl⟩)
theorem zyk{b:Bool}{v:Value}(h:jv b v=true):v=.bool b:=by cases v<;>simp only[jv,aE]at h;rw[eq_of_beq h]
theorem zbdb{k:IntKind}{n:Int}{v:Value}(h:oz k n v=true):v=.int k n:=by cases v<;>simp only[oz,aE,aC]at h;rw[WU h.1,eq_of_beq h.2]
theorem zbeb{s:List UInt8}{v:Value}(h:pg s v=true):v=.string ⟨⟨s⟩⟩:=by cases v<;>simp only[pg,aE]at h;rw[eq_of_beq h]
theorem zox{v:Value}(h:XK v=true):v=.slice none 0 0:=by cases v<;>simp only[XK,aE,aC,Option.isNone_iff_eq_none,beq_iff_eq]at h;obtain⟨⟨rfl,rfl⟩,rfl⟩:=h;rfl
theorem zr4{v:Value}(h:ZK v=true):v=.pointer none:=by cases v<;>simp only[ZK,aE,Option.isNone_iff_eq_none]at h;rw[h]
theorem zvh{v:Value}(h:dm v=true):v=.nilFunc:=by cases v<;>simp only[dm,aE]at h;rfl
theorem zr2{v:Value}(h:ZJ v=true):v=.map none:=by
 unfold ZJ at h;split at h
 ·rfl
 ·cases h
theorem zow{v:Value}(h:XJ v=true):v=.nilIface:=by cases v<;>simp only[XJ,aE]at h;rfl
theorem ze9b{f:FuncId}{v:Value}(h:UQ f v=true):v=.func (.func f) ⟨[]⟩ ⟨[]⟩:=by
 cases v with
 |func g a b =>cases g<;>simp only[UQ,aE,aC,beq_iff_eq]at h;obtain⟨⟨rfl,h1⟩,h2⟩:=h;obtain⟨a⟩:=a;obtain⟨b⟩:=b;simp only[List.size_toArray,aR]at h1 h2;subst h1 h2;rfl
 |_=>simp only[UQ,aE]at h
theorem zahb{v:Value}{vs:List Value}(h:RY v=some vs):v=.agg ⟨vs⟩:=by cases v<;>simp only[RY,reduceCtorEq,aA]at h;subst h;rfl
section
variable(I:fU)(j:fJ)
mutual
theorem BD:∀(d:D)(v:Value),oK d v=true->dL I j d v
 |.bool b,v,h=>by simp only[oK]at h;simp only[dL];exact zyk h
 |.int k n,v,h=>by simp only[oK]at h;simp only[dL];exact zbdb h
 |.str s,v,h=>by simp only[oK]at h;simp only[dL];exact zbeb h
 |.dN,v,h=>by simp only[oK]at h;simp only[dL];exact zox h
 |.rR,v,h=>by simp only[oK]at h;simp only[dL];exact zr4 h
 |.tP,v,h=>by simp only[oK]at h;simp only[dL];exact zvh h
 |.rY,v,h=>by simp only[oK]at h;simp only[dL];exact zow h
 |.lH,v,h=>by simp only[oK]at h;simp only[dL];exact zr2 h
 |.fn (.func f) a b,v,h=>by
  simp only[oK,aC,List.isEmpty_iff]at h;obtain⟨⟨h,rfl⟩,rfl⟩:=h;simp only[dL];exact⟨[],[],ze9b h,by simp only[dV],by simp only[dV]⟩
 |.agg cs,v,h=>by
  simp only[oK]at h;cases hv:RY v with
  |none=>rw[hv]at h;cases h
  |some vs =>rw[hv,eP]at h;simp only[dL];obtain⟨h1,h2⟩:=Om cs vs h;exact⟨vs,zahb hv,h1,h2⟩
 |.undef,v,h=>by simp only[oK,aE]at h
 |.list _ _,v,h=>by simp only[oK,aE]at h
 |.fN _,v,h=>by simp only[oK,aE]at h
 |.ptr _ _,v,h=>by simp only[oK,aE]at h
 |.gC _,v,h=>by simp only[oK,aE]at h
 |.iface _ _,v,h=>by simp only[oK,aE]at h
 |.fn (.method _) _ _,v,h=>by simp only[oK,aE]at h
 |.fn (.methodOf _ _) _ _,v,h=>by simp only[oK,aE]at h
 |.fn (.via _ _ _ _) _ _,v,h=>by simp only[oK,aE]at h
 |.fn (.yield _) _ _,v,h=>by simp only[oK,aE]at h
theorem Om:∀(ds:List D)(vs:List Value),xA ds vs=true->dV I j ds vs/\∀x∈vs,x.oneCell'=true
 |[],vs,h=>by
  simp only[xA,List.isEmpty_iff]at h;subst h;exact⟨by simp only[dV],by simp⟩
 |d::ds,vs,h=>by
  simp only[xA]at h;cases vs with
  |nil=>cases h
  |cons v vs =>
   simp only[List.head?_cons,eP,List.tail_cons,aC]at h;obtain⟨⟨h0,h1⟩,h2⟩:=h;obtain⟨k1,k2⟩:=Om ds vs h2;have hr:=BD d v h1;refine⟨by simp only[dV];exact⟨v,vs,rfl,hr,k1⟩,?_⟩;intro x hx;rcases aS.1 hx with rfl|hx
   ·exact(hr.oneCell h0).1
   ·exact k2 x hx
end
end
theorem dV.length{I:fU}{j:fJ}:∀{ds:List D}{vs:List Value},dV I j ds vs->vs.length=ds.length
 |[],vs,h=>by simp only[dV]at h;subst h;rfl
 |d::ds,vs,h=>by
  simp only[dV]at h;obtain⟨x,r,rfl,_,h⟩:=h;simp[dV.length h]
theorem dV.at{I:fU}{j:fJ}:∀{ds:List D}{vs:List Value},dV I j ds vs->∀(i:Nat)(d:D),ds[i]?=some d->∃v,vs[i]?=some v/\dL I j d v
 |[],_,_,i,d,hi=>by simp at hi
 |d::ds,vs,h,i,d',hi=>by
  simp only[dV]at h;obtain⟨x,r,rfl,h1,h2⟩:=h;cases i with
  |zero=>simp at hi;subst hi;exact⟨x,rfl,h1⟩
  |succ i=>simp at hi;simpa using dV.at h2 i d' hi
theorem dV.of{I:fU}{j:fJ}:∀{ds:List D}{vs:List Value},vs.length=ds.length->(∀(i:Nat)(d:D),ds[i]?=some d->∃v,vs[i]?=some v/\dL I j d v)->dV I j ds vs
 |[],vs,h,_=>by simp only[dV];exact bL (by simpa using h)
 |d::ds,[],h,_=>by simp at h
 |d::ds,v::vs,h,k=>by
  simp only[dV];obtain⟨x,hx,hr⟩:=k 0 d rfl;simp at hx;subst hx;exact⟨v,vs,rfl,hr,dV.of (by simpa using h) fun i d' hi=>by simpa using k (i+1) d' (by simpa using hi)⟩
theorem dV.append{I:fU}{j:fJ}:∀{a:List D}{va:List Value}{b:List D}{vb:List Value},dV I j a va->dV I j b vb->dV I j (a++b) (va++vb)
 |[],va,b,vb,h,k=>by simp only[dV]at h;subst h;simpa using k
 |d::a,va,b,vb,h,k=>by
  simp only[dV]at h;obtain⟨x,r,rfl,h1,h2⟩:=h;simp only[aW,dV];exact⟨x,r++vb,rfl,h1,dV.append h2 k⟩
theorem dL.Gu{I:fU}{j:fJ}{d:D}{v:Value}(h:dL I j d v)(hok:d.ok=true):dV I j d.cells v.cells.toList/\∀x∈v.cells.toList,x.oneCell'=true:=by
 cases hd:d.one with
 |true =>
  obtain⟨h1,h2⟩:=h.oneCell hd;have:d.cells=[d]:=by cases d<;>simp only[D.one,aE]at hd<;>rfl
  rw[this,h2];exact⟨by simp only[dV];exact⟨v,[],rfl,h,rfl⟩,by simpa using h1⟩
 |false =>cases d<;>simp only[D.one,D.ok,aE,Bool.true_eq_false]at hd hok;simp only[dL]at h;obtain⟨vs,rfl,h1,h2⟩:=h;exact⟨h1,h2⟩
theorem dL.zcw{I:fU}{j:fJ}{d:D}{v:Value}(h:dL I j d v)(hok:d.ok=true):v.cells.size=d.cells.length:=by have:=dV.length (h.Gu hok).1;simpa using this
/-! ### Operands -/
section
variable[kQ]{I:fU}{j:fJ}{own:gZ}{lb:fJ}{N:Nat}{e:Env}{a:Go.Act}{w:World}
theorem gW(hL:eI I j own lb N e a w){x:Operand}{y:dS}(hk:dT x y=true){c:Cell}(h:eE e y=some c):dL I j c.d (a.eval x):=by
 cases y with
 |tmp s =>cases x<;>simp only[dT,aE]at hk;rw[eq_of_beq hk];simp only[eE]at h;obtain⟨c',h1,h2⟩:=dJ h;cases h2;exact(hL.slots s c' h1).1
 |mv s =>cases x<;>simp only[dT,aE]at hk;rw[eq_of_beq hk];exact(hL.slots s c h).1
 |const d =>
  simp only[eE]at h;cases h;cases x with
  |tmp t=>simp only[dT,aE]at hk
  |global g=>simp only[dT,aE]at hk
  |const v=>simp only[dT]at hk;exact BD I j d v hk
  |func f =>cases d<;>simp only[dT,aE]at hk;rename_i g a' b';cases g<;>cases a'<;>cases b'<;>simp only[aE]at hk;simp only[dL,Act.eval];exact⟨[],[],by rw[eq_of_beq hk],rfl,rfl⟩
theorem Gw(hL:eI I j own lb N e a w):∀{xs:List Operand}{ys:List dS}(_:vY xs ys=true){ds:List D},oI e ys=some ds->dV I j ds (xs.map a.eval)
 |[],[],_,ds,h=>by simp only[oI]at h;cases h;simp only[dV,aZ]
 |[],_::_,hk,_,_=>by simp only[vY,aE]at hk
 |_::_,[],hk,_,_=>by simp only[vY,aE]at hk
 |x::xs,y::ys,hk,ds,h=>by
  simp only[vY,aC]at hk;simp only[oI]at h;obtain⟨c,h1,h⟩:=dJ h;obtain⟨ds',h2,h⟩:=dJ h;cases h;simp only[dV,aO];exact⟨_,_,rfl,gW hL hk.1 h1,Gw hL hk.2 h2⟩
def OX(I:fU)(j lb:fJ):Ptr->Value->Prop
 |.loc b off,v=>∃B,lb b=some B/\v=.pointer (some ⟨B,off,none⟩)
 |.ptr id off,v=>∃B,j id=some B/\v=.pointer (some ⟨B,off,none⟩)
 |.gC d,v=>∃b o x,v=.pointer (some ⟨b,o,none⟩)/\At I b o x/\dL I j d x
theorem zdl{d:D}{p:Ptr}(h:xU d=some p){v:Value}(hr:dL I j d v):OX I j lb p v:=by cases d<;>simp only[xU,reduceCtorEq,aA]at h<;>subst h<;>simpa only[dL,OX]using hr
theorem Be(hL:eI I j own lb N e a w){x:Operand}{y:dS}(hk:dT x y=true){p:Ptr}(h:kL e y=some p):OX I j lb p (a.eval x):=by
 have slot:∀s,iW (dC e.dR s) (dH (dC e.slots s) fun c=>xU c.d) (fun p=>some (.loc p.1 p.2))=some p->OX I j lb p (a.tmps.getD s Go.undef):=by
  intro s h;cases hl:dC e.dR s with
  |some q =>obtain⟨b,off⟩:=q;rw[hl]at h;cases h;exact hL.dR s b off hl
  |none =>rw[hl]at h;obtain⟨c,h1,h2⟩:=dJ h;exact zdl h2 (hL.slots s c h1).1
 cases y with
 |tmp s =>cases x<;>simp only[dT,aE]at hk;rw[eq_of_beq hk];exact slot s h
 |mv s =>cases x<;>simp only[dT,aE]at hk;rw[eq_of_beq hk];exact slot s h
 |const d =>simp only[kL]at h;exact zdl h (gW hL hk (c:=⟨false,d⟩) rfl)
end
/-! ### The types' tables -/
def UK(P:Program)(t:TypeId):Option Bool :=
 match P.underlying t with
 |some (.struct _)=>some true
 |some (.array _ _)=>some true
 |some _=>some false
 |none=>none
def jV(P:Program)(t:TypeId):Option Nat:=(P.info? t).map (·.size)
def oR(P:Program)(t:TypeId):Option Nat->Bool
 |none=>UK P t==some false&&jV P t==some 1
 |some n=>UK P t==some true&&jV P t==some n
def rQ(P:Program)(t:TypeId):Option (List Value):=(P.info? t).bind fun i=>i.zero.map fun z=>z.cells.toList
def Pn(P:Program)(t:TypeId):Option (List Field) :=
 match P.underlying t with
 |some (.struct fs)=>some fs.toList
 |_=>none
def nF(P:Program)(t:TypeId):Option TypeId :=
 match P.underlying t with
 |some (.slice e)=>some e
 |_=>none
section
variable{P:Program}{w:World}
theorem LA{t:TypeId}{b:Bool}(h:UK P t=some b):(isAgg t).run P w=.ok b w:=by
 unfold UK at h;cases hu:P.underlying t with
 |none=>rw[hu]at h;cases h
 |some d =>rw[hu]at h;simp only[isAgg,Sem.run_bind,run_underlying hu,Result.andThen_ok];cases d<;>simp only[aA]at h<;>subst h<;>rfl
theorem Az{t:TypeId}{n:Nat}(h:jV P t=some n):(sizeOf t).run P w=.ok n w:=by
 unfold jV at h;cases hi:P.info? t with
 |none=>rw[hi]at h;cases h
 |some i =>rw[hi]at h;simp at h;simp[sizeOf,typeInfo,hi,h]
theorem zs4{t:TypeId}{z:List Value}(h:rQ P t=some z):∃v,(zeroValue t).run P w=.ok v w/\v.cells.toList=z:=by
 unfold rQ at h;cases hi:P.info? t with
 |none=>rw[hi]at h;cases h
 |some i =>
  rw[hi]at h;cases hz:i.zero with
  |none=>rw[Option.bind_some,hz]at h;cases h
  |some v =>rw[Option.bind_some,hz]at h;simp at h;exact⟨v,by simp[zeroValue,typeInfo,hi,hz],h⟩
theorem XC{t:TypeId}{fs:List Field}(h:Pn P t=some fs):P.underlying t=some (.struct ⟨fs⟩):=by
 unfold Pn at h;split at h
 ·rename_i fs' hu;cases h;exact hu
 ·cases h
theorem uF{t e:TypeId}(h:nF P t=some e):P.underlying t=some (.slice e):=by
 unfold nF at h;split at h
 ·rename_i e' hu;cases h;exact hu
 ·cases h
/-! ### Reading -/
theorem AX{t:TypeId}{k:Option Nat}(hk:oR P t k=true)(b o:Nat){v:Value}
  (hc:∀i x,v.cells[i]?=some x->w.cell? ⟨b,o+i,none⟩=some x)
  (hv:match k with|none=>v.cells=#[v]|some n=>∃vs,v=.agg ⟨vs⟩/\vs.length=n) :
  (loadVar t ⟨b,o,none⟩).run P w=.ok v w:=by
 cases k with
 |none =>simp only[oR,aC,beq_iff_eq]at hk;have h0:=hc 0 v (by rw[hv];rfl);simp only[Nat.add_zero]at h0;simp only[loadVar,Sem.run_bind,LA hk.1,Result.andThen_ok,aE,if_false,run_load,h0]
 |some n =>simp only[oR,aC,beq_iff_eq]at hk;obtain⟨vs,rfl,hl⟩:=hv;have hr:=run_loadCells_list (P:=P) w ⟨b,o,none⟩ vs (fun i x hx=>by rw[Addr.add_lit];exact hc i x (by simpa[Value.cells]using hx));simp only[loadVar,Sem.run_bind,LA hk.1,Result.andThen_ok,if_true,Az hk.2,<-hl,hr];rfl
theorem ZY:∀(cs:List Cell)(o n:Nat)(l:List D),pO cs o n=some l->l=((cs.drop o).take n).map (·.d)/\l.length=n
 |cs,0,0,l,h=>by simp only[pO,aA]at h;subst h;simp
 |[],0,n+1,l,h=>by simp[pO]at h
 |[],o+1,n,l,h=>by simp[pO]at h
 |c::cs,0,n+1,l,h=>by
  simp only[pO]at h;obtain⟨l',h1,h2⟩:=dJ h;cases h2;obtain⟨k1,k2⟩:=ZY cs 0 n l' h1;simp only[List.drop_zero]at k1;exact⟨by simp[k1],by simp[k2]⟩
 |c::cs,o+1,n,l,h=>by
  have h':pO cs o n=some l:=by cases n<;>simpa only[pO]using h
  simpa using ZY cs o n l h'
variable[kQ]{I:fU}{j:fJ}{own:gZ}
theorem Vg{B:Nat}{mk:Nat->Tag}{cs:List Cell}(hb:sJ I j own w B mk cs){t:TypeId}{k:Option Nat}(hk:oR P t k=true){off:Nat}{c:Cell}(h:oS cs k off=some c) :
  ∃v,(loadVar t ⟨B,off,none⟩).run P w=.ok v w/\dL I j c.d v/\(k=none->cs[off]?=some c/\v.oneCell'=true/\uG I j own w (mk off) c v)/\(k≠none->c.own=false):=by
 obtain⟨vs,T,h1,h2,h3⟩:=hb;have hcell:∀i x,vs[i]?=some x->w.cell? ⟨B,i,none⟩=some x:=fun i x hx=>by
  rw[cell_of_row w B i _ _ _ h1];simpa using hx
 cases k with
 |none =>
  simp only[oS,Qe]at h;obtain⟨v,hv,ho,hr⟩:=h3 off c h;have hc1:v.cells=#[v]:=by cases v<;>simp[Value.oneCell']at ho<;>rfl
  refine⟨v,AX hk B off (v:=v) (fun i x hx=>?_) hc1,hr.1,fun _=>⟨h,ho,hr⟩,fun hne=>absurd rfl hne⟩;rw[hc1]at hx;cases i with
  |zero=>simp at hx;subst hx;exact hcell off v hv
  |succ i=>simp at hx
 |some n =>
  simp only[oS]at h;obtain⟨l,hl,he⟩:=dJ h;cases he;obtain⟨hl1,hl2⟩:=ZY cs off n l hl;have hlen:((vs.drop off).take n).length=n:=by
   have:(((cs.drop off).take n).map (·.d)).length=n:=by rw[<-hl1];exact hl2
   simp only[aJ,bI,List.length_drop]at this ⊢;omega
  refine⟨.agg ⟨(vs.drop off).take n⟩,AX hk B off (fun i x hx=>?_) ⟨_,rfl,hlen⟩,?_,fun hne=>(by cases hne),fun _=>rfl⟩
  ·simp only[Value.cells,List.getElem?_toArray,List.getElem?_take,List.getElem?_drop]at hx;split at hx
   ·exact hcell (off+i) x hx
   ·cases hx
  ·simp only[dL];refine⟨_,rfl,dV.of (by rw[hlen,hl2]) (fun i d hi=>?_),fun x hx=>?_⟩
   ·rw[hl1,List.getElem?_map]at hi;cases hq:((cs.drop off).take n)[i]? with
    |none=>rw[hq]at hi;cases hi
    |some c =>
     rw[hq]at hi;simp at hi;subst hi;simp only[List.getElem?_take,List.getElem?_drop]at hq ⊢;split at hq
     ·rename_i hin;obtain⟨v,hv,_,hr⟩:=h3 (off+i) c hq;exact⟨v,by rw[if_pos hin];exact hv,hr.1⟩
     ·cases hq
   ·obtain⟨i,hi⟩:=List.getElem?_of_mem hx;simp only[List.getElem?_take,List.getElem?_drop]at hi;split at hi
    ·have hlt:off+i<cs.length:=by
      rename_i hin;have:(((cs.drop off).take n).map (·.d)).length=n:=by rw[<-hl1];exact hl2
      simp only[aJ,bI,List.length_drop]at this;omega
     obtain⟨v,hv,ho,_⟩:=h3 (off+i) _ (List.getElem?_eq_getElem hlt);rw[hv]at hi;cases hi;exact ho
    ·cases hi
end
/-! ### The fit of the operations that yield a value -/
def Ws(a b:BinOp):Bool:=decide (a=b)
def zjwb(a b:UnOp):Bool:=decide (a=b)
def Wm(P:Program)(fs:List Field):List (Nat×Operand)->List (Nat×Nat×dS)->Bool
 |[],[]=>true
 |(i,x)::l,(off,n,y)::r=>(match fs[i]? with
  |some f=>f.offset==off&&jV P f.type==some n
  |none=>false)&&dT x y&&Wm P fs l r
 |_,_=>false
def Cc:Option Operand->Option dS->Bool
 |none,none=>true
 |some x,some y=>dT x y
 |_,_=>false
def tY(P:Program)(t:TypeId):Bool:=match P.underlying t with|some .string=>true|_=>false
def GH(P:Program)(t:TypeId):Bool:=match P.underlying t with|some .bool=>true|_=>false
def Ez(P:Program)(t:TypeId):Option IntKind:=match P.underlying t with|some (.int k)=>some k|_=>none
def xG(P:Program)(t:TypeId):Option Bool:=match P.underlying t with|some (.interface _)=>some true|some _=>some false|none=>none
def um(P:Program)(t:TypeId):Bool:=match P.underlying t with|some (.pointer _)=>true|_=>false
def zN(P:Program)(t:TypeId):Option (TypeId×TypeId):=match P.underlying t with|some (.map k e)=>some (k,e)|_=>none
def iP(P:Program)(t:TypeId):Bool:=(zN P t).isSome
def uY(P:Program)(ks:Bool)(t:TypeId):Bool:=match P.underlying t with|some (.int _)=>!ks|some .string=>ks|_=>false
def PL:Fn->Fn->Bool
 |.func f,.func g=>f==g
 |_,_=>false
def GQ(P:Program)(t:TypeId):Nat->Bool
 |0=>(match P.underlying t with|some (.int _)=>true|_=>false)
 |1=>tY P t
 |2=>GH P t
 |_=>false
def G8(P:Program):List Nat->Nat->List Field->Bool
 |[],_,[]=>true
 |k::ks,i,f::r=>f.name != "_"&&f.offset==i&&oR P f.type none&&GQ P f.type k&&G8 P ks (i+1) r
 |_,_,_=>false
def lh(P:Program)(t:TypeId)(ks:List Nat):Bool:=match P.underlying t with
 |some (.struct fs)=>!P.stoodInHeld t&&!P.eqGuardType P.depth t&&G8 P ks 0 fs.toList
 |_=>false
def qJ(P:Program):Op->iR->Bool
 |.move x,.dO y=>dT x y
 |.assign x,.dO y=>dT x y
 |.pick c a b,.pick c' a' b'=>dT c c'&&dT a a'&&dT b b'
 |.build t ps,.build z qs=>(match rQ P t,Pn P t with
  |some zs,some fs=>xA z zs&&Wm P fs ps.toList qs&&fs.all (fun f=>(jV P f.type).isSome)
  |_,_=>false)
 |.load t x,.load k _ y=>dT x y&&oR P t k
 |.load t x,.sC k _ y=>dT x y&&oR P t k
 |.load t x,.fY _ k y=>dT x y&&oR P t k
 |.load t x,.GR k y=>dT x y&&oR P t k
 |.load t x,.jB k y=>dT x y&&oR P t k
 |.load t x,.iT k y=>dT x y&&oR P t k
 |.nilCheck x,.nilCheck y=>dT x y
 |.binOp op _ x y _,.bin op' x' y'=>Ws op op'&&dT x x'&&dT y y'
 |.binOp op t x y _,.JD op' x' y'=>Ws op op'&&dT x x'&&dT y y'&&GH P t
 |.binOp op t x (.const .nilIface) _,.isNil op' y=>Ws op op'&&dT x y&&xG P t==some true
 |.binOp op t x (.const (.pointer none)) _,.ES op' y=>Ws op op'&&dT x y&&um P t
 |.typeAssert x _ t true,.DN t' z y=>t==t'&&dT x y&&xG P t==some false&&(match(P.info? t).bind (·.zero)with|some zv=>oK z zv|none=>false)
 |.unOp op _ x,.un op' y=>zjwb op op'&&dT x y
 |.convert s t x,.toInt k y=>dT x y&&Ez P t==some k&&(P.underlying s).isSome
 |.convert s t x,.toStr y=>dT x y&&tY P t&&(P.underlying s).isSome
 |.convert s t x,.EJ y=>dT x y&&tY P t&&(match P.underlying s with|some (.int _)=>true|_=>false)
 |.convert s t x,.l6 y=>dT x y&&tY P t&&(match nF P s with|some e=>Ez P e==some .u8|none=>false)
 |.makeInterface t x,.Jy t' y=>t==t'&&dT x y&&xG P t==some false
 |.makeFunc f az bs,.nL f' az' bs'=>PL f f'&&vY az.toList az'&&vY bs.toList bs'
 |.slice t x lo hi none,.slice sz x' lo' hi'=>dT x x'&&Cc lo lo'&&Cc hi hi'&&(match nF P t with|some e=>jV P e==some sz|none=>false)
 |.binOp op t x (.const (.slice none 0 0)) _,.zG op' y=>Ws op op'&&dT x y&&(nF P t).isSome
 |.binOp op t x (.const (.map none)) _,.G7 op' y=>Ws op op'&&dT x y&&iP P t
 |.lookup t x i ok,.lookup ks z ok' x' i'=>dT x x'&&dT i i'&&ok==ok'&&(match zN P t with|some (kt,el)=>uY P ks kt&&(match(P.info? el).bind (·.zero)with|some zv=>oK z zv|none=>false)|none=>false)
 |.call {callee:=.builtin .len,args:=⟨[x]⟩,argTypes:=⟨[t]⟩},.Ti y=>dT x y&&iP P t
 |.call {callee:=.builtin .min,args:=⟨[x,y]⟩,..},.mm false x' y'=>dT x x'&&dT y y'
 |.call {callee:=.builtin .max,args:=⟨[x,y]⟩,..},.mm true x' y'=>dT x x'&&dT y y'
 |.slice t x lo hi none,.EZ x' lo' hi'=>dT x x'&&Cc lo lo'&&Cc hi hi'&&tY P t
 |.fieldAddr t x i,.fieldAddr off k y=>dT x y&&(match Pn P t with
  |some fs=>(match fs[i]? with|some f=>f.offset==off&&oR P f.type k&&jV P f.type != some 0|none=>false)
  |none=>false)
 |.field t x i,.field off k y=>dT x y&&(match Pn P t with
  |some fs=>(match fs[i]? with|some f=>f.offset==off&&oR P f.type k|none=>false)
  |none=>false)
 |.indexAddr t x i,.indexAddr sz x' i'=>dT x x'&&dT i i'&&(match nF P t with|some e=>jV P e==some sz|none=>false)
 |.index t x i,.index x' i'=>dT x x'&&dT i i'&&tY P t
 |.extract x i,.extract y i'=>dT x y&&i==i'
 |.call {callee:=.builtin .len,args:=⟨[x]⟩,argTypes:=⟨[t]⟩},.len y=>dT x y&&(nF P t).isSome
 |.call {callee:=.builtin .len,args:=⟨[x]⟩,argTypes:=⟨[t]⟩},.Y3 y=>dT x y&&tY P t
 |.binOp op t x y _,.Yy op' ks x' y'=>Ws op op'&&dT x x'&&dT y y'&&lh P t ks
 |_,_=>false
def iO(I:fU)(j lb:fJ):Val->Value->Prop
 |.c c,x=>dL I j c.d x
 |.l b off,x=>∃B,lb b=some B/\x=.pointer (some ⟨B,off,none⟩)
section
variable[kQ]{P:Program}{I:fU}{j:fJ}{own:gZ}{lb:fJ}{N:Nat}{e:Env}{a:Go.Act}{w:World}{O:Store}
theorem zfn(hL:eI I j own lb N e a w){o:Oper}{x:Operand}{y:dS}(ho:o.op=.move x\/o.op=.assign x)(hk:dT x y=true){v:Val}(h:eQ (.dO y) e O=some v) :
  ∃u,(execOp a.eval o).run P w=.ok (.value u) w/\iO I j lb v u:=by
 simp only[eQ]at h;obtain⟨c,h1,h2⟩:=dJ h;cases h2;refine⟨a.eval x,?_,gW hL hk h1⟩;rcases ho with ho|ho<;>simp only[execOp,ho,Sem.run_pure]
theorem zdgb(hL:eI I j own lb N e a w){o:Oper}{x y z:Operand}{x' y' z':dS}(ho:o.op=.pick x y z)(hk:dT x x'=true)(hk1:dT y y'=true)(hk2:dT z z'=true){v:Val}
  (h:eQ (.pick x' y' z') e O=some v):∃u,(execOp a.eval o).run P w=.ok (.value u) w/\iO I j lb v u:=by
 simp only[eQ]at h;obtain⟨c,h1,h⟩:=dJ h;obtain⟨t,h2,h⟩:=dJ h;obtain⟨c',h3,h⟩:=dJ h;cases h;have hr:=gW hL hk h1;have hb:a.eval x=.bool t:=by
  cases hd:c.d<;>rw[hd]at h2<;>simp only[D.bool?,reduceCtorEq,aA]at h2;subst h2;rw[hd]at hr;simpa only[dL]using hr
 refine⟨if t then a.eval y else a.eval z,?_,?_⟩
 ·simp only[execOp,ho,hb,asBool,Sem.run_bind,Sem.run_pure,Result.andThen_ok]
 ·cases t with
  |true=>rw[dQ]at h3;exact gW (c:=c') hL hk1 h3
  |false=>rw[dX]at h3;exact gW (c:=c') hL hk2 h3
theorem Wb(hG:eH I j own O w)(hL:eI I j own lb N e a w){o:Oper}{t:TypeId}{x:Operand}{y:dS}{k:Option Nat}{mv:Bool}(ho:o.op=.load t x)(hk:dT x y=true)(hk1:oR P t k=true){v:Val}
  (h:eQ (.load k mv y) e O=some v):∃u,(execOp a.eval o).run P w=.ok (.value u) w/\iO I j lb v u:=by
 have fin:∀{b off:Nat}{u:Value},a.eval x=.pointer (some ⟨b,off,none⟩)->(loadVar t ⟨b,off,none⟩).run P w=.ok u w->(execOp a.eval o).run P w=.ok (.value u) w:=(by intro b off u h1 h2;simp only[execOp,ho,h1,Instr.loadAt,Instr.sureAddr,Sem.run_bind,Sem.run_pure,Result.andThen_ok,h2]);simp only[eQ]at h;obtain⟨p,hp,h⟩:=dJ h;have hr:=Be hL hk hp;cases p with
 |loc b off =>obtain⟨B,hB,hx⟩:=hr;obtain⟨cs,h1,h⟩:=dJ h;obtain⟨c,h2,h⟩:=dJ h;cases h;obtain⟨B',hB',_,oD⟩:=hL.boxes b cs h1;rw[hB]at hB';cases hB';obtain⟨u,hu,nU,_⟩:=Vg oD hk1 h2;exact⟨u,fin hx hu,nU⟩
 |ptr id off =>obtain⟨B,hB,hx⟩:=hr;obtain⟨cs,h1,h⟩:=dJ h;obtain⟨c,h2,h⟩:=dJ h;cases h;obtain⟨B',hB',_,oD⟩:=hG.dE id cs h1;rw[hB]at hB';cases hB';obtain⟨u,hu,nU,_⟩:=Vg oD hk1 h2;exact⟨u,fin hx hu,nU⟩
 |gC d =>
  obtain⟨b,off,u,hx,hat,hd⟩:=hr;have hc:∀i x,u.cells[i]?=some x->w.cell? ⟨b,off+i,none⟩=some x:=fun i x hi=>hG.holds _ _ _ (hat i x hi);cases k with
  |none =>obtain⟨h1,h⟩:=gQ h;cases h;exact⟨u,fin hx (AX hk1 b off hc (hd.oneCell h1).2),hd⟩
  |some n =>obtain⟨cs,h1,h⟩:=dJ h;obtain⟨h2,h⟩:=gQ h;cases h;simp only[beq_iff_eq]at h2;refine⟨u,fin hx (AX hk1 b off hc ?_),hd⟩;cases d<;>simp only[D.sE,reduceCtorEq,aA]at h1;subst h1;simp only[dL]at hd;obtain⟨vs,rfl,hl,_⟩:=hd;exact⟨vs,rfl,by rw[hl.length];exact h2⟩
theorem zq6(hL:eI I j own lb N e a w){o:Oper}{x:Operand}{y:dS}(ho:o.op=.nilCheck x)(hk:dT x y=true){v:Val}(h:eQ (.nilCheck y) e O=some v) :
  ∃u,(execOp a.eval o).run P w=.ok (.value u) w/\iO I j lb v u:=by
 simp only[eQ]at h;obtain⟨p,hp,h⟩:=dJ h;have hr:=Be hL hk hp;cases p with
 |loc b off =>cases h;obtain⟨B,hB,hx⟩:=hr;exact⟨.pointer (some ⟨B,off,none⟩),by simp only[execOp,ho,hx,Sem.run_pure],B,hB,rfl⟩
 |ptr id off =>cases h;obtain⟨B,hB,hx⟩:=hr;exact⟨.pointer (some ⟨B,off,none⟩),by simp only[execOp,ho,hx,Sem.run_pure],by simp only[iO,dL];exact⟨B,hB,rfl⟩⟩
 |gC d =>cases h;obtain⟨b,off,u,hx,hat,hd⟩:=hr;exact⟨.pointer (some ⟨b,off,none⟩),by simp only[execOp,ho,hx,Sem.run_pure],by simp only[iO,dL];exact⟨b,off,u,rfl,hat,hd⟩⟩
theorem zrr(op:BinOp)(t:TypeId)(x y:Operand)(k k':IntKind)(m n:Int):eqGuard op t x y (.int k m) (.int k' n)=pure ():=by unfold eqGuard;cases op<;>rfl
theorem zrs(op:BinOp)(t:TypeId)(x y:Operand)(m n:ByteArray):eqGuard op t x y (.string m) (.string n)=pure ():=by unfold eqGuard;cases op<;>rfl
theorem zp1(op:BinOp)(t:TypeId)(x y:Operand)(m n:Bool):eqGuard op t x y (.bool m) (.bool n)=pure ():=by unfold eqGuard;cases op<;>rfl
def pJ:D->Value
 |.int k n=>.int k n
 |.bool b=>.bool b
 |.str s=>.string ⟨⟨s⟩⟩
 |_=>Go.undef
theorem zt3{op:BinOp}{k:IntKind}{m n:Int}{d:D}(h:uO op k m n=some d)(t:TypeId):(binOp op t (.int k m) (.int k n)).run P w=.ok (pJ d) w/\dL I j d (pJ d):=by
 cases op
 case quo =>
  simp only[uO]at h;obtain⟨h1,h⟩:=gQ' h;have h1':n≠0:=by intro e;subst e;simp at h1
  cases h;exact⟨by simp[binOp,Op.intDiv,h1',pJ],by simp only[dL,pJ]⟩
 case rem =>
  simp only[uO]at h;obtain⟨h1,h⟩:=gQ' h;have h1':n≠0:=by intro e;subst e;simp at h1
  cases h;exact⟨by simp[binOp,Op.intDiv,h1',pJ],by simp only[dL,pJ]⟩
 all_goals simp only[uO,reduceCtorEq,aA]at h
 all_goals subst h
 all_goals exact⟨by simp[binOp,Op.intArith,Op.intCmp,pJ],by simp only[dL,pJ]⟩
theorem zt4{op:BinOp}{m n:List UInt8}{d:D}(h:Bq op m n=some d)(t:TypeId):(binOp op t (.string ⟨⟨m⟩⟩) (.string ⟨⟨n⟩⟩)).run P w=.ok (pJ d) w/\dL I j d (pJ d):=by
 cases op
 case add =>
  simp only[Bq]at h;obtain⟨h1,h⟩:=gQ h;cases h;simp only[cE]at h1;have h2:¬(((⟨⟨m⟩⟩:ByteArray).size+(⟨⟨n⟩⟩:ByteArray).size:Nat):Int)>IntKind.i64.max:=by
   show¬((m.length+n.length:Nat):Int)>9223372036854775807;omega
  have h3:(⟨⟨m⟩⟩++⟨⟨n⟩⟩:ByteArray)=⟨⟨m++n⟩⟩:=(by apply ByteArray.ext;apply Array.ext';simp);refine⟨?_,by simp only[dL,pJ]⟩;simp only[binOp,Op.stringOp];rw[if_neg h2,h3];rfl
 all_goals simp only[Bq,reduceCtorEq,aA]at h
 all_goals subst h
 all_goals exact⟨by simp[binOp,Op.stringOp,pJ],by simp only[dL,pJ]⟩
theorem zg8b(hL:eI I j own lb N e a w){o:Oper}{op:BinOp}{t u:TypeId}{x y:Operand}{x' y':dS}(ho:o.op=.binOp op t x y u)(hk:dT x x'=true)(hk1:dT y y'=true){v:Val}
  (h:eQ (.bin op x' y') e O=some v):∃u,(execOp a.eval o).run P w=.ok (.value u) w/\iO I j lb v u:=by
 simp only[eQ]at h;obtain⟨c,h1,h⟩:=dJ h;obtain⟨c',h2,h⟩:=dJ h;obtain⟨d,h3,h⟩:=dJ h;cases h;have r1:=gW hL hk h1;have r2:=gW hL hk1 h2
 revert h3 r1 r2
 generalize c.d=d1;generalize c'.d=d2;intro h3 r1 r2;unfold JE at h3;split at h3
 ·obtain⟨hkk,h4⟩:=gQ h3;have hkk:=WU hkk;subst hkk;simp only[dL]at r1 r2;obtain⟨hz,hr⟩:=zt3 (P:=P) (w:=w) (I:=I) (j:=j) h4 t;exact⟨pJ d,by simp only[execOp,ho,r1,r2,zrr,Sem.run_bind,Sem.run_pure,Result.andThen_ok,hz],hr⟩
 ·simp only[dL]at r1 r2;obtain⟨hz,hr⟩:=zt4 (P:=P) (w:=w) (I:=I) (j:=j) h3 t;exact⟨pJ d,by simp only[execOp,ho,r1,r2,zrs,Sem.run_bind,Sem.run_pure,Result.andThen_ok,hz],hr⟩
 ·cases h3
theorem zn{t:TypeId}(ht:P.underlying t=some .bool)(p q:Bool):(Op.equal t (.bool p) (.bool q)).run P w=.ok (p==q) w:=by show(Op.equalIn (9999+1) t (.bool p) (.bool q)).run P w=_;rw[Op.equalIn];simp only[Sem.run_bind,run_underlying ht,Result.andThen_ok];rfl
theorem zre{op:BinOp}{p q:Bool}{d:D}(h:D7 op p q=some d){t:TypeId}(ht:P.underlying t=some .bool):(binOp op t (.bool p) (.bool q)).run P w=.ok (pJ d) w/\dL I j d (pJ d):=by
 cases op<;>simp only[D7,reduceCtorEq,aA]at h
 ·subst h;have:binOp .eql t (.bool p) (.bool q)=(do pure (.bool (<-Op.equal t (.bool p) (.bool q)))):=rfl;exact⟨by rw[this];simp only[Sem.run_bind,zn ht,Result.andThen_ok,Sem.run_pure,pJ],by simp only[dL,pJ]⟩
 ·subst h;have:binOp .neq t (.bool p) (.bool q)=(do pure (.bool (!(<-Op.equal t (.bool p) (.bool q))))):=rfl;exact⟨by rw[this];simp only[Sem.run_bind,zn ht,Result.andThen_ok,Sem.run_pure,pJ],by simp only[dL,pJ]⟩
theorem zddb(hL:eI I j own lb N e a w){o:Oper}{op:BinOp}{t u:TypeId}{x y:Operand}{x' y':dS}(ho:o.op=.binOp op t x y u)(hk:dT x x'=true)(hk1:dT y y'=true)(ht:GH P t=true){v:Val}
  (h:eQ (.JD op x' y') e O=some v):∃u,(execOp a.eval o).run P w=.ok (.value u) w/\iO I j lb v u:=by
 have ht:P.underlying t=some .bool:=by
  unfold GH at ht;split at ht
  ·assumption
  ·cases ht
 simp only[eQ]at h;obtain⟨c,h1,h⟩:=dJ h;obtain⟨c',h2,h⟩:=dJ h;obtain⟨d,h3,h⟩:=dJ h;cases h;have r1:=gW hL hk h1;have r2:=gW hL hk1 h2
 revert h3 r1 r2
 generalize c.d=d1;generalize c'.d=d2;intro h3 r1 r2;unfold SB at h3;split at h3
 ·rename_i p q;simp only[dL]at r1 r2;obtain⟨hz,hr⟩:=zre (P:=P) (w:=w) (I:=I) (j:=j) h3 ht;exact⟨pJ d,by simp only[execOp,ho,r1,r2,zp1,Sem.run_bind,Sem.run_pure,Result.andThen_ok,hz],hr⟩
 ·cases h3
theorem zg5b{op:UnOp}{d1 d:D}(h:AQ op d1=some d){u:Value}(hr:dL I j d1 u):(Op.unary op u).run P w=.ok (pJ d) w/\dL I j d (pJ d):=by
 unfold AQ at h;split at h
 ·rename_i b;cases h;simp only[dL]at hr;subst hr;exact⟨rfl,by simp only[dL,pJ]⟩
 ·rename_i k n;cases h;simp only[dL]at hr;subst hr;exact⟨rfl,by simp only[dL,pJ]⟩
 ·cases h
theorem zj6b(hL:eI I j own lb N e a w){o:Oper}{op:UnOp}{t:TypeId}{x:Operand}{x':dS}(ho:o.op=.unOp op t x)(hk:dT x x'=true){v:Val}
  (h:eQ (.un op x') e O=some v):∃u,(execOp a.eval o).run P w=.ok (.value u) w/\iO I j lb v u:=by
 simp only[eQ]at h;obtain⟨c,h1,h⟩:=dJ h;obtain⟨d,h3,h⟩:=dJ h;cases h;obtain⟨hz,hr⟩:=zg5b (P:=P) (w:=w) h3 (gW hL hk h1);exact⟨pJ d,by simp only[execOp,ho,hz,Sem.run_bind,Sem.run_pure,Result.andThen_ok],hr⟩
end
end Go.Mx
