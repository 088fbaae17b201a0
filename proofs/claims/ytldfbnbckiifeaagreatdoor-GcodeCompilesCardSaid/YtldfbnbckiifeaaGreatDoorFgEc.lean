/- A part of the proof. -/
import Derived.Test.YtldfbnbckiifeaaGreatDoorFgDt
set_option maxHeartbeats 4000000
set_option linter.all false
namespace Go.Fu
open Go Go.Mx
set_option maxRecDepth 10000
theorem Oo{S:fC}(hS:dC S Ad=some WW)(l:List Tx)(s:Tx)(hl:l.length<1000000000)(n:Nat)(O:Store):W S (n+1) Ad [dG l,.str s] O=some (.ret ⟨false,.bool (l.any (·==s))⟩,O):=by
 obtain⟨c,h1,h2⟩:=vH (S:=S) hS rfl (c:=⟨false,.bool (l.any (·==s))⟩) (fun l' s' e=>by
  simp only[aL,D.str.injEq,and_true]at e;rw[lN e.1,e.2]) (zoq l s hl)
 rw[h2,h1 l s rfl]
def SE:fC:=[(wM,H7),(tB,H6),(Ad,WW)]
def tC(some:List Tx)(h:List Tx):Store:={dE:=[(1,[⟨ow h.length,dG h⟩]),(0,[⟨false,dG some⟩])],fH:=[(1,⟨rI,0⟩),(0,⟨rI,0⟩)],dP:=[],next:=2}
def Z7(some:List Tx)(h:List Tx)(c:Co)(g:List Tx):Bool×List Tx:=(true,dK (pP c g some h) (h++[c.s]) h)
theorem zyf(so h g:List Tx)(c:Co)(hs:so.length<1000000000)(hh:h.length<1000000000)(hg:g.length<1000000000)(n:Nat):W SE (n+2) TA [dM c,dG g,.ptr 0 0,.ptr 1 0] (tC so h)=some (.ret ⟨false,.bool true⟩,tC so (dK (pP c g so h) (h++[c.s]) h)):=by
 have k1:=Oo (S:=SE) rfl g c.s hg n (tC so h);have k2:=Oo (S:=SE) rfl so c.s hs n (tC so h);have k3:=Oo (S:=SE) rfl h c.s hh n (tC so h)
 have hap:=Bf h c.s (ow h.length) (fun hne=>by
  cases h with
  |nil=>exact absurd rfl hne
  |cons x r=>rfl) hh
 have b0:dC (tC so h).dE 0=some [⟨false,dG so⟩]:=rfl;have b1:dC (tC so h).dE 1=some [⟨ow h.length,dG h⟩]:=rfl;have b2:dC (fF (tC so h).dE 1 [⟨false,dG h⟩]) 1=some [⟨false,dG h⟩]:=JV _ _ _;have hU:=mH c;have hon:=kZ c;have hoH:=lP h;have hoH2:=lP (h++[c.s]);have okH2:(dG (h++[c.s])).ok=true:=qM;have ceH2:(dG (h++[c.s])).cells=[dG (h++[c.s])]:=qZ;have hfin:∀o,({dE:=fF (fF (tC so h).dE 1 [⟨o,dG h⟩]) 1 [⟨true,dG (h++[c.s])⟩],fH:=(tC so h).fH,dP:=(tC so h).dP,next:=(tC so h).next}:Store)=tC so (h++[c.s]):=fun o=>by
  have:ow (h++[c.s]).length=true:=by simp[rA]
  unfold tC;rw[this];rfl
 unfold pP;simp only[wI];rw[fW (af:=Ry) rfl rfl rfl];cases e1:c.f==1 with
 |false=>simp only[Ry,sA,Nat.reduceAdd,Nat.reduceBEq,kn,hU,e1]
 |true =>
  cases e2:g.any (·==c.s)with
  |true =>rw[e2]at k1;simp only[Ry,sA,Nat.reduceAdd,Nat.reduceBEq,kn,hU,e1,k1]
  |false =>
   rw[e2]at k1;cases e3:so.any (·==c.s)with
   |false =>rw[e3]at k2;simp only[Ry,sA,Nat.reduceAdd,Nat.reduceBEq,kn,hU,e1,k1,k2,b0]
   |true =>
    rw[e3]at k2;cases e4:h.any (·==c.s)with
    |true =>rw[e4]at k3;simp only[Ry,sA,Nat.reduceAdd,Nat.reduceMul,Nat.reduceBEq,Nat.reduceLeDiff,kn,hU,e1,k1,k2,k3,b0,b1]
    |false =>rw[e4]at k3;simp only[Ry,sA,Nat.reduceAdd,Nat.reduceMul,Nat.reduceBEq,Nat.reduceLeDiff,kn,hU,e1,k1,k2,k3,b0,b1,hap,okH2,ceH2,hoH2,b2,hfin]
def nV(c:Co):List (Co×List Tx):=c.bs.map (fun b=>(b.2,dW c))++c.ks.map (fun x=>(x,dW c))++c.al.map (fun a=>(a.2,a.1.vars))
theorem EH(c:Co):(nV c).map Prod.fst=eT c:=by simp only[nV,eT,aU,cD];congr 1;congr 1;exact List.map_id'' (fun _=>rfl) _
theorem Py(c:Co):(nV c).length=(eT c).length:=by rw[<-EH,aJ]
theorem fq(c:Co)(i:Nat)(hi:i<(nV c).length):(nV c)[i].2=lC c i:=by
 have hl:=Py c;rw[Vo]at hl;unfold lC;by_cases h:c.bs.length+c.ks.length<=i
 ·rw[if_pos h];have h2:i-(c.bs.length+c.ks.length)<c.al.length:=by omega
  simp only[nV];rw[bT (by simp;omega)];rw[iU _ _ _ (by simpa using h2)];simp
 ·rw[if_neg h];simp only[nV];rw[bS (by simp;omega)];by_cases h2:i<c.bs.length
  ·rw[bS (by simpa using h2)];simp[dW]
  ·rw[bT (by simpa using h2)];simp[dW]
theorem zu6{α β:Type}(P:β->α->β)(d:α):∀(l:List α)(h:β),(List.range l.length).foldl (fun h i=>P h (l.getD i d)) h=l.foldl P h:=by
 intro l h;have key:∀n,n<=l.length->(List.range n).foldl (fun h i=>P h (l.getD i d)) h=(l.take n).foldl P h:=by
  intro n;induction n with
  |zero=>intro _;simp
  |succ n ih =>intro hn;rw[List.range_succ,List.foldl_append,ih (by omega),<-mC l n (by omega),List.foldl_append];simp only[List.foldl_cons,List.foldl_nil];rw[iU _ _ _ (by omega)]
 rw[key l.length (aM _),aV]
theorem zc2(k:Nat)(c:Co)(g s h:List Tx):jO (k+1) c g s h=dK (pP c g s h) (h++[c.s]) ((nV c).foldl (fun h p=>jO k p.1 (g++p.2) s h) h):=by
 simp only[jO];congr 1;rw[<-zu6 (fun h (p:Co×List Tx)=>jO k p.1 (g++p.2) s h) (c0,[]) (nV c) h,Py];refine Vn _ _ fun i hi b=>?_;have hi:=List.mem_range.1 hi;have hi2:i<(nV c).length:=by rw[Py];exact hi
 rw[iU _ _ _ hi,iU _ _ _ hi2,fq c i hi2];congr 1;have h1:=EH c;have:(nV c)[i].1=((nV c).map Prod.fst)[i]'(by simpa using hi2):=by simp
 rw[this];simp only[h1]
theorem LV{α β:Type}(F:β->α->Bool×α):∀(l:List β)(s:α),(∀x∈l,∀s,(F x s).1=true)->kJ F l s=(true,l.foldl (fun s x=>(F x s).2) s)
 |[],s,_=>rfl
 |x::l,s,h=>by
  have he:kJ F (x::l) s=dK (F x s).1 (kJ F l (F x s).2) (false,(F x s).2):=rfl;rw[he,h x (aQ ..) s,dQ,LV F l _ fun y hy=>h y (aI _ hy)];rfl
def UY(c:Co):Prop:=(c.f≠8->c.bs=[])/\(c.f=8->c.al=[])/\(c.f=1->c.ks=[]/\c.al=[])
inductive Wf:Co->Prop
 |mk {c}:UY c->(∀b∈c.bs,Wf b.2)->(∀x∈c.ks,Wf x)->(∀a∈c.al,Wf a.2)->Wf c
theorem Wf.bnd{c:Co}(h:Wf c):UY c/\(∀b∈c.bs,Wf b.2)/\(∀x∈c.ks,Wf x)/\(∀a∈c.al,Wf a.2):=by
 cases h with
 |mk a b c d=>exact⟨a,b,c,d⟩
theorem pU.wf{B:Nat}{c:Co}(h:pU B c):Wf c:=by
 induction h with
 |@leaf f n s h1 _ _=>exact Wf.mk (c:=.mk f n s [] [] []) ⟨fun _=>rfl,fun _=>rfl,fun _=>⟨rfl,rfl⟩⟩ (fun b hb=>by cases hb) (fun b hb=>by cases hb) (fun b hb=>by cases hb)
 |@app s a b _ _ _ ha hb =>
  refine Wf.mk (c:=.mk 4 0 s [a,b] [] []) ⟨fun _=>rfl,fun _=>rfl,fun h=>absurd h (by simp[Co.f])⟩ (fun b hb=>by cases hb) (fun x hx=>?_) (fun b hb=>by cases hb);simp only[Co.ks,aS,aK,or_false]at hx;rcases hx with rfl|rfl
  ·exact ha
  ·exact hb
 |@rH s a b _ _ _ ha hb =>
  refine Wf.mk (c:=.mk 10 0 s [a,b] [] []) ⟨fun _=>rfl,fun _=>rfl,fun h=>absurd h (by simp[Co.f])⟩ (fun b hb=>by cases hb) (fun x hx=>?_) (fun b hb=>by cases hb);simp only[Co.ks,aS,aK,or_false]at hx;rcases hx with rfl|rfl
  ·exact ha
  ·exact hb
 |@lt s b bs _ _ _ _ hb hx =>refine Wf.mk (c:=.mk 8 0 s [b] bs []) ⟨fun h=>absurd rfl h,fun _=>rfl,fun h=>absurd h (by simp[Co.f])⟩ hb (fun x hx2=>?_) (fun b hb=>by cases hb);simp only[Co.ks,aS,aK,or_false]at hx2;subst hx2;exact hx
 |@qX s x al _ _ _ _ hx ha =>refine Wf.mk (c:=.mk 9 0 s [x] [] al) ⟨fun _=>rfl,fun h=>absurd h (by simp[Co.f]),fun h=>absurd h (by simp[Co.f])⟩ (fun b hb=>by cases hb) (fun x2 hx2=>?_) ha;simp only[Co.ks,aS,aK,or_false]at hx2;subst hx2;exact hx
theorem Vm(so:List Tx):∀(k:Nat)(c:Co)(g h:List Tx),Wf c->jN (Z7 so) k c g h=(true,jO k c g so h)
 |0,c,g,h,_=>rfl
 |k+1,c,g,h,hw=>by
  obtain⟨⟨w1,w2,w3⟩,wb,wk,wa⟩:=hw.bnd;have hg:∀h,pP c (dK (c.f==8) (g++dW c) g) so h=pP c g so h:=fun h=>by
   cases e:c.f==8 with
   |false=>rfl
   |true =>
    have:c.f=8:=by simpa using e
    have e1:(c.f==1)=false:=by rw[this];rfl
    simp only[pP,e1,Bool.false_and]
  have hgb:(dK (c.f==8) (g++dW c) g)=g++dW c:=by
   cases e:c.f==8 with
   |true=>rfl
   |false =>
    have:c.f≠8:=by simpa using e
    simp[dW,w1 this,dK]
  have hga:c.al≠[]->(dK (c.f==8) (g++dW c) g)=g:=fun hne=>by
   cases e:c.f==8 with
   |false=>rfl
   |true=>exact absurd (w2 (by simpa using e)) hne
  have i0:∀s,kJ (fun(b:Tx×Co) s=>jN (Z7 so) k b.2 (dK (c.f==8) (g++dW c) g) s) c.bs s=(true,c.bs.foldl (fun s b=>jO k b.2 (g++dW c) so s) s):=fun s=>by
   rw[hgb,LV _ _ _ fun x hx s=>by rw[Vm so k x.2 _ _ (wb x hx)]];congr 1;exact Vn _ _ fun x hx s=>by rw[Vm so k x.2 _ _ (wb x hx)]
  have i1:∀s,kJ (fun(b:Co) s=>jN (Z7 so) k b (dK (c.f==8) (g++dW c) g) s) c.ks s=(true,c.ks.foldl (fun s b=>jO k b (g++dW c) so s) s):=fun s=>by
   rw[hgb,LV _ _ _ fun x hx s=>by rw[Vm so k x _ _ (wk x hx)]];congr 1;exact Vn _ _ fun x hx s=>by rw[Vm so k x _ _ (wk x hx)]
  have i2:∀s,kJ (fun(b:Hd×Co) s=>jN (Z7 so) k b.2 ((dK (c.f==8) (g++dW c) g)++b.1.vars) s) c.al s=(true,c.al.foldl (fun s b=>jO k b.2 (g++b.1.vars) so s) s):=fun s=>by
   rw[LV _ _ _ fun x hx s=>by rw[Vm so k x.2 _ _ (wa x hx)]];congr 1;exact Vn _ _ fun x hx s=>by rw[Vm so k x.2 _ _ (wa x hx),hga (List.ne_nil_of_mem hx)]
  unfold jN;simp only[Z7,hg];simp only[i0,i1,i2,dQ];rw[zc2];congr 1;cases hn:pP c g so h with
  |false =>simp only[dX,nV,List.foldl_append,List.foldl_map]
  |true =>have e1:c.f=1:=(by unfold pP at hn;simp only[aC]at hn;simpa using hn.1.1.1);have hb:c.bs=[]:=w1 (by omega);obtain⟨hk,ha⟩:=w3 e1;simp only[dQ,hb,hk,ha,List.foldl_nil]
theorem zdh:∀(h so:List Tx),h.Nodup->(∀x∈h,x∈so)->h.length<=so.length
 |[],so,_,_=>Nat.zero_le _
 |x::r,so,hn,hs=>by
  have hx:=hs x (aQ ..);obtain⟨h1,h2⟩:=List.nodup_cons.1 hn;have h3:=zdh r (so.erase x) h2 fun y hy=>by
   have hne:y≠x:=fun e=>h1 (e▸hy);exact(List.mem_erase_of_ne hne).2 (hs y (aI _ hy))
  rw[List.length_erase_of_mem hx]at h3;have:=List.length_pos_of_mem hx;simp only[aG];omega
theorem MP{α β:Type}(φ:α->β)(f:α->Co->List Tx->Bool×α)(f':β->Co->List Tx->Bool×β)(h:∀s c g,(f s c g).1=(f' (φ s) c g).1/\φ (f s c g).2=(f' (φ s) c g).2):∀(k:Nat)(c:Co)(g:List Tx)(s:α),(jN f k c g s).1=(jN f' k c g (φ s)).1/\φ (jN f k c g s).2=(jN f' k c g (φ s)).2
 |0,c,g,s=>⟨rfl,rfl⟩
 |k+1,c,g,s=>by
  have hL:∀{γ:Type}(F:γ->α->Bool×α)(F':γ->β->Bool×β),(∀x s,(F x s).1=(F' x (φ s)).1/\φ (F x s).2=(F' x (φ s)).2)->∀(l:List γ)(s:α),(kJ F l s).1=(kJ F' l (φ s)).1/\φ (kJ F l s).2=(kJ F' l (φ s)).2:=by
   intro γ F F' hF l;induction l with
   |nil=>intro s;exact⟨rfl,rfl⟩
   |cons x r ih =>
    intro s;obtain⟨h1,h2⟩:=hF x s;have e1:kJ F (x::r) s=dK (F x s).1 (kJ F r (F x s).2) (false,(F x s).2):=rfl;have e2:kJ F' (x::r) (φ s)=dK (F' x (φ s)).1 (kJ F' r (F' x (φ s)).2) (false,(F' x (φ s)).2):=rfl;rw[e1,e2,<-h1,<-h2];cases(F x s).1 with
    |true=>exact ih _
    |false=>exact⟨rfl,rfl⟩
  unfold jN;generalize dK (c.f==8) (g++dW c) g=g';obtain⟨h1,h2⟩:=h s c g';rw[<-h1,<-h2];cases(f s c g').1 with
  |false=>exact⟨rfl,rfl⟩
  |true =>
   simp only[dQ];have q0:=hL (fun(b:Tx×Co) s=>jN f k b.2 g' s) (fun(b:Tx×Co) s=>jN f' k b.2 g' s) (fun x s=>MP φ f f' h k x.2 g' s) c.bs (f s c g').2;rw[<-q0.1,<-q0.2];generalize kJ (fun(b:Tx×Co) s=>jN f k b.2 g' s) c.bs (f s c g').2=r0;cases r0.1 with
   |false=>exact⟨rfl,rfl⟩
   |true =>
    simp only[dQ];have q1:=hL (fun(b:Co) s=>jN f k b g' s) (fun(b:Co) s=>jN f' k b g' s) (fun x s=>MP φ f f' h k x g' s) c.ks r0.2;rw[<-q1.1,<-q1.2];generalize kJ (fun(b:Co) s=>jN f k b g' s) c.ks r0.2=r1;cases r1.1 with
    |false=>exact⟨rfl,rfl⟩
    |true =>simp only[dQ];exact hL (fun(b:Hd×Co) s=>jN f k b.2 (g'++b.1.vars) s) (fun(b:Hd×Co) s=>jN f' k b.2 (g'++b.1.vars) s) (fun x s=>MP φ f f' h k x.2 _ s) c.al r1.2
theorem zb0b{c:Co}{g so h:List Tx}(hn:pP c g so h=true):c.s∈so/\c.s∉h:=by
 unfold pP wI at hn;simp only[aC,Bool.not_eq_true',List.any_eq_true,List.any_eq_false]at hn;obtain⟨⟨_,x,hx,he⟩,h3⟩:=hn;have:x=c.s:=by simpa using he
 exact⟨this▸hx,fun hm=>h3 _ hm (by simp)⟩
abbrev uz(so:List Tx):Type:={h:List Tx // h.Nodup/\∀x∈h,x∈so}
theorem zhq{so:List Tx}(h:uz so)(c:Co)(g:List Tx):(dK (pP c g so h.1) (h.1++[c.s]) h.1).Nodup/\∀x∈(dK (pP c g so h.1) (h.1++[c.s]) h.1),x∈so:=by
 cases hn:pP c g so h.1 with
 |false=>exact h.2
 |true =>
  obtain⟨h1,h2⟩:=zb0b hn;simp only[dQ];refine⟨List.nodup_append.2 ⟨h.2.1,by simp,fun a ha b hb=>?_⟩,fun x hx=>?_⟩
  ·rw[bP]at hb;subst hb;exact fun e=>h2 (e▸ha)
  ·rcases bJ.1 hx with hx|hx
   ·exact h.2.2 x hx
   ·rw[bP]at hx;exact hx▸h1
theorem zyg(c:Co)(so:List Tx)(hw:Wf c)(hsz:c.size<10000000)(hs:so.length<10000000):eW U8 [dM c,dG so] ⟨false,dG (jO c.size c [] so [])⟩:=by
 have hrun:=zec (P:=SE) rfl rfl rfl (fun h:uz so=>tC so h.1) (fun h c g=>(true,⟨dK (pP c g so h.1) (h.1++[c.s]) h.1,zhq h c g⟩)) (.fn (.func TA) [] [.ptr 0 0,.ptr 1 0]) TA [.ptr 0 0,.ptr 1 0] rfl 2 20000000 (by omega) (fun _ _=>True) (fun _ _ _ _ _=>trivial) (fun _ _ _ _ _=>trivial) (fun _ _ _ _ _=>trivial)
  (fun s c g n hn _ hg _=>by
   obtain⟨n,rfl⟩:∃j,n=j+2:=⟨n-2,by omega⟩;have:=zdh s.1 so s.2.1 s.2.2;exact zyf so s.1 _ c (by omega) (by omega) (by omega) n) c.size c [] ⟨[],List.nodup_nil,fun x hx=>by cases hx⟩ (c.size+5) trivial (aM _) (by simp;omega) (by omega)
 have hmap:=MP (fun h:uz so=>h.1) (fun h c g=>(true,⟨dK (pP c g so h.1) (h.1++[c.s]) h.1,zhq h c g⟩)) (Z7 so) (fun s c g=>⟨rfl,rfl⟩) c.size c [] ⟨[],List.nodup_nil,fun x hx=>by cases hx⟩;rw[Vm so c.size c [] [] hw]at hmap;rw[hmap.1,hmap.2]at hrun;have hS0:tC so []=GA (GA cH rI [⟨false,dG so⟩]) rI [⟨false,.dN⟩]:=rfl;have hn1:(GA cH rI [⟨false,dG so⟩]).next=1:=rfl;have hn0:cH.next=0:=rfl;have okS:(dG so).ok=true:=qM;have ceS:(dG so).cells=[dG so]:=qZ;generalize jO c.size c [] so []=fr at *
 have ha1:dC (tC so fr).dE 1=some [⟨ow fr.length,dG fr⟩]:=rfl;have hof:=lP fr;have hU:=mH c;have hon:=kZ c;have e0:dG []=.dN:=rfl;refine eW.weak (o:=ow fr.length) rfl (uN (af:=QL) (n:=1) (O':={(tC so fr)with dE:=fF (tC so fr).dE 1 [⟨false,dG fr⟩]}) (uH SE (c.size+5)) rfl rfl (by simp[fO,mL,jY]) (jY _) ?_);rw[hU,e0]at hrun;simp only[hS0]at hrun;simp only[QL,sA,Nat.reduceAdd,Nat.reduceBEq,kn,fP,mB,hU,okS,ceS,hn0,hn1,hrun,ha1]
section
variable{N n:Nat}
def Ja(l:List Tx)(i:Nat):Env:={slots:=[(0,⟨false,.sT 3⟩),(5,⟨false,dG l⟩),(6,⟨false,.int .i64 l.length⟩),(7,⟨false,.int .i64 i⟩)],dR:=[],boxes:=[],defers:=[]}
theorem zhbb(l:List Tx)(i:Nat)(O O':Store)(hi:i<l.length)(hl:l.length<1000000000)(h1:V N (oV+3) [.str l[i]] O=some (.ret ⟨false,.bool true⟩,O')):exec (V N) n none T9 (Ja l i) O=some (.normal,Ja l (i+1),O'):=by
 have hlt:((i:Int)<(l.length:Int)):=by omega
 have w:=iE (i:=i) (by omega);have hx:=sZ l i hi;have hfn:D.mA (.sT 3)=some (oV+3,[],[]):=rfl;simp only[T9,Ja,sA,seval,kn,hlt,hx,hfn,h1,w]
theorem zj7b(l:List Tx)(O:Store){C:eV}:exec C n none T9 (Ja l l.length) O=some (.exit 0,{Ja l l.length with slots:=[(0,⟨false,.sT 3⟩),(5,⟨false,dG l⟩),(6,⟨false,.int .i64 l.length⟩),(7,⟨false,.int .i64 l.length⟩),(8,⟨false,.bool false⟩)]},O):=by
 have hlt:¬((l.length:Int)<(l.length:Int)):=by omega
 simp only[T9,Ja,sA,seval,kn,hlt]
end
theorem zxa(l:List Tx)(O:Store)(d:D)(hl:l.length<1000000000)(h:WS l O 0 d .ready)(N:Nat)(hN:l.length<N+1):∃O' d',V (N+2) TQ [.sT 3,.ptr 0 0] O=some (.ret ⟨false,.fN []⟩,O')/\WS l O' l.length d' .ready:=by
 obtain⟨r,hr,O',d',rfl,hw⟩:=Vu (body:=exec (V (N+1)) (N+1) none T9)
  (fun i e O=>∃d,e=Ja l i/\WS l O i d .ready)
  (fun r=>∃O' d',r=(.exit 0,{Ja l l.length with slots:=[(0,⟨false,.sT 3⟩),(5,⟨false,dG l⟩),(6,⟨false,.int .i64 l.length⟩),(7,⟨false,.int .i64 l.length⟩),(8,⟨false,.bool false⟩)]},O')/\WS l O' l.length d' .ready) l.length
  (fun i e O hi ⟨d,he,hw⟩=>by
   subst he;obtain⟨O',d',h1,h2⟩:=zaab hw hi (by omega) N;exact⟨_,_,zhbb l i O O' hi (by omega) h1,d',rfl,h2⟩)
  (fun e O ⟨d,he,hw⟩=>by
   subst he;exact⟨_,zj7b l O,fun _ _ h=>(by cases h),O,d,rfl,hw⟩) 0 (N+1) (Ja l 0) O (by omega) (by omega) ⟨d,rfl,h⟩
 refine⟨O',d',?_,hw⟩;rw[J2 (af:=RU) rfl rfl];have o0:=h.k.o0;simp only[Ja,iG]at hr;simp only[RU,sA,seval,kn,lE,o0,hr]
theorem zn6{r:Rw}{e:Env}{O:Store}:enterLoop none r e O=some (O.next+1,{e with defers:=(oV+O.next,[])::e.defers},{O with dP:=(O.next+1,.loop r)::(O.next,.yP)::O.dP,next:=O.next+2}):=rfl
def S1(l:List Tx):Store:={dE:=[(0,[⟨false,dG l⟩])],fH:=[(0,⟨rI,0⟩)],dP:=[],next:=1}
theorem zon(l:List Tx)(hl:l.length<1000000000)(hne:l≠[])(N:Nat)(hN:l.length<N+1):∃O4 a,V (N+3) IM [.dN,Yz] (S1 l)=some (.ret ⟨false,.arr dY a 0 l.length⟩,O4)/\dC O4.dE a=some (iM l)/\a<O4.next:=by
 obtain⟨O2,hO2⟩:∃O2:Store,O2={dE:=[(1,[⟨false,.dN⟩]),(0,[⟨false,dG l⟩])],fH:=[(1,⟨rI,0⟩),(0,⟨rI,0⟩)],dP:=[(3,.loop (RL .ready)),(2,.yP)],next:=4}:=⟨_,rfl⟩;have hw:WS l O2 0 .dN .ready:=by
  subst hO2;exact⟨⟨rfl,rfl,aM _,.inl ⟨rfl,rfl⟩⟩,rfl,rfl⟩
 obtain⟨O3,d',hv,h3⟩:=zxa l O2 .dN hl hw N hN;have hpos:l.length≠0:=fun h=>hne (aR.1 h);obtain⟨a,rfl,ha4,xm,hao,hat⟩:∃a,d'=.arr dY a 0 l.length/\4<=a/\a<O3.next/\dC O3.dE a=some (iM (l.take l.length))/\dC O3.fH a=some ⟨dY.el,dY.sz⟩:=by
  rcases h3.k.dd with h|h
  ·exact absurd h.1 hpos
  ·exact h
 rw[aV]at hao;refine⟨{dE:=fF O3.dE 1 [⟨false,.arr dY a 0 l.length⟩],fH:=O3.fH,dP:=gI (gI O3.dP 3) 2,next:=O3.next},a,?_,?_,xm⟩
 ·rw[J2 (af:=KQ) rfl rfl];have hfn:D.Di Yz=some (TQ,[],[.ptr 0 0]):=rfl;have l3:xI O3 3=some (RL .ready):=by simp only[xI,h3.r,dH,eP]
  have he:∀e:Env,endLoop 3 e O3=some (.normal,e,{O3 with dP:=gI O3.dP 3}):=fun e=>by
   simp only[endLoop,l3,dH,eP];rfl
  have o1:=h3.k.o1;have hY:jK (oV+2)=true:=rfl;have hsub:oV+2-oV=2:=rfl;have hm:dC (gI O3.dP 3) 2=some .yP:=by rw[mK,if_neg (by decide),h3.m]
  rw[hO2]at hv;simp only[RL,JW]at hv;simp only[S1,KQ,sA,seval,kn,fP,mE,Fo,zn6,hfn,hv,he,o1,hY,hsub,hm]
 ·show dC (fF O3.dE 1 _) a=_;rw[jM,if_neg (by omega),hao]
theorem zds(l:List Tx):(vK l).length=l.length:=by simp[vK]
theorem zc2b(k:RowK)(hk:k.sz=1)(l:List Tx)(hne:l≠[])(hl:l.length<1000000000)(a:Nat)(O:Store)(h:dC O.dE a=some (iM l))(n:Nat):V (n+1) Ni [.arr k a 0 l.length] O=some (.ret ⟨false,.fN []⟩,{O with dE:=fF O.dE a (iM (vK l))}):=by
 rw[zim rfl rfl];have hx:Xc Ni [.arr k a 0 l.length] O=JC [.arr k a 0 l.length] O:=rfl;have hpos:l.length≠0:=fun h=>hne (aR.1 h);have e1:decide (0<l.length)=true:=decide_eq_true (by omega);have e2:decide (l.length<=iN)=true:=decide_eq_true (show l.length<=1099511627776 by omega);have e3:(k.sz==1)=true:=by rw[hk];rfl
 rw[hx];simp only[JC,h,dH,eP,Js,bW,e1,e2,e3,aY,dQ,XW]
theorem zrn(k:RowK)(hk:k.sz=1)(l:List Tx)(hne:l≠[])(hl:l.length<1000000000)(a:Nat)(O:Store)(h:dC O.dE a=some (iM l))(n:Nat):∃O',V (n+1) Nh [.arr k a 0 l.length] O=some (.ret ⟨false,.arr k a 0 (Lib.compact l).length⟩,O'):=by
 rw[zim rfl rfl];have hx:Xc Nh [.arr k a 0 l.length] O=DI [.arr k a 0 l.length] O:=rfl;have hpos:l.length≠0:=fun h=>hne (aR.1 h);have e1:decide (0<l.length)=true:=decide_eq_true (by omega);have e2:decide (l.length<=iN)=true:=decide_eq_true (show l.length<=1099511627776 by omega);have e3:(k.sz==1)=true:=by rw[hk];rfl
 rw[hx];exact⟨_,by simp only[DI,h,dH,eP,Js,bW,e1,e2,e3,aY,dQ,XW];rfl⟩
theorem zwj(l:List Tx)(hl:l.length<1000000000)(hne:l≠[])(N:Nat)(hN:l.length<N+1):∃O5 a,V (N+5) zj5 [Yz] (S1 l)=some (.ret ⟨false,.arr dY a 0 l.length⟩,O5)/\dC O5.dE a=some (iM (vK l))/\a<O5.next:=by
 obtain⟨O4,a,h1,h2,h3⟩:=zon l hl hne N hN;have hc:V (N+4) zj4 [Yz] (S1 l)=some (.ret ⟨false,.arr dY a 0 l.length⟩,O4):=by
  rw[J2 (af:=RP) rfl rfl];simp only[RP,sA,seval,kn,h1]
 have hs:=zc2b dY rfl l hne hl a O4 h2 (N+3);refine⟨{O4 with dE:=fF O4.dE a (iM (vK l))},a,?_,?_,h3⟩
 ·rw[J2 (af:=RQ) rfl rfl];simp only[RQ,sA,seval,kn,hc,hs]
 ·show dC (fF O4.dE a _) a=_;rw[jM,if_pos rfl]
theorem zbm(l:List Tx):iM l=cellsOf (l.map D.str):=by
 induction l with
 |nil=>rfl
 |cons x r ih =>simp only[iM,aO,cellsOf]at ih ⊢;rw[ih];rfl
theorem zd1:∀l:List Tx,jZ dY.sz (l.map D.str)=true
 |[]=>rfl
 |x::r=>by simp only[aO,jZ,zd1 r];rfl
theorem zx3(l:List Tx)(hl:l.length<1000000000)(a:Nat)(O:Store)(h:dC O.dE a=some (iM l))(ha:a<O.next)(n:Nat):∃O' b,V (n+1) Dl [.arr dY a 0 l.length] O=some (.ret ⟨false,.arr dY b 0 l.length⟩,O')/\dC O'.dE b=some (iM l):=by
 have e:∀d∈l.map D.str,d.cells.length=dY.sz/\Hq dY d.cells=d:=fun d hd=>by
  obtain⟨x,_,rfl⟩:=bF.1 hd;exact⟨rfl,rfl⟩
 have he:=WM e;rw[aJ,<-zbm]at he;obtain⟨Ox,VP⟩:∃Ox,Ox=fR O dY []:=⟨_,rfl⟩;have n1:(O.next==a)=false:=beq_false_of_ne (by omega);have kE:nB Ox.dE (.arr dY a 0 l.length)=some (l.map D.str):=by
  have hg:dC Ox.dE a=some (iM l):=(by subst VP;show dC ((O.next,[])::O.dE) a=_;rw[dC,n1,dX,h]);have e0:decide ((0+l.length)*dY.sz<=(iM l).length)=true:=by rw[Js];simp[dY]
  have ek:(dY.ag||dY.sz==1)=true:=rfl;simp only[nB,hg,dH,eP,ek,e0,aY,dQ,he]
 have hap:lR Ox dY 16 (.arr dY O.next 0 0) (l.map D.str)=some (.arr dY Ox.next 0 (0+l.length),fR {Ox with dE:=gI Ox.dE O.next} dY (iM l)):=(by have hg:dC Ox.dE O.next=some []:=(by subst VP;show dC ((O.next,[])::O.dE) O.next=_;rw[dC,bW,dQ]);have ht:dC Ox.fH O.next=some ⟨dY.el,dY.sz⟩:=(by subst VP;show dC ((O.next,_)::O.fH) O.next=_;rw[dC,bW,dQ]);have ek:dY.same dY=true:=rfl;have e0:decide (0*dY.sz<=([]:List Cell).length)=true:=rfl;have e1:decide ((0+l.length)*16<=iN)=true:=decide_eq_true (show(0+l.length)*16<=1099511627776 by omega);have e2:decide (0+l.length<=iN)=true:=decide_eq_true (show 0+l.length<=1099511627776 by omega);simp only[lR,zd1,dQ,hg,ht,dH,eP,ek,bW,aJ,e0,e1,e2,aY,List.take_nil,aZ,bG,zbm]);rw[aN]at hap;refine⟨fR {Ox with dE:=gI Ox.dE O.next} dY (iM l),Ox.next,?_,?_⟩
 ·rw[J2 (af:=Oi) rfl rfl];have hbu:fR O dY (cellsOf [])=Ox:=by rw[VP];rfl
  simp only[Oi,sA,seval,kn,fP,mE,hbu,kE,hap]
 ·show dC ((Ox.next,iM l)::_) Ox.next=_;rw[dC,bW,dQ]
theorem zp9(l:List Tx)(hl:l.length<1000000000)(hne:l≠[]):eW yG [dG l] ⟨false,.bool (decide ((Lib.compact (vK l)).length<l.length))⟩:=by
 obtain⟨O5,a,h1,h2,h3⟩:=zwj l hl hne l.length (by omega);have hsl:=zds l;have hs0:vK l≠[]:=fun h=>by
  rw[h]at hsl;exact hne (aR.1 hsl.symm)
 obtain⟨O6,b,h4,h5⟩:=zx3 (vK l) (by omega) a O5 h2 h3 (l.length+4);obtain⟨O7,h6⟩:=zrn dY rfl (vK l) hs0 (by omega) b O6 h5 (l.length+4);rw[hsl]at h4 h6;have hv:V (l.length+5) zj6 [dG l] cH=some (.ret ⟨false,Yz⟩,S1 l):=by
  rw[J2 (af:=RS) rfl rfl];have hok:(dG l).ok=true:=by cases l<;>rfl
  have hce:(dG l).cells=[dG l]:=by cases l<;>rfl
  simp only[RS,sA,seval,kn,fP,mE,cH,Yz,S1,hok,hce]
 have hlen:∀(m:Nat),decide ((m:Int)<(l.length:Int))=decide (m<l.length):=fun m=>by
  by_cases h:m<l.length
  ·rw[decide_eq_true h,decide_eq_true (by omega)]
  ·rw[decide_eq_false h,decide_eq_false (by omega)]
 have hok:=Γa_holds yG K3 rfl;obtain⟨hY,fn,hfn,hok⟩:=hok;refine LF (zdtb (l.length+5)) Gt hY hfn hok rfl (by simp[fO,jY]) rfl (n:=1) (O':=O7) ?_;have hr:nA Ra (fun _ _ _=>none) K3 0 (exec (V (l.length+5)) 1 none K3.body (mX [dG l]) cH)=some (.ret ⟨false,.bool (decide ((Lib.compact (vK l)).length<l.length))⟩,O7):=(by rw[<-hlen];simp only[K3,sA,seval,kn,hv,h1,h4,h6]);unfold nA at hr;exact hr
theorem zq5(l:List Tx):iQ l=true↔¬l.Nodup:=by
 constructor
 ·intro h hn;unfold iQ at h;obtain⟨i,hi,h⟩:=List.any_eq_true.1 h;obtain⟨k,hk,h⟩:=List.any_eq_true.1 h;have hi:=List.mem_range.1 hi;have hk:=List.mem_range.1 hk;rw[iU _ _ _ hi,iU _ _ _ (by omega)]at h;have he:l[i]=l[k]:=by simpa using h
  have:=(List.getElem_inj hn).1 he;omega
 ·intro h;refine Classical.byContradiction fun hf=>h ?_;rw[List.nodup_iff_pairwise_ne,List.pairwise_iff_getElem];intro k i hk hi hki he;apply hf;refine List.any_eq_true.2 ⟨i,List.mem_range.2 hi,List.any_eq_true.2 ⟨k,List.mem_range.2 hki,?_⟩⟩;rw[iU _ _ _ hi,iU _ _ _ hk,he];simp
theorem zuw(z:List Tx):(Lib.compact z).length<z.length↔∃j,0<j/\j<z.length/\z.toArray[j]! =z.toArray[j-1]!:=by
 have hlen:(Lib.compact z).length=((List.range z.length).filter (Lib.keeps z.toArray)).length:=(by unfold Lib.compact Lib.compactUpTo;rw[aJ]);rw[hlen];constructor
 ·intro h;refine Classical.byContradiction fun hn=>?_;have hall:(List.range z.length).filter (Lib.keeps z.toArray)=List.range z.length:=by
   rw[List.filter_eq_self];intro j hj;have hj:=List.mem_range.1 hj;refine Classical.byContradiction fun hk=>hn ?_;by_cases h0:0<j
   ·refine⟨j,h0,hj,Classical.byContradiction fun hne=>hk (Lib.keeps_pos hne)⟩
   ·exact absurd (Lib.keeps_lt_one z.toArray j (by omega)) hk
  rw[hall,List.length_range]at h;omega
 ·rintro⟨j,h0,hj,he⟩;have hk:=Lib.keeps_neg h0 he;refine Nat.lt_of_le_of_ne (Nat.le_trans (List.length_filter_le _ _) (by simp)) fun hc=>?_;have hall:=List.length_filter_eq_length_iff.1 (hc.trans (List.length_range).symm);have:=hall j (List.mem_range.2 hj);rw[hk]at this;cases this
theorem zllb(a b c:Tx):decide (a<=b)=true->decide (b<=c)=true->decide (a<=c)=true:=fun h1 h2=>decide_eq_true (List.le_trans (of_decide_eq_true h1) (of_decide_eq_true h2))
theorem ziyb(a b:Tx):(decide (a<=b)||decide (b<=a))=true:=by
 rcases List.le_total a b with h|h
 ·rw[decide_eq_true h];rfl
 ·rw[decide_eq_true h,Bool.or_true]
theorem zc1b(l:List Tx):(vK l).Pairwise fun a b=>a<=b:=by have h:=List.pairwise_mergeSort (le:=fun x y:Tx=>decide (x<=y)) zllb ziyb l;exact h.imp fun h=>of_decide_eq_true h
theorem zxk(z:List Tx)(hp:z.Pairwise fun a b=>a<=b):(∃j,0<j/\j<z.length/\z.toArray[j]! =z.toArray[j-1]!)↔¬z.Nodup:=by
 have hget:∀j (hj:j<z.length),z.toArray[j]! =z[j]:=fun j hj=>by simp[hj]
 constructor
 ·rintro⟨j,h0,hj,he⟩ hn;rw[hget j hj,hget (j-1) (by omega)]at he;have:=(List.getElem_inj hn).1 he;omega
 ·intro h;refine Classical.byContradiction fun hf=>h ?_;rw[List.nodup_iff_pairwise_ne,List.pairwise_iff_getElem];intro i k hi hk hik he;apply hf;refine⟨i+1,by omega,by omega,?_⟩;rw[hget (i+1) (by omega),hget (i+1-1) (by omega)];have hpw:=List.pairwise_iff_getElem.1 hp;have h1:z[i]<=z[i+1]'(by omega):=hpw i (i+1) hi (by omega) (by omega);have h2:z[i+1]'(by omega)<=z[k]:=by
   by_cases hk1:i+1=k
   ·subst hk1;exact List.le_refl _
   ·exact hpw (i+1) k (by omega) hk (by omega)
  rw[<-he]at h2;exact List.le_antisymm h2 h1
theorem zdcb(l:List Tx):decide ((Lib.compact (vK l)).length<l.length)=iQ l:=by have hperm:(vK l).Perm l:=List.mergeSort_perm l _;have hl:=zds l;rw[Bool.eq_iff_iff,cE,zq5,<-hperm.nodup_iff,<-zxk _ (zc1b l),<-zuw,hl]
theorem zr1(l:List Tx)(hl:l.length<1000000000)(hne:l≠[]):eW yG [dG l] ⟨false,.bool (iQ l)⟩:=by rw[<-zdcb];exact zp9 l hl hne
set_option maxRecDepth 100000
def zkl(n:Nat):Bool:=match pS Γa Ra Xa n false yG [.dN] {dE:=[],fH:=[],dP:=[],next:=0}with
 |some (.ret ⟨false,.bool false⟩,_)=>true
 |_=>false
theorem zwy:zkl 30=true:=by kernel_rfl
theorem zve:eW yG [dG []] ⟨false,.bool (iQ [])⟩:=by
 intro O;have h:=zwy;unfold zkl at h;split at h
 ·rename_i s hx;exact XG rfl ((NF Γa_holds Gt CL 30).1 _ [.dN] cH _ _ hx) rfl rfl O
 ·cases h
theorem zvd(l:List Tx)(hl:l.length<1000000000):eW yG [dG l] ⟨false,.bool (iQ l)⟩:=by
 by_cases h:l=[]
 ·subst h;exact zve
 ·exact zr1 l hl h
def zke:List D->Cell->Prop:=fun ds c=>∀l,ds=[dG l]->c=⟨false,.bool (iQ l)⟩
theorem UJ{S:fC}(hS:dC S yG=some zke)(l:List Tx)(hl:l.length<1000000000)(n:Nat)(O:Store):W S (n+1) yG [dG l] O=some (.ret ⟨false,.bool (iQ l)⟩,O):=by
 obtain⟨c,h1,h2⟩:=vH (S:=S) hS rfl (c:=⟨false,.bool (iQ l)⟩) (fun l' e=>by
  simp only[aL,and_true]at e;rw[lN e]) (zvd l hl)
 rw[h2,h1 l rfl]
theorem D8(b:Su):dU b=.agg [.str b.name,dG b.ps,.int .i64 b.body.f,.int .i64 b.body.n,.str b.body.s,.int .i64 0,.int .i64 0,.str [],.dN,kD b.body,bD b.body,aD b.body]:=rfl
def Px:D:=.fn (.func Ik) [] []
def MH:List D->Cell->Prop:=fun ds c=>∀b:Su,ds=[dU b]->c=⟨false,.str b.name⟩
theorem zqf(b:Su):eW Ik [dU b] ⟨false,.str b.name⟩:=by
 have hn:fO [dU b]=true:=by simp[fO,CX]
 have hon:=kZ b.body;have sQ:=lP b.ps;refine jH (af:=QO) (n:=1) (O':=cH) (jG [] 1) rfl rfl hn rfl ?_;simp only[QO,D8,sA,seval,kn]
theorem zpv{S:fC}(hS:dC S Ik=some MH)(b:Su)(n:Nat)(O:Store):T S (n+1) Ik [dU b] O=some (.ret ⟨false,.str b.name⟩,O):=by
 obtain⟨c,h1,h2⟩:=lD (S:=S) hS rfl (c:=⟨false,.str b.name⟩) (fun a h=>by
  simp only[aL,and_true]at h;rw[Xb h]) (zqf b)
 rw[h2,h1 b rfl]
section
variable{C:eV}{n:Nat}{O:Store}
def Pi(bs:List Su)(i:Nat):Env:={slots:=[(1,⟨false,Px⟩),(5,⟨ow i,dG ((bs.take i).map Su.name)⟩),(8,⟨false,eG bs⟩),(9,⟨false,.int .i64 bs.length⟩),(10,⟨false,.int .i64 i⟩)],dR:=[],boxes:=[],defers:=[]}
theorem zsd(bs:List Su)(i:Nat)(h:i<bs.length)(hl:bs.length<1000000000)(h1:∀b O,C Ik [dU b] O=some (.ret ⟨false,.str b.name⟩,O)):exec C n none J8 (Pi bs i) O=some (.normal,Pi bs (i+1),O):=by
 have hlt:((i:Int)<(bs.length:Int)):=by omega
 have w:=iE (i:=i) (by omega);have hx:=zL bs i h
 have ha:=Bf ((bs.take i).map Su.name) bs[i].name (ow i) (fun hne=>by
  cases i with
  |zero=>exact absurd rfl hne
  |succ i=>rfl) (by simp;omega)
 have e2:(bs.take i).map Su.name++[bs[i].name]=(bs.take (i+1)).map Su.name:=by rw[<-mC bs i h,aU];rfl
 rw[e2]at ha;have h2:=h1 bs[i] O;have hfn:D.mA Px=some (Ik,[],[]):=rfl;generalize bs[i]=b at hx ha h2;have hon:=kZ b.body;have sQ:=lP b.ps;rw[D8]at hx h2;simp only[J8,Pi,sA,seval,kn,hlt,hx,hfn,h2,ha,w,rA]
theorem zvx(bs:List Su):exec C n none J8 (Pi bs bs.length) O=some (.exit 0,{Pi bs bs.length with slots:=[(1,⟨false,Px⟩),(5,⟨ow bs.length,dG ((bs.take bs.length).map Su.name)⟩),(8,⟨false,eG bs⟩),(9,⟨false,.int .i64 bs.length⟩),(10,⟨false,.int .i64 bs.length⟩),(11,⟨false,.bool false⟩)]},O):=by
 have hlt:¬((bs.length:Int)<(bs.length:Int)):=by omega
 simp only[J8,Pi,sA,seval,kn,hlt]
end
theorem zqh(bs:List Su)(hl:bs.length<300000000):eW HV [eG bs,Px] ⟨false,dG (bs.map Su.name)⟩:=by refine eW.weak (o:=ow bs.length) rfl (jH (af:=QN) (n:=1000000000) (O':=cH) (jG [(Ik,MH)] 1) rfl rfl (by simp[fO,uD,Px,iF]) (jY _) ?_);have h0:=nI (body:=exec (T [(Ik,MH)] 1) 1000000000 none J8) (fun i=>Pi bs i) (fun _=>cH) bs.length (r:=_) (fun _ _ h=>by cases h) (fun i hi=>zsd bs i hi (by omega) (fun x O=>zpv (S:=[(Ik,MH)]) rfl x 0 O)) (zvx bs) 0 1000000000 (by omega) (by omega);rw[aV]at h0;have e0:(bs.take 0).map Su.name=[]:=rfl;have e1:dG []=.dN:=rfl;have hln:=nY bs;simp only[Pi,iG,e0,e1,yW]at h0;simp only[QN,sA,seval,kn,hln,h0]
def zcb:List D->Cell->Prop:=fun ds c=>∀bs:List Su,ds=[eG bs,Px]->c=⟨false,dG (bs.map Su.name)⟩
theorem zxj{S:fC}(hS:dC S HV=some zcb)(bs:List Su)(hl:bs.length<300000000)(n:Nat)(O:Store):W S (n+1) HV [eG bs,Px] O=some (.ret ⟨false,dG (bs.map Su.name)⟩,O):=by
 obtain⟨c,h1,h2⟩:=vH (S:=S) hS rfl (c:=⟨false,dG (bs.map Su.name)⟩) (fun a h=>by
  simp only[aL,and_true]at h;rw[DX h]) (zqh bs hl)
 rw[h2,h1 bs rfl]
theorem zf6(b:Fd):dF b=.agg [.str b.name,.int .i64 b.tag,.int .i64 b.many,.int .i64 b.arity,.int .i64 0,.int .i64 0,.str [],.dN]:=rfl
def Pv:D:=.fn (.func Ij) [] []
def MG:List D->Cell->Prop:=fun ds c=>∀b:Fd,ds=[dF b]->c=⟨false,.str b.name⟩
theorem zqe(b:Fd):eW Ij [dF b] ⟨false,.str b.name⟩:=by have hn:fO [dF b]=true:=rfl;refine jH (af:=QJ) (n:=1) (O':=cH) (jG [] 1) rfl rfl hn rfl ?_;simp only[QJ,zf6,sA,seval,kn]
theorem zpu{S:fC}(hS:dC S Ij=some MG)(b:Fd)(n:Nat)(O:Store):T S (n+1) Ij [dF b] O=some (.ret ⟨false,.str b.name⟩,O):=by
 obtain⟨c,h1,h2⟩:=lD (S:=S) hS rfl (c:=⟨false,.str b.name⟩) (fun a h=>by
  simp only[aL,and_true]at h;rw[zho h]) (zqe b)
 rw[h2,h1 b rfl]
section
variable{C:eV}{n:Nat}{O:Store}
def Ph(bs:List Fd)(i:Nat):Env:={slots:=[(1,⟨false,Pv⟩),(5,⟨ow i,dG ((bs.take i).map Fd.name)⟩),(8,⟨false,gJ bs⟩),(9,⟨false,.int .i64 bs.length⟩),(10,⟨false,.int .i64 i⟩)],dR:=[],boxes:=[],defers:=[]}
theorem zsc(bs:List Fd)(i:Nat)(h:i<bs.length)(hl:bs.length<1000000000)(h1:∀b O,C Ij [dF b] O=some (.ret ⟨false,.str b.name⟩,O)):exec C n none J7 (Ph bs i) O=some (.normal,Ph bs (i+1),O):=by
 have hlt:((i:Int)<(bs.length:Int)):=by omega
 have w:=iE (i:=i) (by omega);have hx:=Hn bs i h
 have ha:=Bf ((bs.take i).map Fd.name) bs[i].name (ow i) (fun hne=>by
  cases i with
  |zero=>exact absurd rfl hne
  |succ i=>rfl) (by simp;omega)
 have e2:(bs.take i).map Fd.name++[bs[i].name]=(bs.take (i+1)).map Fd.name:=by rw[<-mC bs i h,aU];rfl
 rw[e2]at ha;have h2:=h1 bs[i] O;have hfn:D.mA Pv=some (Ij,[],[]):=rfl;generalize bs[i]=b at hx ha h2;rw[zf6]at hx h2;simp only[J7,Ph,sA,seval,kn,hlt,hx,hfn,h2,ha,w,rA]
theorem zvw(bs:List Fd):exec C n none J7 (Ph bs bs.length) O=some (.exit 0,{Ph bs bs.length with slots:=[(1,⟨false,Pv⟩),(5,⟨ow bs.length,dG ((bs.take bs.length).map Fd.name)⟩),(8,⟨false,gJ bs⟩),(9,⟨false,.int .i64 bs.length⟩),(10,⟨false,.int .i64 bs.length⟩),(11,⟨false,.bool false⟩)]},O):=by
 have hlt:¬((bs.length:Int)<(bs.length:Int)):=by omega
 simp only[J7,Ph,sA,seval,kn,hlt]
end
theorem zqg(bs:List Fd)(hl:bs.length<300000000):eW GZ [gJ bs,Pv] ⟨false,dG (bs.map Fd.name)⟩:=by refine eW.weak (o:=ow bs.length) rfl (jH (af:=QM) (n:=1000000000) (O':=cH) (jG [(Ij,MG)] 1) rfl rfl (by simp[fO,Jr,Pv,iF]) (jY _) ?_);have h0:=nI (body:=exec (T [(Ij,MG)] 1) 1000000000 none J7) (fun i=>Ph bs i) (fun _=>cH) bs.length (r:=_) (fun _ _ h=>by cases h) (fun i hi=>zsc bs i hi (by omega) (fun x O=>zpu (S:=[(Ij,MG)]) rfl x 0 O)) (zvw bs) 0 1000000000 (by omega) (by omega);rw[aV]at h0;have e0:(bs.take 0).map Fd.name=[]:=rfl;have e1:dG []=.dN:=rfl;have hln:=uU bs;simp only[Ph,iG,e0,e1,yW]at h0;simp only[QM,sA,seval,kn,hln,h0]
def zca:List D->Cell->Prop:=fun ds c=>∀bs:List Fd,ds=[gJ bs,Pv]->c=⟨false,dG (bs.map Fd.name)⟩
theorem zxi{S:fC}(hS:dC S GZ=some zca)(bs:List Fd)(hl:bs.length<300000000)(n:Nat)(O:Store):W S (n+1) GZ [gJ bs,Pv] O=some (.ret ⟨false,dG (bs.map Fd.name)⟩,O):=by
 obtain⟨c,h1,h2⟩:=vH (S:=S) hS rfl (c:=⟨false,dG (bs.map Fd.name)⟩) (fun a h=>by
  simp only[aL,and_true]at h;rw[zmrb h]) (zqg bs hl)
 rw[h2,h1 bs rfl]
section
variable{C:eV}{n:Nat}
def vT(l:List (Su))(g:D)(i:Nat):Env:={slots:=[(0,⟨false,eG l⟩),(1,⟨false,g⟩),(7,⟨false,.int .i64 l.length⟩),(8,⟨false,.int .i64 i⟩)],dR:=[],boxes:=[],defers:=[]}
theorem zop(l:List (Su))(g:D)(jJ:Nat)(ca:List D)(hg:D.mA g=some (jJ,[],ca))(i:Nat)(h:i<l.length)(hl:l.length<1000000000)(O O':Store)(h1:C jJ (dU l[i]::ca) O=some (.ret ⟨false,.bool false⟩,O')):exec C n none Ew (vT l g i) O=some (.normal,vT l g (i+1),O'):=by
 have hlt:((i:Int)<(l.length:Int)):=by omega
 have w:=iE (i:=i) (by omega);have hx:=zL l i h;have hln:=nY l;generalize l[i]=x at hx h1;have hon:=kZ x.body;have sQ:=lP x.ps;rw[D8]at hx h1;simp only[Ew,vT,sA,seval,kn,hlt,hx,hg,h1,w]
theorem zpy(l:List (Su))(g:D)(O:Store):exec C n none Ew (vT l g l.length) O=some (.exit 0,{vT l g l.length with slots:=[(0,⟨false,eG l⟩),(1,⟨false,g⟩),(7,⟨false,.int .i64 l.length⟩),(8,⟨false,.int .i64 l.length⟩),(9,⟨false,.bool false⟩)]},O):=by
 have hlt:¬((l.length:Int)<(l.length:Int)):=by omega
 have hln:=nY l;simp only[Ew,vT,sA,seval,kn,hlt]
end
def oP'(l:List (Hd×Co)):D:=gX jC (l.map dA)
theorem zgn(l:List (Hd×Co))(i:Nat)(h:i<l.length):kU 14 (oP' l) i=some (.gC (dA l[i])):=uJ rfl dA _ i h
theorem OO(l:List (Hd×Co)):lenOf (oP' l)=some l.length:=uK _ l
section
variable{C:eV}{n:Nat}
def vU(l:List (Hd×Co))(g:D)(i:Nat):Env:={slots:=[(0,⟨false,oP' l⟩),(1,⟨false,g⟩),(7,⟨false,.int .i64 l.length⟩),(8,⟨false,.int .i64 i⟩)],dR:=[],boxes:=[],defers:=[]}
theorem zrl(l:List (Hd×Co))(g:D)(jJ:Nat)(ca:List D)(hg:D.mA g=some (jJ,[],ca))(i:Nat)(h:i<l.length)(hl:l.length<1000000000)(O O':Store)(h1:C jJ (dA l[i]::ca) O=some (.ret ⟨false,.bool false⟩,O')):exec C n none Eu (vU l g i) O=some (.normal,vU l g (i+1),O'):=by
 have hlt:((i:Int)<(l.length:Int)):=by omega
 have w:=iE (i:=i) (by omega);have hx:=zgn l i h;have hln:=OO l;generalize l[i]=x at hx h1;have hon:=kZ x.2;have sQ:=lP x.1.vars;rw[vX]at hx h1;simp only[Eu,vU,sA,seval,kn,hlt,hx,hg,h1,w]
theorem zus(l:List (Hd×Co))(g:D)(O:Store):exec C n none Eu (vU l g l.length) O=some (.exit 0,{vU l g l.length with slots:=[(0,⟨false,oP' l⟩),(1,⟨false,g⟩),(7,⟨false,.int .i64 l.length⟩),(8,⟨false,.int .i64 l.length⟩),(9,⟨false,.bool false⟩)]},O):=by
 have hlt:¬((l.length:Int)<(l.length:Int)):=by omega
 have hln:=OO l;simp only[Eu,vU,sA,seval,kn,hlt]
end
def Ar:Fd:=⟨[],0,0,0⟩
section
variable{C:eV}{n:Nat}{O:Store}
def Gn(l:List Fd)(g:D)(i:Nat):Env:={slots:=[(0,⟨false,gJ l⟩),(1,⟨false,g⟩),(7,⟨false,.int .i64 l.length⟩),(8,⟨false,.int .i64 i⟩)],dR:=[],boxes:=[],defers:=[]}
theorem zpo(l:List Fd)(g:D)(jJ:Nat)(ca:List D)(q:Fd->Bool)(hg:D.mA g=some (jJ,[],ca))(i:Nat)(h:i<l.length)(hl:l.length<1000000000)(h1:C jJ (dF (l.getD i Ar)::ca) O=some (.ret ⟨false,.bool (q (l.getD i Ar))⟩,O))(hq:q (l.getD i Ar)=false):exec C n none Sz (Gn l g i) O=some (.normal,Gn l g (i+1),O):=by
 have hlt:((i:Int)<(l.length:Int)):=by omega
 have w:=iE (i:=i) (by omega);have hx:=Hn l i h;rw[<-iU l i Ar h]at hx;rw[hq]at h1;generalize l.getD i Ar=f at hx h1;simp only[dF]at hx h1;simp only[Sz,Gn,sA,seval,kn,hlt,hx,hg,h1,w]
theorem zpp(l:List Fd)(g:D)(jJ:Nat)(ca:List D)(q:Fd->Bool)(hg:D.mA g=some (jJ,[],ca))(i:Nat)(h:i<l.length)(h1:C jJ (dF (l.getD i Ar)::ca) O=some (.ret ⟨false,.bool (q (l.getD i Ar))⟩,O))(hq:q (l.getD i Ar)=true):exec C n none Sz (Gn l g i) O=some (.ret,{slots:=[(4,⟨false,.int .i64 i⟩)],dR:=[],boxes:=[],defers:=[]},O):=by
 have hlt:((i:Int)<(l.length:Int)):=by omega
 have hx:=Hn l i h;rw[<-iU l i Ar h]at hx;rw[hq]at h1;generalize l.getD i Ar=f at hx h1;simp only[dF]at hx h1;simp only[Sz,Gn,sA,seval,kn,hlt,hx,hg,h1]
theorem zq8(l:List Fd)(g:D):exec C n none Sz (Gn l g l.length) O=some (.exit 0,{Gn l g l.length with slots:=[(0,⟨false,gJ l⟩),(1,⟨false,g⟩),(7,⟨false,.int .i64 l.length⟩),(8,⟨false,.int .i64 l.length⟩),(9,⟨false,.bool false⟩)]},O):=by
 have hlt:¬((l.length:Int)<(l.length:Int)):=by omega
 simp only[Sz,Gn,sA,seval,kn,hlt]
end
theorem zp0{S:fC}(hs1:iV S qf=false)(hs2:iV S IP=false)(N:Nat)(l:List Fd)(g:D)(jJ:Nat)(ca:List D)(q:Fd->Bool)(hg:D.mA g=some (jJ,[],ca))(hl:l.length<1000000000)(hN:l.length<N)(O:Store)
  (hc:∀i,i<l.length->W S N jJ (dF (l.getD i Ar)::ca) O=some (.ret ⟨false,.bool (q (l.getD i Ar))⟩,O)):W S (N+2) IP [gJ l,g] O=some (.ret ⟨false,.bool (l.any q)⟩,O):=by
 have hr:=BC (body:=exec (W S N) N none Sz) (Gn l g) (fun _=>O) l.length (fun i=>!(q (l.getD i Ar))) (r:=_) (fun i=>(.ret,{slots:=[(4,⟨false,.int .i64 i⟩)],dR:=[],boxes:=[],defers:=[]},O)) (fun _ _ h=>by cases h) (fun _ _ _ h=>by cases h) (fun i hi hq=>zpo l g jJ ca q hg i hi hl (hc i hi) (by simpa using hq)) (fun i hi hq=>zpp l g jJ ca q hg i hi (hc i hi) (by simpa using hq)) (zq8 l g) N 0 (Nat.zero_le _) (by omega);simp only[Gn,iG]at hr;have hv:∃v:Int,W S (N+1) qf [gJ l,g] O=some (.ret ⟨false,.int .i64 v⟩,O)/\(v≥0↔l.any q=true):=by
  rcases hr with⟨i,_,hi,hq,_,h⟩|⟨hq,h⟩
  ·refine⟨i,?_,fun _=>?_,fun _=>by omega⟩
   ·rw[fW (af:=R7) hs1 rfl rfl];simp only[R7,sA,seval,kn,uU,h]
   ·rw[iU _ _ _ hi]at hq;exact List.any_eq_true.2 ⟨_,aX hi,by simpa using hq⟩
  ·refine⟨-1,?_,fun h=>by omega,fun ha=>?_⟩
   ·rw[fW (af:=R7) hs1 rfl rfl];simp only[R7,sA,seval,kn,uU,h]
   ·obtain⟨x,hx,hxs⟩:=List.any_eq_true.1 ha;obtain⟨i,hi,rfl⟩:=List.getElem_of_mem hx;have:=hq i (Nat.zero_le _) hi;rw[iU _ _ _ hi,hxs]at this;cases this
 obtain⟨v,h1,h2⟩:=hv;rw[fW (af:=FY) hs2 rfl rfl];cases hb:l.any q with
 |true =>have hv:v≥0:=h2.2 hb;simp only[FY,sA,seval,kn,h1,hv]
 |false =>
  have hv:¬v≥0:=fun h=>by rw[h2.1 h]at hb;cases hb
  simp only[FY,sA,seval,kn,h1,hv]
end Go.Fu
