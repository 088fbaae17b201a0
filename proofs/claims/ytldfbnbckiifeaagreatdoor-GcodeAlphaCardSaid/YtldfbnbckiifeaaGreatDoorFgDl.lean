/-
 What stands behind a case's alternatives: the ends that are told later.
-/
import Derived.Test.YtldfbnbckiifeaaGreatDoorFgDh
import Derived.Test.YtldfbnbckiifeaaGreatDoorFgZa
import Derived.Test.YtldfbnbckiifeaaGreatDoorFgCodeC
set_option maxHeartbeats 4000000
set_option linter.unusedSimpArgs false
set_option linter.unusedVariables false
set_option linter.unusedSectionVars false
namespace Go.Fu
open Go Go.Mx
set_option maxRecDepth 10000
set_option maxHeartbeats 4000000
structure FrV (V V':Nat→Prop) (m m':Nat) (σ σ':Store):Prop where
 nx:σ.next≤σ'.next
 ob:∀ j,j < σ.next→¬ V j→dE σ'.objs j=dE σ.objs j
 ty:∀ j,j < σ.next→dE σ'.tys j=dE σ.tys j
 ot:∀ j,j < σ.next→j≠m→dE σ'.oth j=dE σ.oth j
 fv:∀ j,V' j→V j∨σ.next≤j
 fm:m'=m∨σ.next≤m'
theorem FrV.trans {V V1 V2:Nat→Prop} {m m1 m2:Nat} {σ σ1 σ2:Store} (h:FrV V V1 m m1 σ σ1) (k:FrV V1 V2 m1 m2 σ1 σ2):FrV V V2 m m2 σ σ2:=by
 have h1:=h.nx
 refine ⟨Nat.le_trans h.nx k.nx,fun j hj hv=>?_,fun j hj=>?_,fun j hj hm=>?_,fun j hj=>?_,?_⟩
 ·rw [k.ob j (by omega) (fun e=>by rcases h.fv j e with e2 | e2 <;> first | exact hv e2 | omega),h.ob j hj hv]
 ·rw [k.ty j (by omega),h.ty j hj]
 ·rw [k.ot j (by omega) (fun e=>by rcases h.fm with e2 | e2 <;> omega),h.ot j hj hm]
 ·rcases k.fv j hj with e | e
  ·exact h.fv j e
  ·exact .inr (by omega)
 ·rcases k.fm with e | e
  ·rw [e]; exact h.fm
  ·exact .inr (by omega)
def VX (st:Bool) (p eb a ea:Nat) (j:Nat):Prop:=j=p∨j=a∨(st=true∧(j=eb∨j=ea))
theorem Frm.v {p a m a' m':Nat} {σ σ':Store} (st:Bool) (eb ea:Nat) (h:Frm p a m a' m' σ σ'):FrV (VX st p eb a ea) (VX st p eb a' ea) m m' σ σ' :=
 ⟨h.nx,fun j hj hv=>h.ob j hj (fun e=>hv (.inl e)) (fun e=>hv (.inr (.inl e))),h.ty,h.ot,fun j hj=>by
  rcases hj with e | e | e
  ·exact .inl (.inl e)
  ·rcases h.fa with e2 | e2
   ·exact .inl (.inr (.inl (e.trans e2)))
   ·exact .inr (by omega)
  ·exact .inl (.inr (.inr e)),h.fm⟩
def BxV (σ:Store) (V:Nat→Prop) (l:List (Nat × List Cell)):Prop:=∀ q∈l,dE σ.objs q.1=some q.2∧q.1 < σ.next∧¬ V q.1
theorem BxV.keep {σ σ':Store} {V V':Nat→Prop} {m m':Nat} {l:List (Nat × List Cell)} (h:BxV σ V l) (f:FrV V V' m m' σ σ'):BxV σ' V' l:=fun q hq=>by
 obtain ⟨h1,h2,h3⟩:=h q hq
 exact ⟨by rw [f.ob _ h2 h3,h1],aP h2 f.nx,fun e=>by rcases f.fv _ e with e2 | e2 <;> first | exact h3 e2 | omega⟩
theorem BxV.sub {σ:Store} {V:Nat→Prop} {l l':List (Nat × List Cell)} (h:BxV σ V l) (hs:∀ q∈l',q∈l):BxV σ V l':=fun q hq=>h q (hs q hq)
theorem BxV.bx {σ:Store} {st:Bool} {p eb a ea:Nat} {l:List (Nat × List Cell)} (h:BxV σ (VX st p eb a ea) l):Bx σ p a l:=fun q hq=>by
 obtain ⟨h1,h2,h3⟩:=h q hq
 exact ⟨h1,h2,fun e=>h3 (.inl e),fun e=>h3 (.inr (.inl e))⟩
def sG (ea:Nat):List (Nat × Nat × Nat)→D
 | []=>.nils
 | x :: l=>.arr gR ea 0 (l.length + 1)
theorem ztk (a:Nat) (l:List (Nat × Nat × Nat)) (x:Nat × Nat × Nat):sG a (l ++ [x])=.arr gR a 0 (l.length + 1):=by
 cases l with
 | nil=>rfl
 | cons y l=>simp [sG]
theorem zka (a:Nat) (l:List (Nat × Nat × Nat)):(sG a l).one=true:=by cases l <;> rfl
def cF (es:List (Nat × Nat × Nat)):List Cell:=es.map fun q=>⟨false,mG q.2.1 q.2.2⟩
theorem ztp (es:List (Nat × Nat × Nat)):(cF es).length=es.length:=by simp [cF]
structure KE (σ:Store) (p a eb ea:Nat) (es:List (Nat × Nat × Nat)):Prop where
 box:dE σ.objs eb=some [⟨false,sG ea es⟩]
 arr:es≠[]→dE σ.objs ea=some (cF es)∧dE σ.tys ea=some ⟨gR.el,gR.sz⟩
 hf:∀ q∈es,HF σ p a q.1 q.2.1 q.2.2∧q.2.1≠eb∧q.2.1≠ea∧q.2.2≠eb∧q.2.2≠ea
 ne:eb≠p∧eb≠a∧ea≠p∧ea≠a∧(es≠[]→eb≠ea)∧eb < σ.next∧ea < σ.next
theorem KE.keep {σ σ':Store} {p a eb ea m a' m':Nat} {es:List (Nat × Nat × Nat)} (h:KE σ p a eb ea es) (f:Frm p a m a' m' σ σ'):KE σ' p a' eb ea es:=by
 obtain ⟨h1,h2,h3,h4,h5,h6,h7⟩:=h.ne
 have hn:=f.nx
 refine ⟨f.get h.box h6 h1 h2,fun he=>?_,fun q hq=>?_,⟨h1,by rcases f.fa with e | e <;> omega,h3,by rcases f.fa with e | e <;> omega,h5,by omega,by omega⟩⟩
 ·obtain ⟨g1,g2⟩:=h.arr he
  exact ⟨f.get g1 h7 h3 h4,by rw [f.ty _ h7,g2]⟩
 ·obtain ⟨g1,g2⟩:=h.hf q hq
  exact ⟨g1.keep f,g2⟩
def KX (st:Bool) (σ:Store) (p a eb ea:Nat) (es:List (Nat × Nat × Nat)):Prop:=(st=true→KE σ p a eb ea es)∧(st=false→es=[])
theorem KX.keep {st:Bool} {σ σ':Store} {p a eb ea m a' m':Nat} {es:List (Nat × Nat × Nat)} (h:KX st σ p a eb ea es) (f:Frm p a m a' m' σ σ'):KX st σ' p a' eb ea es:=⟨fun e=>(h.1 e).keep f,h.2⟩
theorem KE.app {σ:Store} {p a eb ea:Nat} {es:List (Nat × Nat × Nat)} (h:KE σ p a eb ea es) (hp:p < σ.next) (ha:a < σ.next) (hl:es.length < 1000000000) (k bx bk:Nat) (hh:HF σ p a k bx bk) (hx:bx≠eb∧bx≠ea∧bk≠eb∧bk≠ea):∃ σ1,eV σ gR 8 (sG ea es) [mG bx bk]=some (.arr gR σ.next 0 (es.length + 1),σ1)∧dE σ1.objs eb=some [⟨false,sG ea es⟩] ∧
  KE (SO σ1 eb [⟨false,.arr gR σ.next 0 (es.length + 1)⟩]) p a eb σ.next (es ++ [(k,bx,bk)])∧σ1.oth=σ.oth∧σ.next < σ1.next∧(∀ j,j < σ.next→j≠ea→dE σ1.objs j=dE σ.objs j)∧(∀ j,j < σ.next→dE σ1.tys j=dE σ.tys j):=by
 obtain ⟨q1,q2,q3,q4,q5,q6,q7⟩:=h.ne
 have h1:eM gR.sz [mG bx bk]=true:=rfl
 have e1:decide ((es.length + 1) * 8≤eL)=true:=decide_eq_true (show (es.length + 1) * 8≤1099511627776 by omega)
 have e2:decide (es.length + 1≤eL)=true:=decide_eq_true (show es.length + 1≤1099511627776 by omega)
 have hxn:=hh.xn
 have hkn:=hh.kn
 have hcf:cF (es ++ [(k,bx,bk)])=cF es ++ [⟨false,mG bx bk⟩]:=by simp [cF]
 have hf2:∀ q∈es,q.2.1 < σ.next∧q.2.2 < σ.next:=fun q hq=>⟨(h.hf q hq).1.xn,(h.hf q hq).1.kn⟩
 have fin:∀ σ1:Store,σ1.next=σ.next + 2→σ1.oth=σ.oth→σ1.tys=(σ.next,⟨gR.el,gR.sz⟩) :: σ.tys→dE σ1.objs σ.next=some (cF (es ++ [(k,bx,bk)]))→(∀ j,j < σ.next→(es≠[]→j≠ea)→dE σ1.objs j=dE σ.objs j)→p < σ.next→a < σ.next →
   dE σ1.objs eb=some [⟨false,sG ea es⟩]∧KE (SO σ1 eb [⟨false,.arr gR σ.next 0 (es.length + 1)⟩]) p a eb σ.next (es ++ [(k,bx,bk)])∧σ1.oth=σ.oth∧σ.next < σ1.next∧(∀ j,j < σ.next→j≠ea→dE σ1.objs j=dE σ.objs j)∧(∀ j,j < σ.next→dE σ1.tys j=dE σ.tys j):=by
  intro σ1 hn ho ht hc hj hpn han
  have keepHF:∀ k bx bk,HF σ p a k bx bk→bx≠eb→bx≠ea→bk≠eb→bk≠ea→HF (SO σ1 eb [⟨false,.arr gR σ.next 0 (es.length + 1)⟩]) p a k bx bk:=fun k bx bk g g1 g2 g3 g4=>by
   have:=g.xn
   have:=g.kn
   exact ⟨by rw [iY g1,hj _ g.xn (fun _=>g2)]; exact g.x,by rw [iY g3,hj _ g.kn (fun _=>g4)]; exact g.k,by rw [gQ]; omega,by rw [gQ]; omega,g.xp,g.kp⟩
  refine ⟨by rw [hj eb q6 q5,h.box],⟨by rw [jS,ztk],fun _=>⟨by rw [iY (by omega),hc],by rw [As,ht,agS]⟩,fun q hq=>?_,⟨q1,q2,by omega,by omega,fun _=>by omega,by rw [gQ]; omega,by rw [gQ]; omega⟩⟩,ho,by omega,fun j h1 h2=>hj j h1 fun _=>h2,fun j hj=>by rw [ht,agC _ _ _ _ (by omega)]⟩
  rcases bJ.1 hq with hq | hq
  ·obtain ⟨g1,g2,g3,g4,g5⟩:=h.hf q hq
   exact ⟨keepHF _ _ _ g1 g2 g3 g4 g5,g2,by have:=g1.xn; omega,g4,by have:=g1.kn; omega⟩
  ·rw [bO] at hq
   subst hq
   exact ⟨keepHF _ _ _ hh hx.1 hx.2.1 hx.2.2.1 hx.2.2.2,hx.1,by show bx≠_; omega,hx.2.2.1,by show bk≠_; omega⟩
 cases hes:es with
 | nil =>
  subst hes
  have e:([mG bx bk].isEmpty)=false:=rfl
  refine ⟨dR σ gR (cellsOf [mG bx bk]),?_,?_⟩
  ·simp only [sG,eV,h1,e,dJ,dH,aG,aH,aN] at e1 e2 ⊢
   simp only [e1,e2,aY,dJ]
  ·refine fin _ rfl rfl rfl ?_ (fun j hj ha=>?_) hp ha
   ·simp only [dR,agS]
    rfl
   ·simp only [dR]
    rw [agC _ _ _ _ (by omega)]
 | cons y r =>
  obtain ⟨g1,g2⟩:=h.arr (by rw [hes]; simp)
  rw [← hes]
  have hla:sG ea es=.arr gR ea 0 es.length:=by rw [hes]; rfl
  have ek:gR.same gR=true:=rfl
  have e0:decide (es.length * gR.sz≤(cF es).length)=true:=by rw [ztp]; simp [gR]
  have ht:(cF es).take (es.length * gR.sz)=cF es:=List.take_of_length_le (by rw [ztp]; simp [gR])
  have en:(cF es).map (fun c=>Cell.of c.d) ++ cellsOf [mG bx bk]=cF (es ++ [(k,bx,bk)]):=by
   rw [hcf,cF,cD]
   rfl
  refine ⟨dR {σ with objs:=eE σ.objs ea} gR (cF (es ++ [(k,bx,bk)])),?_,?_⟩
  ·simp only [hla,eV,h1,dJ,g1,g2,dG,dK,ek,bW,aG,aH,aN] at e1 e2 ⊢
   simp only [e0,e1,e2,aY,dJ,ht,en]
  ·refine fin _ rfl rfl rfl ?_ (fun j hj ha=>?_) hp ha
   ·simp only [dR,agS]
   ·simp only [dR]
    rw [agC _ _ _ _ (by omega),agD _ _ (ha (by rw [hes]; simp))]
def Jd:In:=⟨zhx,0,0,[]⟩
theorem zdz {σ:Store} {p a m eb ea:Nat} {L:List In} {M:At} {es:List (Nat × Nat × Nat)} (h:CS σ p a m L M) (hk:KE σ p a eb ea es) (hl:L.length < 1000000000) (he:es.length < 1000000000):∃ σ2 σ3 bx bk a2,
  (∀ n,W SD (n + 1) Px [.ptr p 0,dI Jd] σ=some (.ret ⟨false,mG bx bk⟩,σ2))∧dE σ2.objs eb=some [⟨false,sG ea es⟩]∧eV σ2 gR 8 (sG ea es) [mG bx bk]=some (.arr gR σ2.next 0 (es.length + 1),σ3)∧dE σ3.objs eb=some [⟨false,sG ea es⟩] ∧
  CS (SO σ3 eb [⟨false,.arr gR σ2.next 0 (es.length + 1)⟩]) p a2 m (L ++ [Jd]) M∧KE (SO σ3 eb [⟨false,.arr gR σ2.next 0 (es.length + 1)⟩]) p a2 eb σ2.next (es ++ [(L.length,bx,bk)])∧FrV (VX true p eb a ea) (VX true p eb a2 σ2.next) m m σ (SO σ3 eb [⟨false,.arr gR σ2.next 0 (es.length + 1)⟩]):=by
 obtain ⟨σ2,bx,bk,a2,h1,h2,h3,h4,h5,h6,h7⟩:=Vv (S:=SD) rfl h.ca hl Jd
 have k2:=hk.keep (h3 m)
 obtain ⟨q1,q2,q3,q4,q5,q6,q7⟩:=hk.ne
 obtain ⟨r1,r2,r3,r4,r5,r6,r7⟩:=k2.ne
 obtain ⟨σ3,g1,g2,g3,g4,g5,g6,g7⟩:=k2.app h2.pn h2.an he L.length bx bk h5 ⟨by omega,by omega,by omega,by omega⟩
 have hn:=(h3 m).nx
 have hmn:=h.mn
 refine ⟨σ2,σ3,bx,bk,a2,h1,k2.box,g1,g2,⟨h2.keep (by rw [gQ]; omega) ?_ ?_ ?_,?_,by rw [gQ]; omega⟩,g3,⟨by rw [gQ]; omega,fun j hj hv=>?_,fun j hj=>?_,fun j hj hm=>?_,fun j hj=>?_,.inl rfl⟩⟩
 ·rw [iY (fun e=>r1 e.symm),g6 _ h2.pn (fun e=>r3 e.symm)]
 ·rw [iY (fun e=>r2 e.symm),g6 _ h2.an (fun e=>r4 e.symm)]
 ·rw [As,g7 _ h2.an]
 ·rw [xT,g4,h4]
  exact h.map
 ·have v1:j≠p:=fun e=>hv (.inl e)
  have v2:j≠a:=fun e=>hv (.inr (.inl e))
  have v3:j≠eb:=fun e=>hv (.inr (.inr ⟨rfl,.inl e⟩))
  have v4:j≠ea:=fun e=>hv (.inr (.inr ⟨rfl,.inr e⟩))
  rw [iY v3,g6 _ (by omega) v4,(h3 m).ob j hj v1 v2]
 ·rw [As,g7 _ (by omega),(h3 m).ty j hj]
 ·rw [xT,g4,h4]
 ·rcases hj with e | e | ⟨_,e | e⟩
  ·exact .inl (.inl e)
  ·rcases (h3 m).fa with e2 | e2
   ·exact .inl (.inr (.inl (e.trans e2)))
   ·exact .inr (by omega)
  ·exact .inl (.inr (.inr ⟨rfl,.inl e⟩))
  ·exact .inr (by omega)
theorem pD (a:Hd × Co):dA a=.agg [.int .i64 a.1.form,.int .i64 a.1.num,.str a.1.name,dSs a.1.vars,.int .i64 a.2.f,.int .i64 a.2.n,.str a.2.s,.int .i64 0,.int .i64 0,.str [],.nils,kD a.2,bD a.2,aD a.2]:=Rt a
theorem znf {σ:Store} {p a m eb ea xb:Nat} {L:List In} {M:At} {es:List (Nat × Nat × Nat)} (h:CS σ p a m L M) (hk:KE σ p a eb ea es) (hb:BxV σ (VX true p eb a ea) [(xb,[⟨false,.ptr p 0⟩])]) (al:Hd × Co) (hl:L.length < 100000000) (he:es.length < 1000000000) :
  ∃ σ' a' ea' es',Ev SD Ss [dA al,.ptr xb 0,.ptr eb 0] σ σ'∧CS σ' p a' m (nU true al.1 L) M∧KE σ' p a' eb ea' es'∧es'.map Prod.fst=es.map Prod.fst ++ [(nU true al.1 L).length - 1]∧FrV (VX true p eb a ea) (VX true p eb a' ea') m m σ σ':=by
 have hda:=pD al
 have hon:=jO al.2
 have hoS:=gW al.1.vars
 have hlS:=mO al.1.vars
 have hx:=(hb _ (bO.2 rfl)).1
 obtain ⟨q1,q2,q3,q4,q5,q6,q7⟩:=hk.ne
 unfold nU
 simp only [dJ]
 cases hf:al.1.form == 1 with
 | true =>
  simp only [dJ]
  obtain ⟨σ1,h1,h2,h3⟩:=jZ h (by omega) sW al.1.vars.length
  have hk1:=hk.keep h3
  obtain ⟨σ2,σ3,bx,bk,a2,j1,j2,j3,j4,j5,j6,j7⟩:=zdz h2 hk1 (by simp; omega) he
  refine ⟨_,a2,_,_,Ev.of 1 fun n hn=>?_,j5,j6,by simp [Jd],(h3.v true eb ea).trans j7⟩
  obtain ⟨n,rfl⟩:∃ k,n=k + 1:=⟨n - 1,by omega⟩
  rw [eH (af:=kF) rfl rfl rfl]
  have hx1:=(hb.keep (h3.v true eb ea) _ (bO.2 rfl)).1
  have hk1b:=hk1.box
  have h1:=h1 n
  have j1:=j1 n
  have hone:=zka ea es
  have okH:(mG bx bk).ok=true:=rfl
  have ceH:(mG bx bk).cells=[mG bx bk]:=rfl
  simp only [sW] at h1
  simp only [Jd,zhx,dI] at j1
  simp only [kF,sA,Nat.reduceAdd,Nat.reduceSub,Nat.reduceMul,Nat.reduceBEq,Nat.reduceLeDiff,Int.reduceBEq,Int.reduceBNe,Int.reduceLE,Int.reduceLT,Int.reduceGE,Int.reduceGT,Int.reduceNeg,kn,eI,mB,hda,hon,hoS,hf,hlS,hx,h1,hx1,hk1b,j1,Ii,List.all_cons,List.all_nil,lI,j2,vX,okH,ceH,j3,j4,vV,pN]
 | false =>
  simp only [dH]
  obtain ⟨σ2,σ3,bx,bk,a2,j1,j2,j3,j4,j5,j6,j7⟩:=zdz h hk (by omega) he
  refine ⟨_,a2,_,_,Ev.of 1 fun n hn=>?_,j5,j6,by simp [Jd],j7⟩
  obtain ⟨n,rfl⟩:∃ k,n=k + 1:=⟨n - 1,by omega⟩
  rw [eH (af:=kF) rfl rfl rfl]
  have hk1b:=hk.box
  have j1:=j1 n
  have hone:=zka ea es
  have okH:(mG bx bk).ok=true:=rfl
  have ceH:(mG bx bk).cells=[mG bx bk]:=rfl
  simp only [Jd,zhx,dI] at j1
  simp only [kF,sA,Nat.reduceAdd,Nat.reduceSub,Nat.reduceMul,Nat.reduceBEq,Nat.reduceLeDiff,Int.reduceBEq,Int.reduceBNe,Int.reduceLE,Int.reduceLT,Int.reduceGE,Int.reduceGT,Int.reduceNeg,kn,eI,mB,hda,hon,hoS,hf,hlS,hx,hk1b,j1,Ii,List.all_cons,List.all_nil,lI,j2,vX,okH,ceH,j3,j4,vV,pN]
theorem zb7b {σ:Store} {p a m xb:Nat} {L:List In} {M:At} (st:Bool) (h:CS σ p a m L M) (hx:dE σ.objs xb=some [⟨false,.ptr p 0⟩]) (hxn:xb < σ.next∧xb≠p∧xb≠a) (hl:L.length < 100000000) :
  Nc (ifB st Zf Zg) [.ptr xb 0] σ p a m (wM st true L) M:=by
 unfold wM
 simp only [dJ]
 cases st with
 | true =>
  simp only [dJ]
  obtain ⟨σ1,h1,h2,h3⟩:=jZ h (by omega) uO 1
  obtain ⟨σ2,h4,h5,h6⟩:=jZ h2 (by simp; omega) rA 0
  refine ⟨σ2,_,_,Ev.of 1 fun n hn=>?_,h5,h3.trans h6⟩
  obtain ⟨n,rfl⟩:∃ k,n=k + 1:=⟨n - 1,by omega⟩
  rw [eH (af:=zfz) rfl rfl rfl]
  have hx1:=h3.get hx hxn.1 hxn.2.1 hxn.2.2
  have h1:=h1 n
  have h4:=h4 n
  simp only [uO] at h1
  simp only [rA] at h4
  simp only [zfz,sA,Nat.reduceAdd,Nat.reduceSub,Nat.reduceMul,Nat.reduceBEq,Nat.reduceLeDiff,Int.reduceBEq,Int.reduceBNe,Int.reduceLE,Int.reduceLT,Int.reduceGE,Int.reduceGT,Int.reduceNeg,kn,hx,h1,hx1,h4]
 | false =>
  simp only [dH]
  obtain ⟨σ1,h1,h2,h3⟩:=jZ h (by omega) rA 0
  refine ⟨σ1,_,_,Ev.of 1 fun n hn=>?_,h2,h3⟩
  obtain ⟨n,rfl⟩:∃ k,n=k + 1:=⟨n - 1,by omega⟩
  rw [eH (af:=zf1) rfl rfl rfl]
  have h1:=h1 n
  simp only [rA] at h1
  simp only [zf1,sA,Nat.reduceAdd,Nat.reduceSub,Nat.reduceMul,Nat.reduceBEq,Nat.reduceLeDiff,Int.reduceBEq,Int.reduceBNe,Int.reduceLE,Int.reduceLT,Int.reduceGE,Int.reduceGT,Int.reduceNeg,kn,hx,h1]
theorem zv4 {σ:Store} (al:Hd × Co) (n:Nat):W SD (n + 1) zhd [dA al] σ=some (.ret ⟨false,.tup []⟩,σ):=by
 have hda:=pD al
 have hon:=jO al.2
 have hoS:=gW al.1.vars
 rw [eH (af:=zf0) rfl rfl rfl]
 simp only [zf0,sA,Nat.reduceAdd,Nat.reduceSub,Nat.reduceMul,Nat.reduceBEq,Nat.reduceLeDiff,Int.reduceBEq,Int.reduceBNe,Int.reduceLE,Int.reduceLT,Int.reduceGE,Int.reduceGT,Int.reduceNeg,kn,hda,hon,hoS]
theorem zp5 {σ:Store} (n:Nat):W SD (n + 1) zha [] σ=some (.ret ⟨false,.tup []⟩,σ):=by
 rw [eH (af:=zfv) rfl rfl rfl]
 simp only [zfv,sA,Nat.reduceAdd,Nat.reduceSub,Nat.reduceMul,Nat.reduceBEq,Nat.reduceLeDiff,Int.reduceBEq,Int.reduceBNe,Int.reduceLE,Int.reduceLT,Int.reduceGE,Int.reduceGT,Int.reduceNeg,kn]
def oL (st:Bool) (xb eb:Nat):D:=ifB st (.fn (.func Ss) [] [.ptr xb 0,.ptr eb 0]) (.fn (.func zhd) [] [])
theorem zbmb {σ:Store} {p a m eb ea xb:Nat} {L:List In} {M:At} {es:List (Nat × Nat × Nat)} (st:Bool) (h:CS σ p a m L M) (hk:KX st σ p a eb ea es) (hb:BxV σ (VX st p eb a ea) [(xb,[⟨false,.ptr p 0⟩])]) (al:Hd × Co) (hl:L.length < 100000000) (he:es.length < 1000000000) :
  ∃ σ' a' ea' es' f caps n0,D.fn? (oL st xb eb)=some (f,[],caps)∧(∀ n,n0≤n→W SD n f (dA al :: caps) σ=some (.ret ⟨false,.tup []⟩,σ'))∧CS σ' p a' m (nU st al.1 L) M∧KX st σ' p a' eb ea' es'∧es'.map Prod.fst=ifB st (es.map Prod.fst ++ [(nU st al.1 L).length - 1]) (es.map Prod.fst)∧FrV (VX st p eb a ea) (VX st p eb a' ea') m m σ σ':=by
 cases st with
 | true =>
  obtain ⟨σ',a',ea',es',⟨n0,h1⟩,h2,h3,h4,h5⟩:=znf h (hk.1 rfl) hb al hl he
  exact ⟨σ',a',ea',es',Ss,[.ptr xb 0,.ptr eb 0],n0,rfl,h1,h2,⟨fun _=>h3,fun e=>by cases e⟩,h4,h5⟩
 | false =>
  refine ⟨σ,a,ea,es,zhd,[],1,rfl,fun n hn=>?_,h,hk,rfl,(Frm.refl (p:=p) (a:=a) (m:=m)).v false eb ea⟩
  obtain ⟨n,rfl⟩:∃ k,n=k + 1:=⟨n - 1,by omega⟩
  exact zv4 al n
end Go.Fu
namespace Go.Fu
open Go Go.Mx
set_option maxRecDepth 10000
set_option maxHeartbeats 4000000
def ent (s:Tx) (a b:Int) (k:Nat):D × D × Nat:=(.str s,.agg [.int .i64 a,.int .i64 b],k)
end Go.Fu
namespace Go.Fu
open Go Go.Mx
set_option maxRecDepth 10000
set_option maxHeartbeats 8000000
def rS:ACode→ACode
 | .seq a _=>a
 | x=>x
def mV:ACode→ACode
 | .seq _ b=>b
 | x=>x
def Of:ACode→ACode
 | .block _ b=>b
 | x=>x
def gB:ACode:=Of (rS (mV (mV zz5)))
section
variable {S:eD} {N n:Nat}
end
end Go.Fu
namespace Go.Fu
open Go Go.Mx
set_option maxRecDepth 10000
set_option maxHeartbeats 4000000
theorem zkg (σ:Store) (p a:Nat) (hp:p < σ.next) (ha:a < σ.next) (l:List Tx) (hl:l.length < 100000000):∃ d σd σf,
  (∀ n,W SD (n + 1) yZ [dSs l] σ=some (.ret ⟨false,d⟩,σd))∧d.one=true∧d.ok=true∧d.cells=[d] ∧
  (∀ n,l.length < n→W SD (n + 1) Ti [d] (SO (GA σd t_8 [⟨false,.nils⟩]) σd.next [⟨false,d⟩])=some (.ret ⟨false,.tup []⟩,σf)) ∧
  FrA σ σf∧dE σf.objs σd.next=some [⟨false,d⟩]∧σ.next≤σd.next∧σd.next < σf.next∧RdS σf p a d l.reverse:=by
 obtain ⟨d,σd,h1,h2,h4⟩:=zbwb (S:=SD) rfl σ l (by omega)
 have hn:=h2.nx
 obtain ⟨σg,eg⟩:∃ σg,σg=SO (GA σd t_8 [⟨false,.nils⟩]) σd.next [⟨false,d⟩]:=⟨_,rfl⟩
 have ng:σg.next=σd.next + 1:=by rw [eg,gQ,fW]
 have fg:FrA σ σg:=by
  rw [eg]
  exact (h2.trans FrA.ga).so hn
 have bg:dE σg.objs σd.next=some [⟨false,d⟩]:=by rw [eg,jS]
 rcases h4 with ⟨rfl,rfl⟩ | ⟨hne,id,rfl,h5,h6,h7⟩
 ·refine ⟨.nils,σd,σg,h1,rfl,rfl,rfl,fun n hn=>?_,fg,bg,hn,by omega,.inl rfl⟩
  rw [eH (af:=zb3) rfl rfl rfl]
  obtain ⟨k,rfl⟩:∃ k,n=k + 1:=⟨n - 1,by omega⟩
  have w:IntKind.i64.wrap (((0:Nat):Int) - 1)=-1:=rfl
  have hlt:¬ ((0:Int) < (-1:Int)):=by omega
  rw [← eg]
  simp only [eR] at w
  simp only [zb3,Vk,sA,Nat.reduceAdd,Nat.reduceSub,Nat.reduceMul,Nat.reduceBEq,Nat.reduceLeDiff,Int.reduceBEq,Int.reduceBNe,Int.reduceLE,Int.reduceLT,Int.reduceGE,Int.reduceGT,Int.reduceNeg,kn,gU,eR,w,hlt]
 ·have hid:dE σg.objs id=some (eW l):=by rw [eg,iY (by omega),jU (by omega),h5]
  obtain ⟨σf,r1,r2,r3,r4,r5,r6⟩:=zdwb (S:=SD) rfl σg id l hid (by omega)
  refine ⟨_,σd,σf,h1,rfl,rfl,rfl,fun n hn=>by rw [← eg]; exact r1 n hn,⟨by rw [r3]; exact fg.nx,fun j hj=>by rw [r6 _ (by omega),fg.ob j hj],fun j hj=>by rw [r5,fg.ty j hj],fun j hj=>by rw [r4,fg.ot j hj]⟩,by rw [r6 _ (by omega),bg],hn,by omega,.inr ⟨by simpa using hne,id,by rw [bU],r2,by omega,by omega,by omega⟩⟩
end Go.Fu
namespace Go.Fu
open Go Go.Mx
set_option maxRecDepth 10000
set_option maxHeartbeats 4000000
def cAl (al:Hd × Co):List Cell:=[⟨false,.int .i64 al.1.form⟩,⟨false,.int .i64 al.1.num⟩,⟨false,.str al.1.name⟩,⟨false,dSs al.1.vars⟩,⟨false,.int .i64 al.2.f⟩,⟨false,.int .i64 al.2.n⟩,⟨false,.str al.2.s⟩,⟨false,.int .i64 0⟩,⟨false,.int .i64 0⟩,⟨false,.str []⟩,⟨false,.nils⟩,⟨false,kD al.2⟩,⟨false,bD al.2⟩,⟨false,aD al.2⟩]
theorem zp6 {body:Co→At→Int→List In→List In} {al:Hd × Co} {g:FuncId} (hg:isY g=false) (hgo:Okf g al.2 (body al.2)) {σ:Store} {p a m:Nat} {L:List In} {M:At} (h:CS σ p a m L M) {gb ab db ob:Nat} {own:D} {k:Nat} (hown:lenOf own=some k) (h1:own.one=true) {d:Int}
  (hb:Bx σ p a [(gb,[⟨false,mT g p⟩]),(ab,cAl al),(db,[⟨false,.int .i64 d⟩]),(ob,[⟨false,own⟩])]) (hn:(body al.2 M (w64 (d + k)) L).length < 50000000) :
  Nc zhb [.ptr gb 0,.ptr ab 0,.ptr db 0,.ptr ob 0] σ p a m (body al.2 M (w64 (d + k)) L) M:=by
 obtain ⟨σ1,a1,m1,⟨n1,e1⟩,c1,f1⟩:=hgo σ p a m L M (w64 (d + k)) h hn
 refine ⟨σ1,a1,m1,Ev.of n1 fun n hN=>?_,c1,f1⟩
 rw [eH (af:=zfw) rfl rfl rfl]
 have q0:=(hb (gb,[⟨false,mT g p⟩]) (by simp)).1
 have q1:=(hb (ab,cAl al) (by simp)).1
 have q2:=(hb (db,[⟨false,.int .i64 d⟩]) (by simp)).1
 have q3:=(hb (ob,[⟨false,own⟩]) (by simp)).1
 have hev:=e1 n hN
 rw [fJ] at hev
 have hfn:D.fn? (mT g p)=some (g,[.ptr p 0],[]):=fn?_fn hg
 simp only [w64] at hev
 simp only [cAl] at q1
 simp only [zfw,sA,Nat.reduceAdd,Nat.reduceSub,Nat.reduceMul,Nat.reduceBEq,Nat.reduceLeDiff,Int.reduceBEq,Int.reduceBNe,Int.reduceLE,Int.reduceLT,Int.reduceGE,Int.reduceGT,Int.reduceNeg,kn,q0,q1,q2,q3,hown,hfn,hev]
def K0:ACode:=yP
def KB:ACode:=Of (rS (mV (mV K0)))
def KF:ACode:=rS (mV (mV KB))
def KR:ACode:=mV (mV (mV KB))
theorem zg0b:K0=.seq (rS K0) (.seq (rS (mV K0)) (.seq (.block 1 KB) (mV (mV (mV K0))))):=rfl
theorem zg1b:KB=.seq (rS KB) (.seq (rS (mV KB)) (.seq KF KR)):=rfl
def wJ:D:=.fn (.func zha) [] []
def Ecl (p:Nat) (be en:D) (db gb:Nat) (c:Co) (i:Nat):Env:={slots:=[(0,⟨false,.ptr p 0⟩),(4,⟨false,be⟩),(5,⟨false,en⟩),(8,⟨false,.ptr db 0⟩),(9,⟨false,.ptr gb 0⟩),(24,⟨false,aD c⟩),(25,⟨false,.int .i64 c.al.length⟩),(26,⟨false,.int .i64 i⟩)],locs:=[],boxes:=[],defers:=[]}
def zpj (p:Nat) (be en:D) (db gb:Nat) (c:Co) (i:Nat):Env:={slots:=[(0,⟨false,.ptr p 0⟩),(4,⟨false,be⟩),(5,⟨false,en⟩),(8,⟨false,.ptr db 0⟩),(9,⟨false,.ptr gb 0⟩),(24,⟨false,aD c⟩),(25,⟨false,.int .i64 c.al.length⟩),(26,⟨false,.int .i64 i⟩),(27,⟨false,.bool true⟩)],locs:=[],boxes:=[],defers:=[]}
def Eca' (p:Nat) (be en:D) (db gb ab:Nat) (nx:D) (c:Co) (i:Nat):Env:={slots:=[(0,⟨false,.ptr p 0⟩),(4,⟨false,be⟩),(5,⟨false,en⟩),(8,⟨false,.ptr db 0⟩),(9,⟨false,.ptr gb 0⟩),(13,⟨false,.ptr ab 0⟩),(14,⟨false,nx⟩),(24,⟨false,aD c⟩),(25,⟨false,.int .i64 c.al.length⟩),(26,⟨false,.int .i64 i⟩)],locs:=[],boxes:=[],defers:=[]}
section
variable {C:dQ} {n:Nat}
theorem kw1 (X:ACode) (p:Nat) (be en:D) (db gb:Nat) (c:Co) (i:Nat) (hi:i < c.al.length) (σ:Store):exec C n none (.seq (rS K0) (.seq (rS (mV K0)) X)) (Ecl p be en db gb c i) σ=exec C n none X (zpj p be en db gb c i) σ:=by
 have hlt:((i:Int) < (c.al.length:Int)):=by omega
 simp only [K0,yP,rS,mV,Ecl,zpj,sA,Nat.reduceAdd,Nat.reduceSub,Nat.reduceMul,Nat.reduceBEq,Nat.reduceLeDiff,Int.reduceBEq,Int.reduceBNe,Int.reduceLE,Int.reduceLT,Int.reduceGE,Int.reduceGT,Int.reduceNeg,kn,hlt]
theorem kw1e (p:Nat) (be en:D) (db gb:Nat) (c:Co) (σ:Store):∃ e,exec C n none K0 (Ecl p be en db gb c c.al.length) σ=some (.exit 0,e,σ)∧e={slots:=[(0,⟨false,.ptr p 0⟩),(4,⟨false,be⟩),(5,⟨false,en⟩),(8,⟨false,.ptr db 0⟩),(9,⟨false,.ptr gb 0⟩),(24,⟨false,aD c⟩),(25,⟨false,.int .i64 c.al.length⟩),(26,⟨false,.int .i64 c.al.length⟩),(27,⟨false,.bool false⟩)],locs:=[],boxes:=[],defers:=[]}:=by
 have hlt:¬ ((c.al.length:Int) < (c.al.length:Int)):=by omega
 refine ⟨_,?_,rfl⟩
 simp only [K0,yP,Ecl,sA,Nat.reduceAdd,Nat.reduceSub,Nat.reduceMul,Nat.reduceBEq,Nat.reduceLeDiff,Int.reduceBEq,Int.reduceBNe,Int.reduceLE,Int.reduceLT,Int.reduceGE,Int.reduceGT,Int.reduceNeg,kn,hlt]
theorem zur (c:Co) (i:Nat) (hi:i < c.al.length):iD 14 (aD c) i=some (.eptr (dA c.al[i])):=mL rfl dA _ i hi
theorem kw2 (Y:ACode) (p:Nat) (be en:D) (db gb:Nat) (c:Co) (i:Nat) (hi:i < c.al.length) (σ σ1 σ2:Store) (zs:List Cell) (e1:σ1=GA σ zsq zs) (hz:zs=([.int .i64 0,.int .i64 0,.str [],.nils,.int .i64 0,.int .i64 0,.str [],.int .i64 0,.int .i64 0,.str [],.nils,.nils,.nils,.nils]:List D).map Cell.of) (e2:σ2=SO σ1 σ.next (cAl c.al[i])) :
  exec C n none (.seq (rS KB) (.seq (rS (mV KB)) Y)) (zpj p be en db gb c i) σ=exec C n none Y (Eca' p be en db gb σ.next wJ c i) σ2:=by
 have hx:=zur c i hi
 have hb:dE σ1.objs σ.next=some zs:=by rw [e1,iN]
 generalize c.al[i]=al at hx e2
 have hda:=pD al
 have hon:=jO al.2
 have hoS:=gW al.1.vars
 rw [hda] at hx
 rw [hz] at hb e1
 simp only [cAl] at e2
 simp only [aO,aZ,Cell.of] at e1 hb
 simp only [KB,K0,Of,yP,rS,mV,zpj,Eca',wJ,sA,Nat.reduceAdd,Nat.reduceSub,Nat.reduceMul,Nat.reduceBEq,Nat.reduceLeDiff,Int.reduceBEq,Int.reduceBNe,Int.reduceLE,Int.reduceLT,Int.reduceGE,Int.reduceGT,Int.reduceNeg,kn,eI,mB,fL,hx,← e1,hb,hon,hoS,← e2]
end
theorem zuk {σ:Store} {p a m ab:Nat} {L:List In} {M:At} (h:CS σ p a m L M) (al:Hd × Co) (hb:dE σ.objs ab=some (cAl al)) (hab:ab < σ.next∧ab≠p∧ab≠a) (hl:L.length < 100000000) (be en:D) (db gb:Nat) (c:Co) (i:Nat) :
  (∃ σ' a' nx,(∀ n N,1≤N→exec (W SD N) n none KF (Eca' p be en db gb ab wJ c i) σ=some (.normal,Eca' p be en db gb ab nx c i,σ'))∧CS σ' p a' m (L ++ nH al.1) M∧Frm p a m a' m σ σ' ∧
  (al.1.form == 1 || al.1.form == 2)=true∧(∃ bx bk,nx=mG bx bk∧HF σ' p a' L.length bx bk∧σ.next≤bx∧σ.next≤bk)) ∨
  ∃ σ' a',(∀ n N,1≤N→exec (W SD N) n none KF (Eca' p be en db gb ab wJ c i) σ=some (.normal,Eca' p be en db gb ab wJ c i,σ'))∧CS σ' p a' m (L ++ nH al.1) M∧Frm p a m a' m σ σ'∧(al.1.form == 1 || al.1.form == 2)=false:=by
 have hlS:=mO al.1.vars
 unfold nH
 simp only [cAl] at hb
 cases e1:al.1.form == 1 with
 | true =>
  left
  simp only [dJ,Bool.true_or,true_and]
  obtain ⟨σ1,bx,bk,a1,h1,h2,h3,h4,h5,h6,h7⟩:=Vv (S:=SD) rfl h.ca (by omega) ⟨zhz,0,0,al.1.name⟩
  have c1:CS σ1 p a1 m (L ++ [⟨zhz,0,0,al.1.name⟩]) M:=⟨h2,by rw [h4]; exact h.map,by have:=(h3 m).nx; have:=h.mn; omega⟩
  obtain ⟨σ2,h8,h9,h10⟩:=jZ c1 (by simp; omega) zkr al.1.vars.length
  refine ⟨σ2,_,mG bx bk,fun n N hN=>?_,by simpa using h9,(h3 m).trans h10,bx,bk,rfl,h5.keep h10,h6,h7⟩
  obtain ⟨N,rfl⟩:∃ k,N=k + 1:=⟨N - 1,by omega⟩
  have hb1:=(h3 m).get hb hab.1 hab.2.1 hab.2.2
  have h1:=h1 N
  have h8:=h8 N
  simp only [zhz,dI] at h1
  simp only [zkr] at h8
  simp only [KF,KB,K0,Of,yP,rS,mV,Eca',sA,Nat.reduceAdd,Nat.reduceSub,Nat.reduceMul,Nat.reduceBEq,Nat.reduceLeDiff,Int.reduceBEq,Int.reduceBNe,Int.reduceLE,Int.reduceLT,Int.reduceGE,Int.reduceGT,Int.reduceNeg,kn,hb,e1,h1,hb1,hlS,h8]
 | false =>
  cases e2:al.1.form == 2 with
  | true =>
   left
   simp only [dJ,dH,Bool.or_true,true_and]
   obtain ⟨σ1,bx,bk,a1,h1,h2,h3,h4,h5,h6,h7⟩:=Vv (S:=SD) rfl h.ca (by omega) ⟨zap,0,al.1.num,[]⟩
   have c1:CS σ1 p a1 m (L ++ [⟨zap,0,al.1.num,[]⟩]) M:=⟨h2,by rw [h4]; exact h.map,by have:=(h3 m).nx; have:=h.mn; omega⟩
   obtain ⟨σ2,h8,h9,h10⟩:=jZ c1 (by simp; omega) uO 1
   refine ⟨σ2,_,mG bx bk,fun n N hN=>?_,by simpa using h9,(h3 m).trans h10,bx,bk,rfl,h5.keep h10,h6,h7⟩
   obtain ⟨N,rfl⟩:∃ k,N=k + 1:=⟨N - 1,by omega⟩
   have h1:=h1 N
   have h8:=h8 N
   simp only [zap,dI] at h1
   simp only [uO] at h8
   simp only [KF,KB,K0,Of,yP,rS,mV,Eca',sA,Nat.reduceAdd,Nat.reduceSub,Nat.reduceMul,Nat.reduceBEq,Nat.reduceLeDiff,Int.reduceBEq,Int.reduceBNe,Int.reduceLE,Int.reduceLT,Int.reduceGE,Int.reduceGT,Int.reduceNeg,kn,hb,e1,e2,h1,h8]
  | false =>
   right
   simp only [dH,bY]
   obtain ⟨σ2,h8,h9,h10⟩:=jZ h (by omega) uO 1
   refine ⟨σ2,_,fun n N hN=>?_,h9,h10,trivial⟩
   obtain ⟨N,rfl⟩:∃ k,N=k + 1:=⟨N - 1,by omega⟩
   have h8:=h8 N
   simp only [uO] at h8
   simp only [KF,KB,K0,Of,yP,rS,mV,Eca',sA,Nat.reduceAdd,Nat.reduceSub,Nat.reduceMul,Nat.reduceBEq,Nat.reduceLeDiff,Int.reduceBEq,Int.reduceBNe,Int.reduceLE,Int.reduceLT,Int.reduceGE,Int.reduceGT,Int.reduceNeg,kn,hb,e1,e2,h8]
end Go.Fu
namespace Go.Fu
open Go Go.Mx
set_option maxRecDepth 10000
set_option maxHeartbeats 4000000
theorem FrA.v {σ σ':Store} (h:FrA σ σ') (V:Nat→Prop) (m:Nat):FrV V V m m σ σ':=⟨h.nx,fun j hj _=>h.ob j hj,h.ty,fun j hj _=>h.ot j hj,fun _ h=>.inl h,.inl rfl⟩
def Ekr (p:Nat) (be en:D) (db gb:Nat) (c:Co) (i:Nat) (b:Bool):Env:={slots:=[(0,⟨false,.ptr p 0⟩),(4,⟨false,be⟩),(5,⟨false,en⟩),(8,⟨false,.ptr db 0⟩),(9,⟨false,.ptr gb 0⟩),(24,⟨false,aD c⟩),(25,⟨false,.int .i64 c.al.length⟩),(26,⟨false,.int .i64 i⟩),(72,⟨false,.bool b⟩)],locs:=[],boxes:=[],defers:=[]}
theorem zuu (st:Bool) {body:Co→At→Int→List In→List In} {g:FuncId} (hg:isY g=false) {al:Hd × Co} (hgo:Okf g al.2 (body al.2)) (hgm:qQ (body al.2)) {σ:Store} {p a m eb ea:Nat} {L:List In} {M:At} {es:List (Nat × Nat × Nat)} (h:CS σ p a m L M) (hk:KX st σ p a eb ea es) {d:Int} {xb db gb ab:Nat} {bl:List (Nat × List Cell)}
  (hb:BxV σ (VX st p eb a ea) ((xb,[⟨false,.ptr p 0⟩]) :: (db,[⟨false,.int .i64 d⟩]) :: (gb,[⟨false,mT g p⟩]) :: (ab,cAl al) :: bl)) (nx:D) (fin:List In→List In)
  (hnx:∀ τ a' m' ea' L',CS τ p a' m' L' M→BxV τ (VX st p eb a' ea') bl→L.length≤L'.length→∃ τ' f caps,D.fn? nx=some (f,[],caps)∧(∀ n,W SD (n + 1) f caps τ=some (.ret ⟨false,.tup []⟩,τ'))∧CS τ' p a' m' (fin L') M∧Frm p a' m' a' m' τ τ')
  (hv:al.1.vars.length < 100000000) (he:es.length < 100000000) (hlen:(nU st al.1 (body al.2 (fE M al.1.vars.reverse d 0) (w64 (d + al.1.vars.length)) L)).length < 50000000) (en:D) (c:Co) (i:Nat) :
  ∃ σ' a' m' ea' es' n0,(∀ N n,n0≤N→exec (W SD N) n none KR (Eca' p (oL st xb eb) en db gb ab nx c i) σ=some (ifB (al.1.form == 3) .ret .normal,Ekr p (oL st xb eb) en db gb c i (al.1.form == 3),σ')) ∧
   CS σ' p a' m' (fin (nU st al.1 (body al.2 (fE M al.1.vars.reverse d 0) (w64 (d + al.1.vars.length)) L))) M∧KX st σ' p a' eb ea' es' ∧
   es'.map Prod.fst=ifB st (es.map Prod.fst ++ [(nU st al.1 (body al.2 (fE M al.1.vars.reverse d 0) (w64 (d + al.1.vars.length)) L)).length - 1]) (es.map Prod.fst)∧FrV (VX st p eb a ea) (VX st p eb a' ea') m m' σ σ':=by
 have hp:=h.ca.pn
 have ha:=h.ca.an
 have hbl:(body al.2 (fE M al.1.vars.reverse d 0) (w64 (d + al.1.vars.length)) L).length≤(nU st al.1 (body al.2 (fE M al.1.vars.reverse d 0) (w64 (d + al.1.vars.length)) L)).length:=by
  unfold nU
  cases st <;> cases al.1.form == 1 <;> simp only [dJ,dH,aF,aG,aH] <;> omega
 have hml:=hgm (fE M al.1.vars.reverse d 0) (w64 (d + al.1.vars.length)) L
 obtain ⟨own,σd,σf,o1,o2,o3,o4,o5,o6,o7,o8,o9,o10⟩:=zkg σ p a hp ha al.1.vars hv
 have cf:=h.fa o6
 have bf:=hb.keep (o6.v (VX st p eb a ea) m)
 have hlo:=o10.len
 rw [bU] at hlo
 obtain ⟨σ1,a1,m1,⟨n1,w1⟩,c1,f1⟩:=Xw (S:=SD) rfl rfl rfl cf o10 (by rw [bU]; omega) d (.fn (.func zhb) [] [.ptr gb 0,.ptr ab 0,.ptr db 0,.ptr σd.next 0]) zhb [] [.ptr gb 0,.ptr ab 0,.ptr db 0,.ptr σd.next 0] rfl rfl
  (body al.2 (fE M al.1.vars.reverse d 0) (w64 (d + al.1.vars.length)) L)
  (fun τ cτ fτ=>by
   have hbx:Bx σf p a [(gb,[⟨false,mT g p⟩]),(ab,cAl al),(db,[⟨false,.int .i64 d⟩]),(σd.next,[⟨false,own⟩])]:=by
    intro q hq
    simp only [aS,aK,or_false] at hq
    have hbb:=bf.bx
    rcases hq with rfl | rfl | rfl | rfl
    ·exact hbb _ (by simp)
    ·exact hbb _ (by simp)
    ·exact hbb _ (by simp)
    ·exact ⟨o7,o9,by show σd.next≠p; omega,by show σd.next≠a; omega⟩
   obtain ⟨σ',a',m',g1,g2,g3⟩:=zp6 (body:=body) hg hgo cτ hlo o2 (hbx.keep fτ) (by omega)
   exact ⟨σ',a',m',_,g1,g2,g3⟩)
 have b1:=bf.keep (f1.v st eb ea)
 have k1:=(hk.keep (o6.frm p a m)).keep f1
 obtain ⟨σ2,a2,ea2,es2,f,caps,n2,q1,q2,q3,q4,q5,q6⟩:=zbmb st c1 k1 (b1.sub (l':=[(xb,[⟨false,.ptr p 0⟩])]) fun q hq=>by rw [bO] at hq; simp [hq]) al (by omega) (by omega)
 have b2:=b1.keep q6
 obtain ⟨σ3,fx,cx,r1,r2,r3,r4⟩:=hnx σ2 a2 m1 ea2 _ q3 (b2.sub fun q hq=>by simp [hq]) (by omega)
 have b3:=b2.keep (r4.v st eb ea2)
 refine ⟨σ3,a2,m1,ea2,es2,max (max n1 n2) (al.1.vars.length + 2),fun N n hN=>?_,r3,q4.keep r4,q5,(((o6.v _ m).trans (f1.v st eb ea)).trans q6).trans (r4.v st eb ea2)⟩
 obtain ⟨N,rfl⟩:∃ k,N=k + 1:=⟨N - 1,by omega⟩
 have o1:=o1 N
 have o5:=o5 N (by omega)
 have w1:=w1 (N + 1) (by omega)
 have q2:=q2 (N + 1) (by omega)
 have r2:=r2 N
 have ab0:=(hb (ab,cAl al) (by simp)).1
 obtain ⟨σe,ee⟩:∃ σe,σe=GA σd t_8 [⟨false,.nils⟩]:=⟨_,rfl⟩
 obtain ⟨σg,eg⟩:∃ σg,σg=SO σe σd.next [⟨false,own⟩]:=⟨_,rfl⟩
 rw [← ee,← eg] at o5
 have be0:dE σe.objs σd.next=some [⟨false,.nils⟩]:=by rw [ee,iN]
 have bg0:dE σg.objs σd.next=some [⟨false,own⟩]:=by rw [eg,jS]
 have db1:=(bf (db,[⟨false,.int .i64 d⟩]) (by simp)).1
 have ab1:=(b1 (ab,cAl al) (by simp)).1
 have ab3:=(b3 (ab,cAl al) (by simp)).1
 have hda:=pD al
 rw [hda] at q2
 simp only [cAl] at ab0 ab1 ab3
 generalize hbd:oL st xb eb=bd at *
 cases hf3:al.1.form == 3 with
 | true=>simp only [KR,KB,K0,Of,yP,rS,mV,Eca',Ekr,sA,Nat.reduceAdd,Nat.reduceSub,Nat.reduceMul,Nat.reduceBEq,Nat.reduceLeDiff,Int.reduceBEq,Int.reduceBNe,Int.reduceLE,Int.reduceLT,Int.reduceGE,Int.reduceGT,Int.reduceNeg,kn,eI,mB,ab0,o1,← ee,be0,o2,o3,o4,pN,← eg,bg0,o5,o7,db1,w1,ab1,q1,q2,r1,r2,ab3,hf3]
 | false=>simp only [KR,KB,K0,Of,yP,rS,mV,Eca',Ekr,sA,Nat.reduceAdd,Nat.reduceSub,Nat.reduceMul,Nat.reduceBEq,Nat.reduceLeDiff,Int.reduceBEq,Int.reduceBNe,Int.reduceLE,Int.reduceLT,Int.reduceGE,Int.reduceGT,Int.reduceNeg,kn,eI,mB,ab0,o1,← ee,be0,o2,o3,o4,pN,← eg,bg0,o5,o7,db1,w1,ab1,q1,q2,r1,r2,ab3,hf3]
end Go.Fu
