/-
 What is made eA of core in which names have a sign more; its code is the same.
-/
import Derived.Test.YtldfbnbckiifeaaGreatDoorFgCq
import Derived.Test.YtldfbnbckiifeaaGreatDoorFgEg
import Derived.Test.YtldfbnbckiifeaaGreatDoorFgEj
import Derived.Test.YtldfbnbckiifeaaGreatDoorFgIds
import Derived.Test.YtldfbnbckiifeaaGreatDoorFgBd
set_option maxHeartbeats 4000000
set_option linter.unusedSimpArgs false
set_option linter.unusedVariables false
set_option linter.unusedSectionVars false
namespace Go.Fu
open Go Go.Mx
set_option maxRecDepth 10000
theorem zcrb (i:Nat):∀ b∈tB ((i:Int) + 1),b≠39:=zoe 39 (by decide) 20 (i + 1) [] fun b hb=>by cases hb
theorem Pl.var {s:Tx} (h0:s≠[]) (h:yO s):Pl (eQ s):=Pl.mk (c:=.mk 1 0 s [] [] []) (fun _=>⟨h0,h⟩) (fun b hb=>by cases hb) (fun b hb=>by cases hb) (fun b hb=>by cases hb) (fun b hb=>by cases hb) (fun b hb=>by cases hb)
theorem Pl.app2 {a b:Co} (ha:Pl a) (hb:Pl b):Pl (appC' a b):=Pl.mk (c:=.mk 4 0 [] [a,b] [] []) (fun h=>absurd h (by simp [Co.f])) (fun b hb=>by cases hb) (fun b hb=>by cases hb) (fun b hb=>by cases hb) (fun x hx=>by
  simp only [Co.ks,aS,aK,or_false] at hx
  rcases hx with rfl | rfl
  ·exact ha
  ·exact hb) (fun b hb=>by cases hb)
theorem zwj (s:Tx):Wf (eQ s):=Wf.mk (c:=.mk 1 0 s [] [] []) ⟨fun _=>rfl,fun _=>rfl,fun _=>⟨rfl,rfl⟩⟩ (fun b hb=>by cases hb) (fun b hb=>by cases hb) (fun b hb=>by cases hb)
theorem zgub {a b:Co} (ha:Wf a) (hb:Wf b):Wf (appC' a b):=Wf.mk (c:=.mk 4 0 [] [a,b] [] []) ⟨fun _=>rfl,fun _=>rfl,fun h=>absurd h (by simp [Co.f])⟩ (fun b hb=>by cases hb) (fun x hx=>by
  simp only [Co.ks,aS,aK,or_false] at hx
  rcases hx with rfl | rfl
  ·exact ha
  ·exact hb) (fun b hb=>by cases hb)
theorem zjc:∀ (l:List Tx) (c:Co),Pl c→Wf c→(∀ s∈l,s≠[]∧yO s)→Pl (kS c l)∧Wf (kS c l)
 | [],c,h,w,_=>⟨h,w⟩
 | s :: l,c,h,w,hl=>zjc l _ (h.app2 (.var (hl s (aQ ..)).1 (hl s (aQ ..)).2)) (zgub w (zwj s)) fun x hx=>hl x (aI _ hx)
def PF (r:Co × List Su):Prop:=(Pl r.1∧Wf r.1)∧∀ u∈r.2,PlU u
theorem zcyb {c:Co} (hp:Pl c) (hw:Wf c) (ar:List Tx) (t:Tx) (m:List Su) (ha:∀ s∈ar,Nq s) (ht:yO t) (hm:∀ u∈m,PlU u):PF (pK c ar t m):=by
 have hin:∀ x∈fU c.size c [] ar [],Nq x:=fun x hx=>ha x (Bj.1 ((zck _ _ _ _ _ x hx).resolve_left (by simp)))
 have hn:yO (oQ t m):=fun b hb=>by
  simp only [oQ,bJ,aS,aK,or_false] at hb
  rcases hb with (h | rfl) | h
  ·exact ht b h
  ·decide
  ·exact zcrb m.length b h
 refine ⟨zjc _ _ (.var (by simp [oQ]) hn) (zwj _) fun s hs=>⟨(hin s hs).ne,fun b hb=>((hin s hs).no b hb).2⟩,fun u hu=>?_⟩
 simp only [pK,bJ,aS,aK,or_false] at hu
 rcases hu with h | rfl
 ·exact hm u h
 ·exact ⟨hn,hp,hw,hin⟩
section
theorem zos {F:Co→List Su→Co × List Su}:∀ (l:List (Tx × Co)) (m:List Su),(∀ p∈l,∀ m,(∀ u∈m,PlU u)→PF (F p.2 m))→(∀ u∈m,PlU u)→(∀ q∈(fF F l m).1,Pl q.2∧Wf q.2)∧∀ u∈(fF F l m).2,PlU u
 | [],m,_,h=>⟨(fun q hq=>by cases hq),h⟩
 | p :: l,m,hF,h=>by
  obtain ⟨h1,h2⟩:=hF p (aQ ..) m h
  obtain ⟨h3,h4⟩:=zos l _ (fun q hq=>hF q (aI _ hq)) h2
  refine ⟨fun q hq=>?_,h4⟩
  rcases aS.1 hq with rfl | hq
  ·exact h1
  ·exact h3 q hq
theorem zou {F:Co→List Su→Co × List Su}:∀ (l:List Co) (m:List Su),(∀ p∈l,∀ m,(∀ u∈m,PlU u)→PF (F p m))→(∀ u∈m,PlU u)→(∀ q∈(gP F l m).1,Pl q∧Wf q)∧∀ u∈(gP F l m).2,PlU u
 | [],m,_,h=>⟨(fun q hq=>by cases hq),h⟩
 | p :: l,m,hF,h=>by
  obtain ⟨h1,h2⟩:=hF p (aQ ..) m h
  obtain ⟨h3,h4⟩:=zou l _ (fun q hq=>hF q (aI _ hq)) h2
  refine ⟨fun q hq=>?_,h4⟩
  rcases aS.1 hq with rfl | hq
  ·exact h1
  ·exact h3 q hq
theorem zoq {F:Hd→Co→List Su→Co × List Su}:∀ (l:List (Hd × Co)) (m:List Su),(∀ p∈l,∀ m,(∀ u∈m,PlU u)→PF (F p.1 p.2 m))→(∀ u∈m,PlU u)→(∀ q∈(iE F l m).1,Pl q.2∧Wf q.2)∧(iE F l m).1.map Prod.fst=l.map Prod.fst∧∀ u∈(iE F l m).2,PlU u
 | [],m,_,h=>⟨(fun q hq=>by cases hq),rfl,h⟩
 | p :: l,m,hF,h=>by
  obtain ⟨h1,h2⟩:=hF p (aQ ..) m h
  obtain ⟨h3,h5,h4⟩:=zoq l _ (fun q hq=>hF q (aI _ hq)) h2
  refine ⟨fun q hq=>?_,by simp only [iE,aO,h5],h4⟩
  rcases aS.1 hq with rfl | hq
  ·exact h1
  ·exact h3 q hq
end
theorem zfnb {c:Co} {ks:List Co} {bs:List (Tx × Co)} {al:List (Hd × Co)} (h:Bnd c) (h1:ks.length=c.ks.length) (h2:bs.length=c.bs.length) (h3:al.length=c.al.length):Bnd (.mk c.f c.n c.s ks bs al):=by
 refine ⟨fun e=>?_,fun e=>?_,fun e=>⟨?_,?_⟩⟩
 ·have:=h.1 e
  rw [this] at h2
  exact aR.1 h2
 ·have:=h.2.1 e
  rw [this] at h3
  exact aR.1 h3
 ·have:=(h.2.2 e).1
  rw [this] at h1
  exact aR.1 h1
 ·have:=(h.2.2 e).2
  rw [this] at h3
  exact aR.1 h3
theorem Ix:∀ (k:Nat) (c:Co) (lz:Bool) (ar:List Tx) (t:Tx) (m:List Su),Pl c→Wf c→(∀ s∈ar,Nq s)→yO t→(∀ u∈m,PlU u)→PF (fH k c lz ar t m)
 | 0,c,lz,ar,t,m,hp,hw,_,_,hm=>⟨⟨hp,hw⟩,hm⟩
 | k + 1,c,lz,ar,t,m,hp,hw,ha,ht,hm=>by
  simp only [fH]
  cases kZ c lz with
  | true=>exact zcyb hp hw ar t m ha ht hm
  | false =>
   simp only [dH]
   obtain ⟨p1,p2,p3,p4,p5,p6⟩:=hp.out
   obtain ⟨w0,w1,w2,w3⟩:=hw.bnd
   have hn:∀ s∈ar ++ nms c,Nq s:=fun s hs=>by
    rcases bJ.1 hs with h | h
    ·exact ha s h
    ·obtain ⟨b,hb,rfl⟩:=bF.1 h
     exact p2 b hb
   obtain ⟨b1,b2⟩:=zos (F:=fun x m=>fH k x true (ar ++ c.bs.map Prod.fst) t m) c.bs m (fun p hp m hm=>Ix k p.2 _ _ t m (p4 p hp) (w1 p hp) hn ht hm) hm
   obtain ⟨k1,k2⟩:=zou (F:=fun x m=>fH k x (lz || (c.f == 4)) (ar ++ c.bs.map Prod.fst) t m) c.ks _ (fun p hp m hm=>Ix k p _ _ t m (p5 p hp) (w2 p hp) hn ht hm) b2
   obtain ⟨a1,a3,a2⟩:=zoq (F:=fun h x m=>fH k x false (ar ++ h.vars) t m) c.al _ (fun p hp m hm=>Ix k p.2 _ _ t m (p6 p hp) (w3 p hp) (fun s hs=>by
    rcases bJ.1 hs with h | h
    ·exact ha s h
    ·exact p3 p hp s h) ht hm) k2
   have hbf:=We (fun x m=>fH k x true (ar ++ c.bs.map Prod.fst) t m) c.bs m
   refine ⟨⟨Pl.mk p1 (fun p hp=>?_) (fun a ha v hv=>?_) (fun b hb=>(b1 b hb).1) (fun b hb=>(k1 b hb).1) (fun b hb=>(a1 b hb).1),Wf.mk (zfnb w0 (Wi ..) (Wg ..) (Wb ..)) (fun b hb=>(b1 b hb).2) (fun b hb=>(k1 b hb).2) (fun b hb=>(a1 b hb).2)⟩,a2⟩
   ·have hm:p.1∈(fF (fun x m=>fH k x true (ar ++ c.bs.map Prod.fst) t m) c.bs m).1.map Prod.fst:=bF.2 ⟨p,hp,rfl⟩
    rw [hbf] at hm
    obtain ⟨q,hq,e⟩:=bF.1 hm
    rw [← e]
    exact p2 q hq
   ·have hm:a.1∈(iE (fun h x m=>fH k x false (ar ++ h.vars) t m) c.al (gP (fun x m=>fH k x (lz || (c.f == 4)) (ar ++ c.bs.map Prod.fst) t m) c.ks (fF (fun x m=>fH k x true (ar ++ c.bs.map Prod.fst) t m) c.bs m).2).2).1.map Prod.fst:=bF.2 ⟨a,ha,rfl⟩
    rw [a3] at hm
    obtain ⟨q,hq,e⟩:=bF.1 hm
    exact p3 q hq v (by rw [e]; exact hv)
theorem ze6b {u:Su} (h:PlU u):PF (flM u.body false u.ps u.name []):=Ix _ _ _ _ _ _ h.2.1 h.2.2.1 h.2.2.2 h.1 (fun u hu=>by cases hu)
theorem zi7:∀ (k:Nat) (u:Su),PlU u→jY k (prU u)=(jY k u).map prU∧∀ v∈jY k u,PlU v
 | 0,u,h=>⟨rfl,fun v hv=>by rw [bO.1 hv]; exact h⟩
 | k + 1,u,h=>by
  obtain ⟨⟨h1,h2⟩,h3⟩:=ze6b h
  have e:flM (prU u).body false (prU u).ps (prU u).name []=_:=ze7b h.2.1 h.2.2.1 false u.ps u.name [] h.2.2.2
  have key:∀ l:List Su,(∀ v∈l,PlU v)→(l.map prU).flatMap (jY k)=(l.flatMap (jY k)).map prU∧∀ v∈l.flatMap (jY k),PlU v:=by
   intro l
   induction l with
   | nil=>intro _; exact ⟨rfl,fun v hv=>by cases hv⟩
   | cons x r ih =>
    intro hl
    obtain ⟨a1,a2⟩:=zi7 k x (hl x (aQ ..))
    obtain ⟨b1,b2⟩:=ih fun v hv=>hl v (aI _ hv)
    refine ⟨by rw [aO,bE,bE,aU,a1,b1],fun v hv=>?_⟩
    rw [bE,bJ] at hv
    exact hv.elim (a2 v) (b2 v)
  obtain ⟨a1,a2⟩:=key _ h3
  refine ⟨?_,fun v hv=>?_⟩
  ·simp only [jY,e,aO,a1]
   rfl
  ·rcases aS.1 hv with rfl | hv
   ·exact ⟨h.1,h1,h2,h.2.2.2⟩
   ·exact a2 v hv
theorem zxj {u:Su} (h:PlU u):jJ (prU u)=(jJ u).map prU∧∀ v∈jJ u,PlU v:=by
 have e:(prU u).body.size=u.body.size:=nJ _ _
 simp only [jJ,e]
 exact zi7 _ u h
def Rl (so:List Tx) (M M':At):Prop:=(∀ s,M' (rho s)=M s)∧(∀ s,yO s→M' s=none)∧∀ s,(M s).isSome=fO so s
theorem Rl.nil:Rl [] zcu zcu:=⟨fun _=>rfl,fun _ _=>rfl,fun _=>rfl⟩
theorem Rl.put {so:List Tx} {M M':At} (h:Rl so M M') (x:Tx) (v:Int):Rl (so ++ [x]) (pU M x v) (pU M' (rho x) v):=by
 refine ⟨fun s=>?_,fun s hs=>?_,fun s=>?_⟩
 ·simp only [pU,zc9,h.1 s]
 ·have:(s == rho x)=false:=beq_false_of_ne fun e=>zvu hs e.symm
  simp only [pU,this,dH,h.2.1 s hs]
 ·have e1:fO [x] s=(s == x):=by
   simp only [fO,List.any_cons,List.any_nil,bY]
   exact Bool.beq_comm
  rw [nL,e1]
  simp only [pU]
  cases s == x with
  | true=>simp [ifB]
  | false=>simp [ifB,h.2.2 s]
theorem Rl.wi:∀ (l:List Tx) {so:List Tx} {M M':At} (d:Int) (i:Nat),Rl so M M'→Rl (so ++ l) (fE M l d i) (fE M' (l.map rho) d i)
 | [],so,M,M',d,i,h=>by rw [bP]; exact h
 | x :: l,so,M,M',d,i,h=>by
  have:=Rl.wi l d (i + 1) (h.put x (w64 (d + (i:Int))))
  rw [bR] at this
  exact this
theorem Rl.same {so so':List Tx} {M M':At} (h:Rl so M M') (e:∀ s,fO so s=fO so' s):Rl so' M M':=⟨h.1,h.2.1,fun s=>by rw [h.2.2,e]⟩
theorem zjf (a l:List Tx) (s:Tx):fO (a ++ l.reverse) s=fO (a ++ l) s:=by
 rw [nL,nL]
 congr 1
 exact List.any_reverse
theorem Yv (so:List Tx) (c:Co) (i:Nat):kid (prC so c) i=prC (so ++ nms c) (kid c i):=by
 have h0:prC (so ++ nms c) c0=c0:=by rw [fX]; rfl
 rw [fX]
 simp only [kid,co,List.getD_eq_getElem?_getD,List.getElem?_map]
 cases c.ks[i]? with
 | none=>exact h0.symm
 | some x=>rfl
theorem zfpb (so:List Tx) (c:Co):nms (prC so c)=(nms c).map rho:=by
 rw [fX]
 simp only [nms,co,cD]
 rfl
theorem Pl.kid {c:Co} (h:Pl c) (i:Nat):Pl (kid c i):=by
 unfold Fu.kid
 by_cases hi:i < c.ks.length
 ·rw [eY _ _ _ hi]
  exact h.out.2.2.2.2.1 _ (aX hi)
 ·have:c.ks.getD i c0=c0:=by simp [List.getD_eq_getElem?_getD,List.getElem?_eq_none (Nat.le_of_not_lt hi)]
  rw [this]
  exact Pl.mk (c:=.mk 0 0 [] [] [] []) (fun h=>absurd h (by simp [Co.f])) (fun b hb=>by cases hb) (fun b hb=>by cases hb) (fun b hb=>by cases hb) (fun b hb=>by cases hb) (fun b hb=>by cases hb)
theorem Dh {c:Co} (h:Wf c) (i:Nat):Wf (kid c i):=by
 unfold kid
 by_cases hi:i < c.ks.length
 ·rw [eY _ _ _ hi]
  exact h.bnd.2.2.1 _ (aX hi)
 ·have:c.ks.getD i c0=c0:=by simp [List.getD_eq_getElem?_getD,List.getElem?_eq_none (Nat.le_of_not_lt hi)]
  rw [this]
  exact Wf.mk (c:=.mk 0 0 [] [] [] []) ⟨fun _=>rfl,fun _=>rfl,fun h=>absurd h (by simp [Co.f])⟩ (fun b hb=>by cases hb) (fun b hb=>by cases hb) (fun b hb=>by cases hb)
theorem zct {c:Co} (h:Wf c) (hf:c.f≠8):nms c=[]:=by rw [nms,h.bnd.1.1 hf]; rfl
theorem zto {lz lz':Co→List In→List In} (so:List Tx) (k:Nat):∀ (l:List (Tx × Co)) (i:Nat) (L:List In),(∀ b∈l,∀ L,lz' (prC so b.2) L=lz b.2 L)→sK lz' k (l.map (nO so)) i L=sK lz k l i L
 | [],i,L,_=>rfl
 | b :: r,i,L,h=>by
  simp only [aO,sK,nO]
  rw [h b (aQ ..)]
  exact zto so k r (i + 1) _ fun x hx=>h x (aI _ hx)
theorem zjn {lz go lz' go':Co→At→Int→List In→List In} {c:Co} {so:List Tx} {M M':At} (d:Int) (L:List In) (h:Rl so M M')
  (hl:∀ b∈c.bs,∀ (M M':At) d L,Rl (so ++ nms c) M M'→lz' (prC (so ++ nms c) b.2) M' d L=lz b.2 M d L)
  (hg:∀ (M M':At) d L,Rl (so ++ nms c) M M'→go' (prC (so ++ nms c) (kid c 0)) M' d L=go (kid c 0) M d L) :
  Bn lz' go' (prC so c) M' d L=Bn lz go c M d L:=by
 have hR:=Rl.wi (nms c) d 0 h
 have hb:(prC so c).bs=c.bs.map (nO (so ++ nms c)):=by rw [fX]; rfl
 simp only [Bn,Yv,zfpb,hb,aJ]
 rw [hg _ _ _ _ hR,zto (lz:=fun b L=>lz b (fE M (nms c) d 0) (w64 (d + c.bs.length)) L) (lz':=fun b L=>lz' b (fE M' ((nms c).map rho) d 0) (w64 (d + c.bs.length)) L) (so ++ nms c) c.bs.length c.bs 0 _ fun b hb L=>hl b hb _ _ _ _ hR]
theorem Jk:∀ (n:Nat) (c:Co) (so:List Tx) (M M':At) (d:Int) (L:List In),Pl c→Wf c→Rl so M M'→lzS n (prC so c) M' d L=lzS n c M d L
 | 0,_,_,_,_,_,_,_,_,_=>rfl
 | n + 1,c,so,M,M',d,L,hp,hw,hR=>by
  have h1:(prC so c).f=c.f:=by rw [fX]; rfl
  have h2:(prC so c).n=c.n:=by rw [fX]; rfl
  have h3:(prC so c).s=rn so c.f c.s:=by rw [fX]; rfl
  have h4:(prC so c).bs.length=c.bs.length:=by rw [fX]; exact aJ ..
  simp only [lzS,h1,h2,h3,h4]
  cases e1:c.f == 1 with
  | true =>
   have h39:yO c.s:=(hp.out.1 (by simpa using e1)).2
   simp only [dJ,rn,e1,bX]
   have hs:=hR.2.2 c.s
   cases e:fO so c.s with
   | true =>
    rw [e] at hs
    obtain ⟨v,hv⟩:=aT.1 hs
    simp only [dJ,hR.1,hv,dK]
   | false =>
    rw [e] at hs
    have hv:M c.s=none:=by simpa using hs
    simp only [dH,hR.2.1 _ h39,hv]
  | false =>
   simp only [dH,rn,e1,Bool.false_and]
   cases e4:c.f == 4 with
   | true =>
    have hf:c.f=4:=by simpa using e4
    have hn:nms c=[]:=zct hw (by rw [hf]; decide)
    simp only [dJ,Yv,hn,bP,Jk n _ so M M' _ _ (hp.kid _) (Dh hw _) hR]
   | false =>
    simp only [dH]
    rw [zjn d L hR (fun b hb M M' d L h=>Jk n b.2 _ M M' d L (hp.out.2.2.2.1 b hb) (hw.bnd.2.1 b hb) h) fun M M' d L h=>Jk n _ _ M M' d L (hp.kid _) (Dh hw _) h]
theorem zesb {st:Bool} {body body':Co→At→Int→List In→List In} {M M':At} {so:List Tx} (d:Int) (a:Hd × Co) (s:List In × List Nat) (hR:Rl so M M') (h:∀ (M M':At) d L,Rl (so ++ a.1.vars) M M'→body' (prC (so ++ a.1.vars) a.2) M' d L=body a.2 M d L):mD st body' M' d (mK so a) s=mD st body M d a s:=by
 have hR2:Rl (so ++ a.1.vars) (fE M a.1.vars.reverse d 0) (fE M' (a.1.vars.reverse.map rho) d 0):=(Rl.wi a.1.vars.reverse d 0 hR).same fun s=>zjf _ _ _
 have e1:(mK so a).1.vars.reverse=a.1.vars.reverse.map rho:=by
  simp only [mK,prH,List.map_reverse]
 have e2:(mK so a).1.vars.length=a.1.vars.length:=aJ ..
 have e3:nH (mK so a).1=nH a.1:=by simp only [nH,e2]; rfl
 have e4:∀ L,nU st (mK so a).1 L=nU st a.1 L:=fun L=>by simp only [nU,e2]; rfl
 have e5:(mK so a).1.form=a.1.form:=rfl
 have e6:(mK so a).2=prC (so ++ a.1.vars) a.2:=rfl
 simp only [mD,e1,e2,e3,e4,e5,e6,h _ _ _ _ hR2]
theorem zir {st:Bool} {body body':Co→At→Int→List In→List In} {M M':At} {so:List Tx} (d:Int) (hR:Rl so M M'):∀ (al:List (Hd × Co)) (s:List In × List Nat),(∀ a∈al,∀ (M M':At) d L,Rl (so ++ a.1.vars) M M'→body' (prC (so ++ a.1.vars) a.2) M' d L=body a.2 M d L)→iZ st body' M' d (al.map (mK so)) s=iZ st body M d al s
 | [],s,_=>rfl
 | a :: r,s,h=>by
  have e5:(mK so a).1.form=a.1.form:=rfl
  simp only [aO,iZ,e5,zesb d a s hR (h a (aQ ..)),zir d hR r _ fun x hx=>h x (aI _ hx)]
theorem Tn:∀ (n:Nat) (c:Co) (so:List Tx) (M M':At) (d:Int) (L:List In),Pl c→Wf c→Rl so M M'→stS n (prC so c) M' d L=stS n c M d L
 | 0,_,_,_,_,_,_,_,_,_=>rfl
 | n + 1,c,so,M,M',d,L,hp,hw,hR=>by
  have h1:(prC so c).f=c.f:=by rw [fX]; rfl
  have h3:(prC so c).s=rn so c.f c.s:=by rw [fX]; rfl
  have h4:(prC so c).bs.length=c.bs.length:=by rw [fX]; exact aJ ..
  have h5:(prC so c).al=c.al.map (mK so):=by rw [fX]; rfl
  simp only [stS,h1,h3,h4,h5,nJ]
  cases e8:c.f == 8 with
  | true =>
   simp only [dJ]
   rw [zjn (lz:=fun b=>lzS b.size b) d L hR (fun b hb M M' d L h=>by rw [nJ]; exact Jk _ b.2 _ M M' d L (hp.out.2.2.2.1 b hb) (hw.bnd.2.1 b hb) h) fun M M' d L h=>Tn n _ _ M M' d L (hp.kid _) (Dh hw _) h]
  | false =>
   have hf:c.f≠8:=by simpa using e8
   have hn:nms c=[]:=zct hw hf
   simp only [dH,Yv,hn,bP,Jk _ c so M M' d L hp hw hR]
   cases e10:c.f == 10 with
   | true =>
    have e1:(c.f == 1)=false:=by rw [show c.f=10 by simpa using e10]; rfl
    simp only [dJ,rn,e1,Bool.false_and,dH,Tn n _ so M M' _ _ (hp.kid _) (Dh hw _) hR]
   | false =>
    simp only [dH,Tn n _ so M M' _ _ (hp.kid _) (Dh hw _) hR]
    rw [zir d hR c.al _ fun a ha M M' d L h=>Tn n a.2 _ M M' d L (hp.out.2.2.2.2.2 a ha) (hw.bnd.2.2.2 a ha) h]
theorem zsu:∀ (n:Nat) (c:Co) (so:List Tx) (M M':At) (d:Int) (L:List In),Pl c→Wf c→Rl so M M'→tlS n (prC so c) M' d L=tlS n c M d L
 | 0,_,_,_,_,_,_,_,_,_=>rfl
 | n + 1,c,so,M,M',d,L,hp,hw,hR=>by
  have h1:(prC so c).f=c.f:=by rw [fX]; rfl
  have h5:(prC so c).al=c.al.map (mK so):=by rw [fX]; rfl
  simp only [tlS,h1,h5,nJ]
  cases e8:c.f == 8 with
  | true =>
   simp only [dJ]
   rw [zjn (lz:=fun b=>lzS b.size b) d L hR (fun b hb M M' d L h=>by rw [nJ]; exact Jk _ b.2 _ M M' d L (hp.out.2.2.2.1 b hb) (hw.bnd.2.1 b hb) h) fun M M' d L h=>zsu n _ _ M M' d L (hp.kid _) (Dh hw _) h]
  | false =>
   have hf:c.f≠8:=by simpa using e8
   have hn:nms c=[]:=zct hw hf
   simp only [dH,Yv,hn,bP,Jk _ c so M M' d L hp hw hR,Tn _ c so M M' d L hp hw hR,Tn n _ so M M' _ _ (hp.kid _) (Dh hw _) hR]
   rw [zir d hR c.al _ fun a ha M M' d L h=>zsu n a.2 _ M M' d L (hp.out.2.2.2.2.2 a ha) (hw.bnd.2.2.2 a ha) h]
theorem zw7 {u:Su} (h:PlU u):iQ (prU u)=iQ u:=by
 have hR:Rl u.ps (fE zcu u.ps.reverse 0 0) (fE zcu (u.ps.reverse.map rho) 0 0):=(Rl.wi u.ps.reverse 0 0 Rl.nil).same fun s=>zjf [] _ _
 have e1:(prU u).ps.reverse=u.ps.reverse.map rho:=by simp only [prU,List.map_reverse]
 have e2:(prU u).ps.length=u.ps.length:=aJ ..
 have e3:(prU u).body=prC u.ps u.body:=rfl
 simp only [iQ,e1,e2,e3,nJ,zsu _ u.body u.ps _ _ _ _ h.2.1 h.2.2.1 hR]
 rfl
theorem zbzb (us:List Su) (h:∀ u∈us,PlU u):pC (us.map prU)=pC us:=by
 unfold pC
 congr 1
 induction us with
 | nil=>rfl
 | cons u r ih =>
  obtain ⟨h1,h2⟩:=zxj (h u (aQ ..))
  rw [aO,bE,bE,ih fun v hv=>h v (aI _ hv),h1,cD]
  congr 1
  exact bV fun v hv=>zw7 (h2 v hv)
end Go.Fu
namespace Go.Fu
open Go Go.Mx
set_option maxRecDepth 10000
set_option maxHeartbeats 4000000
def SMd (d:D) (xs:List Int):eD:=[(uM,zau d xs),(n_9,Re),(n_7,zsc d 4)]
def Np (us:List Su):Prop:=GoodP us∧us.length≤4∧∀ u∈us,Vd 5 200 u∧u.body.size≤1200
theorem zd3 {d:D} {xs:List Int} (hR:IR d xs):∃ (m:Nat) (us:List Su) (j:Nat),m < 4∧(∀ σ,T (SMd d xs) 1 uM [d,.int .i64 0] σ=some (.ret ⟨false,.int .i64 (gX xs 0:Nat)⟩,σ))∧m=gX xs 0 % 4 ∧
  gU (exec (T (SMd d xs) 1) 6 none Vj) 6 (Emd d m [] 1 0) σ0=some (.exit 0,{Emd d m us j (m + 1) with slots:=[(0,⟨false,d⟩),(3,⟨true,Ph⟩),(4,⟨true,Vz⟩),(5,⟨false,.int .i64 (m + 1:Nat)⟩),(6,⟨false,.int .i64 j⟩),(7,⟨true,dUs us⟩),(8,⟨false,.int .i64 (m + 1:Nat)⟩),(26,⟨false,.bool false⟩)]},σ0)∧Np us∧us.map Su.name=kB.take (m + 1)∧∀ u∈us,Pl u.body∧∀ s∈u.ps,Nv s:=by
 have hp0:∀ σ,T (SMd d xs) 1 uM [d,.int .i64 0] σ=some (.ret ⟨false,.int .i64 (gX xs 0:Nat)⟩,σ):=fun σ=>nY (S:=SMd d xs) rfl hR 0 (by omega) 0 σ
 obtain ⟨m,hm⟩:∃ m,m=gX xs 0 % 4:=⟨_,rfl⟩
 have hm4:m < 4:=by rw [hm]; exact Nat.mod_lt _ (by decide)
 have hN:szN 4=681:=rfl
 have hT4:szT 4=1106:=rfl
 have hal:(kB.take (m + 1)).length=m + 1:=by simp [kB]; omega
 obtain ⟨r,hr,us,j,rfl,q1,q2⟩:=uX (body:=exec (T (SMd d xs) 1) 6 none Vj)
  (fun i e σ=>σ=σ0∧∃ us j,e=Emd d m us j i∧us.map Su.name=kB.take i∧j≤1 + i * 682∧∀ u∈us,∃ k,k < 4∧u.ps=nN.take k∧u.name.length=1∧Good (kB.take (m + 1) ++ u.ps) u.body∧mR u.body∧u.body.size≤1106∧hgt u.body≤5)
  (fun r=>∃ us j,r=(.exit 0,{Emd d m us j (m + 1) with slots:=[(0,⟨false,d⟩),(3,⟨true,Ph⟩),(4,⟨true,Vz⟩),(5,⟨false,.int .i64 (m + 1:Nat)⟩),(6,⟨false,.int .i64 j⟩),(7,⟨true,dUs us⟩),(8,⟨false,.int .i64 (m + 1:Nat)⟩),(26,⟨false,.bool false⟩)]},σ0)∧us.map Su.name=kB.take (m + 1)∧∀ u∈us,∃ k,k < 4∧u.ps=nN.take k∧u.name.length=1∧Good (kB.take (m + 1) ++ u.ps) u.body∧mR u.body∧u.body.size≤1106∧hgt u.body≤5) (m + 1)
  (fun i e σ hi ⟨hσ,us,j,he,p1,p2,p3⟩=>by
   subst hσ he
   have h1:=nY (S:=SMd d xs) rfl hR j (by omega) 0 σ0
   generalize gX xs j=v at h1
   have hv4:v % 4 < 4:=Nat.mod_lt _ (by decide)
   have hol:(nN.take (v % 4)).length≤3:=by simp [nN]; omega
   have h2:=Ym (S:=SMd d xs) rfl (kB.take (m + 1)) (nN.take (v % 4)) (by omega) 0 σ0
   have hlu:us.length=(kB.take i).length:=by rw [← p1,aJ]
   have hli:(kB.take i).length≤4:=by simp [kB]; omega
   have hio:i < kB.length:=by simp [kB]; omega
   obtain ⟨c,j',⟨a1,a2,a3,a4,a5⟩,h3⟩:=sY (S:=SMd d xs) rfl (zv8 hR 4 (by omega)) (j + 1) (kB.take (m + 1) ++ nN.take (v % 4)) ⟨fun h=>by
     have:=congrArg List.length h
     rw [aF,hal] at this
     simp at this,by rw [aF,hal]; omega,fun s hs=>by
     rcases bJ.1 hs with h | h
     ·have:=bH h
      simp only [kB,aS,aK,or_false] at this
      rcases this with rfl | rfl | rfl | rfl <;> rfl
     ·have:=bH h
      simp only [nN,aS,aK,or_false] at this
      rcases this with rfl | rfl | rfl <;> rfl,by omega⟩
   have hng:(kB.getD i []).length=1:=by
    rw [eY kB i [] hio]
    have:=aX hio
    generalize kB[i]=s at this
    simp only [kB,aS,aK,or_false] at this
    rcases this with rfl | rfl | rfl | rfl <;> rfl
   refine ⟨_,_,zc5b d m us j i v j' c hi hm4 (by omega) (by omega) (fun h=>?_) h1 h2 (h3 0 σ0),rfl,_,_,rfl,?_,by omega,fun u hu=>?_⟩
   ·cases i with
    | zero=>exact absurd (aR.1 (by rw [hlu]; rfl)) h
    | succ i=>rfl
   ·rw [aU,p1,← hZ kB i hio,← eY kB i [] hio]
    rfl
   ·rcases bJ.1 hu with h | h
    ·exact p3 u h
    ·rw [bO.1 h]
     exact ⟨v % 4,hv4,rfl,hng,a1,a2,by simp only; omega,by simp only; omega⟩)
  (fun e σ ⟨hσ,us,j,he,p1,p2,p3⟩=>by
   subst hσ he
   exact ⟨_,zfmb d m us j,fun _ _ h=>(by cases h),us,j,rfl,p1,p3⟩) 0 6 (Emd d m [] 1 0) σ0 (by omega) (by omega)
  ⟨rfl,_,_,rfl,rfl,by omega,(fun a h=>by cases h)⟩
 have hul:us.length=m + 1:=by rw [← hal,← q1,aJ]
 refine ⟨m,us,j,hm4,hp0,hm,hr,⟨⟨by omega,by rw [q1]; exact ztg m hm4,fun u hu=>?_,fun u hu=>?_⟩,by omega,fun u hu=>?_⟩,q1,fun u hu=>?_⟩
 ·obtain ⟨k,hk,e,_⟩:=q2 u hu
  rw [e]
  exact ⟨zvi k hk,by simp [nN]; omega⟩
 ·obtain ⟨k,hk,e,h1,h2,h3,h4,h5⟩:=q2 u hu
  rw [q1]
  exact ⟨h2,by omega⟩
 ·obtain ⟨k,hk,e,h1,h2,h3,h4,h5⟩:=q2 u hu
  have hpl:u.ps.length≤3:=by rw [e]; simp [nN]; omega
  exact ⟨⟨h3.1,by omega,by omega,by omega⟩,by omega⟩
 ·obtain ⟨k,hk,e,h1,h2,h3,h4,h5⟩:=q2 u hu
  refine ⟨h3.2,fun s hs=>?_⟩
  rw [e] at hs
  have:=bH hs
  simp only [nN,aS,aK,or_false] at this
  rcases this with rfl | rfl | rfl <;> rfl
theorem zc4b {d:D} {xs:List Int} (hR:zh7 pH d xs) (hS:∀ x∈xs,Small x):∃ us,OkP zhp [d] ⟨false,dUs us⟩∧Np us∧∃ m,m < 4∧us.map Su.name=kB.take (m + 1)∧∀ u∈us,Pl u.body∧∀ s∈u.ps,Nv s:=by
 have mkIR:∀ ys:List Int,(∀ x∈ys,Small x)→IR (.list pH (ys.map fun x=>.int .i64 x)) ys:=fun ys hs=>by
  refine ⟨by simp [lenOf],fun i h=>?_,by rw [eT]; exact lN (fun _=>rfl) ys,hs⟩
  have hn:nth (ys.map fun x=>D.int .i64 x) i=some (.int .i64 ys[i]):=by rw [Gq,Gp _ _ h]; rfl
  have hk:(pH.sz == 1)=true:=rfl
  rw [idxL,hk,hn]
  rfl
 have e0:ow 0=false:=rfl
 have e1:dUs []=.nils:=rfl
 have hI:IR d xs:=by
  rcases hR with rfl | ⟨rfl,rfl⟩
  ·exact mkIR xs hS
  ·exact ⟨rfl,fun i h=>by simp at h,rfl,hS⟩
 by_cases hl:xs.length≤80
 ·obtain ⟨m,us,j,hm,hp,hpm,hr,hok,hnm⟩:=zd3 hI
  refine ⟨us,OkP.weak (o:=true) rfl (hU (af:=zbk) (n:=6) (σ':=σ0) (iT (SMd d xs) 1) rfl rfl (by simp [eB,hI.np]) (qN _) ?_),hok,m,hm,hnm⟩
  have hg:¬ ((80:Int) < (xs.length:Int)):=by omega
  have t4:((gX xs 0:Nat):Int).tmod 4=(m:Int):=by rw [hpm]; exact mP _ 4
  have wm:=dV (i:=m) (by omega)
  have hp:=hp σ0
  generalize gX xs 0=v at hp t4
  simp only [Emd,eR,zyb,e0,e1,Ph,Vz] at hr
  simp only [zbk,sA,seval,kn,hI.len,hg,hp,t4,wm,hr]
 ·rcases hR with rfl | ⟨rfl,rfl⟩
  ·have hI2:=mkIR (xs.take 80) fun x hx=>hS x (bH hx)
   obtain ⟨m,us,j,hm,hp,hpm,hr,hok,hnm⟩:=zd3 hI2
   refine ⟨us,OkP.weak (o:=true) rfl (hU (af:=zbk) (n:=6) (σ':=σ0) (iT (SMd (.list pH ((xs.take 80).map fun x=>.int .i64 x)) (xs.take 80)) 1) rfl rfl (by simp only [eB,hI.np]; rfl) (qN _) ?_),hok,m,hm,hnm⟩
   have hg:((80:Int) < (xs.length:Int)):=by omega
   have t4:((gX (xs.take 80) 0:Nat):Int).tmod 4=(m:Int):=by rw [hpm]; exact mP _ 4
   have wm:=dV (i:=m) (by omega)
   have hsl:rI 1 (.list pH (xs.map fun x=>.int .i64 x)) 0 (some 80)=some (.list pH ((xs.take 80).map fun x=>.int .i64 x)):=by
    have h1:decide (0≤80)=true:=rfl
    have h2:decide (80≤(xs.map fun x=>D.int .i64 x).length)=true:=by simp; omega
    have h3:(pH.sz == 1)=true:=rfl
    simp only [rI,Option.getD_some,h2,h3,List.drop_zero,Nat.sub_zero,List.map_take]
    rfl
   have hp:=hp σ0
   have hlen:=hI.len
   generalize gX (xs.take 80) 0=v at hp t4
   generalize D.list pH ((xs.take 80).map fun x=>D.int .i64 x)=d2 at *
   generalize D.list pH (xs.map fun x=>D.int .i64 x)=d1 at *
   have n80:∀ {k:IntKind},D.nat? (.int k 80)=some 80:=rfl
   simp only [Emd,eR,zyb,e0,e1,Ph,Vz] at hr
   simp only [zbk,sA,seval,kn,hlen,hg,hsl,n80,hp,t4,wm,hr]
  ·exact absurd (Nat.zero_le 80) hl
end Go.Fu
namespace Go.Fu
open Go Go.Mx
set_option maxRecDepth 10000
set_option maxHeartbeats 4000000
def Nk (us:List Su) (acc:List Cd) (i:Nat):Env:={slots:=[(7,⟨true,dDs acc⟩),(62,⟨false,dUs us⟩),(63,⟨false,.int .i64 us.length⟩),(64,⟨false,.int .i64 i⟩)],locs:=[],boxes:=[],defers:=[]}
def Eu (us:List Su) (i:Nat) (vs:List Su) (acc:List Cd) (j:Nat):Env:={slots:=[(7,⟨true,dDs acc⟩),(62,⟨false,dUs us⟩),(63,⟨false,.int .i64 us.length⟩),(64,⟨false,.int .i64 i⟩),(69,⟨false,dUs vs⟩),(70,⟨false,.int .i64 vs.length⟩),(71,⟨false,.int .i64 j⟩)],locs:=[],boxes:=[],defers:=[]}
section
variable {C:dQ} {n:Nat} {σ:Store}
theorem ze2b (us:List Su) (acc:List Cd) (o:Bool):exec C n none lR (Et us acc o 5) σ=some (.exit 0,{Et us acc o 5 with slots:=[(1,⟨false,dUs us⟩),(7,⟨o,dDs acc⟩),(23,⟨false,dFs FL⟩),(24,⟨false,.int .i64 5⟩),(25,⟨false,.int .i64 (5:Nat)⟩),(26,⟨false,.bool false⟩)]},σ):=by
 have hlt:¬ (((5:Nat):Int) < 5):=by omega
 simp only [lR,Et,sA,Nat.reduceAdd,Nat.reduceSub,Nat.reduceMul,Nat.reduceBEq,Nat.reduceLeDiff,Int.reduceBEq,Int.reduceBNe,Int.reduceLE,Int.reduceLT,Int.reduceGE,Int.reduceGT,Int.reduceNeg,kn,hlt]
theorem zb9b (us:List Su) (i:Nat) (vs:List Su) (acc:List Cd) (j:Nat) (hj:j < vs.length) (hv:vs.length < 100000000) (hl:acc.length < 100000000) (c:Cd) (hc:C Pv [dU vs[j]] σ=some (.ret ⟨false,dD c⟩,σ)):exec C n none kW (Eu us i vs acc j) σ=some (.normal,Eu us i vs (acc ++ [c]) (j + 1),σ):=by
 have hlt:((j:Int) < (vs.length:Int)):=by omega
 have w:=dV (i:=j) (by omega)
 have hx:=Je vs j hj
 generalize vs[j]=u at hx hc
 have hon:=jO u.body
 have hoS:=gW u.ps
 have hap:=zasb acc c true (fun _=>rfl) (by omega)
 have hdd:dD c=.agg [.str c.name,.int .i64 c.arity,dIs c.body]:=rfl
 have hoI:(dIs c.body).one=true:=fM
 have okI:(dIs c.body).ok=true:=gZ
 have ceI:(dIs c.body).cells=[dIs c.body]:=fG
 rw [hdd] at hap hc
 rw [Gl] at hx hc
 simp only [kW,Eu,sA,Nat.reduceAdd,Nat.reduceSub,Nat.reduceMul,Nat.reduceBEq,Nat.reduceLeDiff,Int.reduceBEq,Int.reduceBNe,Int.reduceLE,Int.reduceLT,Int.reduceGE,Int.reduceGT,Int.reduceNeg,kn,eI,mB,hlt,fL,hx,hon,hoS,hc,hap,hoI,okI,ceI,w]
theorem ze3b (us:List Su) (i:Nat) (vs:List Su) (acc:List Cd):exec C n none kW (Eu us i vs acc vs.length) σ=some (.exit 6,{Eu us i vs acc vs.length with slots:=[(7,⟨true,dDs acc⟩),(62,⟨false,dUs us⟩),(63,⟨false,.int .i64 us.length⟩),(64,⟨false,.int .i64 i⟩),(69,⟨false,dUs vs⟩),(70,⟨false,.int .i64 vs.length⟩),(71,⟨false,.int .i64 vs.length⟩),(72,⟨false,.bool false⟩)]},σ):=by
 have hlt:¬ ((vs.length:Int) < (vs.length:Int)):=by omega
 simp only [kW,Eu,sA,Nat.reduceAdd,Nat.reduceSub,Nat.reduceMul,Nat.reduceBEq,Nat.reduceLeDiff,Int.reduceBEq,Int.reduceBNe,Int.reduceLE,Int.reduceLT,Int.reduceGE,Int.reduceGT,Int.reduceNeg,kn,hlt]
theorem zcab (us:List Su) (i:Nat) (vs:List Su) (acc acc':List Cd) (hi:i < us.length) (hu:us.length < 100000000) (hc:C wT [dU us[i]] σ=some (.ret ⟨false,dUs vs⟩,σ))
  (hl:gU (exec C n none kW) n (Eu us i vs acc 0) σ=some (.exit 6,{Eu us i vs acc' vs.length with slots:=[(7,⟨true,dDs acc'⟩),(62,⟨false,dUs us⟩),(63,⟨false,.int .i64 us.length⟩),(64,⟨false,.int .i64 i⟩),(69,⟨false,dUs vs⟩),(70,⟨false,.int .i64 vs.length⟩),(71,⟨false,.int .i64 vs.length⟩),(72,⟨false,.bool false⟩)]},σ)) :
  exec C n none lT (Nk us acc i) σ=some (.normal,Nk us acc' (i + 1),σ):=by
 have hlt:((i:Int) < (us.length:Int)):=by omega
 have w:=dV (i:=i) (by omega)
 have hx:=Je us i hi
 generalize us[i]=u at hx hc
 have hon:=jO u.body
 have hoS:=gW u.ps
 have hlv:=zQ vs
 rw [Gl] at hx hc
 simp only [Eu,eR] at hl
 simp only [lT,Nk,sA,Nat.reduceAdd,Nat.reduceSub,Nat.reduceMul,Nat.reduceBEq,Nat.reduceLeDiff,Int.reduceBEq,Int.reduceBNe,Int.reduceLE,Int.reduceLT,Int.reduceGE,Int.reduceGT,Int.reduceNeg,kn,eI,mB,hlt,fL,hx,hon,hoS,hc,hlv,hl,w]
theorem ze4b (us:List Su) (acc:List Cd):exec C n none lT (Nk us acc us.length) σ=some (.exit 4,{Nk us acc us.length with slots:=[(7,⟨true,dDs acc⟩),(62,⟨false,dUs us⟩),(63,⟨false,.int .i64 us.length⟩),(64,⟨false,.int .i64 us.length⟩),(65,⟨false,.bool false⟩)]},σ):=by
 have hlt:¬ ((us.length:Int) < (us.length:Int)):=by omega
 simp only [lT,Nk,sA,Nat.reduceAdd,Nat.reduceSub,Nat.reduceMul,Nat.reduceBEq,Nat.reduceLeDiff,Int.reduceBEq,Int.reduceBNe,Int.reduceLE,Int.reduceLT,Int.reduceGE,Int.reduceGT,Int.reduceNeg,kn,hlt]
end
structure CompOK (us:List Su):Prop where
 good:GoodP us
 few:us.length≤6
 pre:∀ u∈us,Vd 6 200 u∧u.body.size≤1200
theorem Vs {us:List Su} (h:CompOK us) (u:Su) (hu:u∈us):OkP wT [dU u] ⟨false,dUs (jJ u)⟩∧(∀ v∈jJ u,FlU 200 v)∧(jJ u).length≤1200:=by
 obtain ⟨h1,h2⟩:=h.pre u hu
 obtain ⟨h3,h4,h5,_⟩:=zxm (B:=6) (B':=200) (by omega) (by omega) u.body.size u (aM _) h1
 exact ⟨h3,h4,by unfold jJ; omega⟩
theorem zw6 {u:Su} (h:FlU 200 u):OkP Pv [dU u] ⟨false,dD (iQ u)⟩∧(iQ u).body.length < 9000000:=by
 obtain ⟨h1,h2,h3⟩:=h
 have h4:=(zn4 h1 h3).2
 exact ⟨zt2 u h1 (by omega) (by omega) (by omega),by omega⟩
theorem zxa {us:List Su} (h:CompOK us):∃ σ',oM Ra (fun _ _ _=>none) nF 0 (exec (W (SGC us) 2) 100000 none nF.body (jE [dFs FL,dUs us]) σ0)=some (.ret ⟨false,.tup [dDs (pC us),.int .i64 0]⟩,σ'):=by
 have hfew:=h.few
 obtain ⟨cw,hw1,hw2⟩:=qS (S:=SGC us) (s:=spGw us) rfl rfl (ds:=[dFs FL,dUs us]) (c:=⟨false,.int .i64 0⟩) (fun _=>rfl) (zl2 us h.good)
 rw [hw1 rfl] at hw2
 have hF:FL.length=5:=rfl
 obtain ⟨r,hr,σ1,hr1⟩:=uX (body:=exec (W (SGC us) 2) 100000 none lR)
  (fun i e _=>i≤5∧e=Et us ((FL.take i).map iF) (ow i) i)
  (fun r=>∃ σ1,r=(.exit 0,{Et us (FL.map iF) true 5 with slots:=[(1,⟨false,dUs us⟩),(7,⟨true,dDs (FL.map iF)⟩),(23,⟨false,dFs FL⟩),(24,⟨false,.int .i64 5⟩),(25,⟨false,.int .i64 (5:Nat)⟩),(26,⟨false,.bool false⟩)]},σ1)) 5
  (fun i e σ hi ⟨_,he⟩=>by
   subst he
   obtain ⟨σ',hs⟩:=zb8b us ((FL.take i).map iF) (ow i) (fun hne=>by
    cases i with
    | zero=>exact absurd rfl hne
    | succ i=>rfl) i (by omega) (by rw [aJ,bI]; omega) σ 1 100000 (by omega)
   refine ⟨_,_,hs,by omega,?_⟩
   rw [← hZ FL i (by omega),aU]
   rfl)
  (fun e σ ⟨_,he⟩=>by
   subst he
   exact ⟨_,ze2b us _ _,fun _ _ h=>(by cases h),σ,rfl⟩) 0 100000 (Et us [] false 0) σ0 (by omega) (by omega) ⟨by omega,rfl⟩
 subst hr1
 have hfo:=Vs h
 have hlen:∀ l:List Su,(∀ u∈l,u∈us)→(l.flatMap fun u=>(jJ u).map iQ).length≤1200 * l.length:=by
  intro l
  induction l with
  | nil=>intro _; simp
  | cons x r ih =>
   intro hl
   have h1:=ih fun u hu=>hl u (aI _ hu)
   have h2:=(hfo x (hl x (aQ ..))).2.2
   rw [bE,aF,aJ,aG]
   omega
 have hrun:=iL (body:=exec (W (SGC us) 2) 100000 none lT) (fun i=>Nk us (FL.map iF ++ (us.take i).flatMap fun u=>(jJ u).map iQ) i) (fun _=>σ1) us.length (r:=_) (fun _ _ h=>by cases h) (fun i hi=>by
  have hm:=aX hi
  obtain ⟨f1,f2,f3⟩:=hfo _ hm
  obtain ⟨cf,hf1,hf2⟩:=qS (S:=SGC us) (s:=spGf) rfl rfl (ds:=[dU us[i]]) (c:=⟨false,dUs (jJ us[i])⟩) (fun u hu=>by
   simp only [aL,and_true] at hu
   rw [Ol hu]) f1
  rw [hf1 _ rfl] at hf2
  have hll:=hlen (us.take i) fun u hu=>bH hu
  rw [bI] at hll
  have hin:=iL (body:=exec (W (SGC us) 2) 100000 none kW) (fun j=>Eu us i (jJ us[i]) (FL.map iF ++ ((us.take i).flatMap fun u=>(jJ u).map iQ) ++ ((jJ us[i]).take j).map iQ) j) (fun _=>σ1) (jJ us[i]).length (r:=_) (fun _ _ h=>by cases h) (fun j hj=>by
   have hmj:=aX hj
   obtain ⟨g1,_⟩:=zw6 (f2 _ hmj)
   obtain ⟨cc,hc1,hc2⟩:=qS (S:=SGC us) (s:=spGc) rfl rfl (ds:=[dU (jJ us[i])[j]]) (c:=⟨false,dD (iQ (jJ us[i])[j])⟩) (fun u hu=>by
    simp only [aL,and_true] at hu
    rw [Ol hu]) g1
   rw [hc1 _ rfl] at hc2
   have hs:=zb9b (C:=W (SGC us) 2) (n:=100000) (σ:=σ1) us i (jJ us[i]) (FL.map iF ++ ((us.take i).flatMap fun u=>(jJ u).map iQ) ++ ((jJ us[i]).take j).map iQ) j hj (by omega) (by
    rw [aF,aF,aJ,aJ,bI]
    omega) (iQ (jJ us[i])[j]) (hc2 1 σ1)
   rw [← hZ (jJ us[i]) j hj,aU,← bR]
   exact hs) (ze3b us i (jJ us[i]) _) 0 100000 (by omega) (by omega)
  rw [aV] at hin
  have e0:FL.map iF ++ ((us.take i).flatMap fun u=>(jJ u).map iQ) ++ ((jJ us[i]).take 0).map iQ=FL.map iF ++ ((us.take i).flatMap fun u=>(jJ u).map iQ):=by simp
  simp only [e0] at hin
  have hs:=zcab (C:=W (SGC us) 2) (n:=100000) (σ:=σ1) us i (jJ us[i]) _ _ hi (by omega) (hf2 1 σ1) hin
  rw [← hZ us i hi,List.flatMap_append,← bR,bE,List.flatMap_nil,bP]
  exact hs) (ze4b us _) 0 100000 (by omega) (by omega)
 rw [aV] at hrun
 have e0:(FL.map iF ++ (us.take 0).flatMap fun u=>(jJ u).map iQ)=FL.map iF:=by simp
 simp only [e0] at hrun
 have hcomp:(FL.map iF ++ us.flatMap fun u=>(jJ u).map iQ)=pC us:=rfl
 rw [hcomp] at hrun
 have hw:=hw2 1 σ0
 have hlF:lenOf (dFs FL)=some 5:=rfl
 have hlU:=zQ us
 have h5:((5:Nat):Int)=5:=rfl
 have hnil:dDs []=.nils:=rfl
 have ow0:ow 0=false:=rfl
 have okD:(dDs (pC us)).ok=true:=gZ
 have onD:(dDs (pC us)).one=true:=fM
 generalize pC us=cs at *
 generalize FL.map iF=fc at *
 refine ⟨σ1,?_⟩
 simp only [Et,Nk,eR,h5,hnil,ow0] at hr hrun
 simp only [nF,sA,Nat.reduceAdd,Nat.reduceSub,Nat.reduceMul,Nat.reduceBEq,Nat.reduceLeDiff,Int.reduceBEq,Int.reduceBNe,Int.reduceLE,Int.reduceLT,Int.reduceGE,Int.reduceGT,Int.reduceNeg,kn,eI,mB,hw,hlF,hlU,h5,hr,hrun,okD,onD]
theorem zev {us:List Su} (h:CompOK us):OkP Fe [dFs FL,dUs us] ⟨false,.tup [dDs (pC us),.int .i64 0]⟩:=by
 obtain ⟨σ',hr⟩:=zxa h
 exact sF (af:=nF) (n:=100000) (σ':=σ') (pY (SGC us) 2) rfl rfl (by simp [eB,qN]; rfl) (by simp [eT,eB,zd7]) hr
end Go.Fu
namespace Go.Fu
open Go Go.Mx
set_option maxRecDepth 10000
set_option maxHeartbeats 4000000
end Go.Fu
