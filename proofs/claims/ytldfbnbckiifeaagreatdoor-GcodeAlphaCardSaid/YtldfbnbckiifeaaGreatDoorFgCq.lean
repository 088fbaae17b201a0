/-
 Core in which the names that are given have a sign more: its free names,its eA form.
-/
import Derived.Test.YtldfbnbckiifeaaGreatDoorFgBd
import Derived.Test.YtldfbnbckiifeaaGreatDoorFgEj
import Derived.Test.YtldfbnbckiifeaaGreatDoorFgDc
import Derived.Test.YtldfbnbckiifeaaGreatDoorFgZa
import Derived.Test.YtldfbnbckiifeaaGreatDoorFgO
set_option maxHeartbeats 4000000
set_option linter.unusedSimpArgs false
set_option linter.unusedVariables false
set_option linter.unusedSectionVars false
namespace Go.Fu
open Go Go.Mx
set_option maxRecDepth 10000
def rho (s:Tx):Tx:=s ++ [39]
theorem zdxb {a b:Tx} (h:rho a=rho b):a=b:=List.append_cancel_right h
def yO (s:Tx):Prop:=∀ b∈s,b≠39
theorem zvu {a s:Tx} (h:yO s):rho a≠s:=fun e=>h 39 (by rw [← e]; simp [rho]) rfl
theorem zc9 (a b:Tx):(rho a == rho b)=(a == b):=by
 by_cases h:a=b
 ·subst h; simp
 ·have h1:rho a≠rho b:=fun e=>h (zdxb e)
  rw [beq_false_of_ne h,beq_false_of_ne h1]
def rn (so:List Tx) (f:Int) (s:Tx):Tx:=ifB ((f == 1) && fO so s) (rho s) s
def prH (h:Hd):Hd:=⟨h.form,h.num,h.name,h.vars.map rho⟩
mutual
def prC (so:List Tx):Co→Co
 | .mk f n s ks bs al=>.mk f n (rn so f s) (prK (so ++ bs.map Prod.fst) ks) (prB (so ++ bs.map Prod.fst) bs) (prA so al)
def prK (so:List Tx):List Co→List Co
 | []=>[]
 | c :: r=>prC so c :: prK so r
def prB (so:List Tx):List (Tx × Co)→List (Tx × Co)
 | []=>[]
 | (s,c) :: r=>(rho s,prC so c) :: prB so r
def prA (so:List Tx):List (Hd × Co)→List (Hd × Co)
 | []=>[]
 | (h,c) :: r=>(prH h,prC (so ++ h.vars) c) :: prA so r
end
def nO (so:List Tx) (b:Tx × Co):Tx × Co:=(rho b.1,prC so b.2)
def mK (so:List Tx) (a:Hd × Co):Hd × Co:=(prH a.1,prC (so ++ a.1.vars) a.2)
theorem zo8 (so:List Tx):∀ l,prK so l=l.map (prC so)
 | []=>by simp [prK]
 | c :: r=>by simp [prK,zo8 so r]
theorem zo7 (so:List Tx):∀ l,prB so l=l.map (nO so)
 | []=>by simp [prB]
 | (s,c) :: r=>by simp [prB,zo7 so r,nO]
theorem zo6 (so:List Tx):∀ l,prA so l=l.map (mK so)
 | []=>by simp [prA]
 | (s,c) :: r=>by simp [prA,zo6 so r,mK]
theorem fX (so:List Tx) (c:Co):prC so c=.mk c.f c.n (rn so c.f c.s) (c.ks.map (prC (so ++ nms c))) (c.bs.map (nO (so ++ nms c))) (c.al.map (mK so)):=by
 cases c
 simp only [prC,zo8,zo7,zo6,co,nms]
mutual
theorem nJ:∀ (so:List Tx) (c:Co),(prC so c).size=c.size
 | so,.mk f n s ks bs al=>by simp only [prC,Co.size,zv3,zv2,zv1]
theorem zv3:∀ (so:List Tx) (l:List Co),szK (prK so l)=szK l
 | so,[]=>by simp only [prK]
 | so,c :: r=>by simp only [prK,szK,nJ so c,zv3 so r]
theorem zv2:∀ (so:List Tx) (l:List (Tx × Co)),szB (prB so l)=szB l
 | so,[]=>by simp only [prB]
 | so,(s,c) :: r=>by simp only [prB,szB,nJ so c,zv2 so r]
theorem zv1:∀ (so:List Tx) (l:List (Hd × Co)),szA (prA so l)=szA l
 | so,[]=>by simp only [prA]
 | so,(h,c) :: r=>by simp only [prA,szA,nJ (so ++ h.vars) c,zv1 so r,prH,aJ]
end
mutual
theorem Ys:∀ (so:List Tx) (c:Co),hgt (prC so c)=hgt c
 | so,.mk f n s ks bs al=>by simp only [prC,hgt,zup,zuo,zum]
theorem zup:∀ (so:List Tx) (l:List Co),hgK (prK so l)=hgK l
 | so,[]=>by simp only [prK]
 | so,c :: r=>by simp only [prK,hgK,Ys so c,zup so r]
theorem zuo:∀ (so:List Tx) (l:List (Tx × Co)),hgB (prB so l)=hgB l
 | so,[]=>by simp only [prB]
 | so,(s,c) :: r=>by simp only [prB,hgB,Ys so c,zuo so r]
theorem zum:∀ (so:List Tx) (l:List (Hd × Co)),hgA (prA so l)=hgA l
 | so,[]=>by simp only [prA]
 | so,(h,c) :: r=>by simp only [prA,hgA,Ys (so ++ h.vars) c,zum so r]
end
theorem nL (a b:List Tx) (s:Tx):fO (a ++ b) s=(fO a s || fO b s):=List.any_append
theorem zjg (l:List Tx) (s:Tx):fO (l.map rho) (rho s)=fO l s:=by
 induction l with
 | nil=>rfl
 | cons x r ih =>
  have h1:fO ((x :: r).map rho) (rho s)=((rho x == rho s) || fO (r.map rho) (rho s)):=rfl
  have h2:fO (x :: r) s=((x == s) || fO r s):=rfl
  rw [h1,h2,ih,zc9]
theorem zcib (l:List Tx) {s:Tx} (h:yO s):fO (l.map rho) s=false:=by
 induction l with
 | nil=>rfl
 | cons x r ih =>
  have h1:fO ((x :: r).map rho) s=((rho x == s) || fO (r.map rho) s):=rfl
  rw [h1,ih,beq_false_of_ne (zvu h),Bool.false_or]
theorem Bj {l:List Tx} {s:Tx}:fO l s=true↔s∈l:=by
 unfold fO
 rw [List.any_eq_true]
 constructor
 ·rintro ⟨x,hx,e⟩
  rw [← eq_of_beq e]
  exact hx
 ·intro h
  exact ⟨s,h,bW s⟩
theorem zf3b (so:List Tx) (c:Co):prs (prC so c)=(prs c).map fun p=>(prC (so ++ p.2) p.1,p.2.map rho):=by
 rw [fX]
 have h1:(c.bs.map (nO (so ++ nms c))).map Prod.fst=(nms c).map rho:=by
  simp only [nms,cD]
  rfl
 simp only [prs,co,nms,aU,cD,h1]
 rw [show c.bs.map Prod.fst=nms c from rfl]
 congr 1
 congr 1
 ·refine bV fun b _=>?_
  simp only [Function.comp,nO,nms,cD]
  rfl
 ·refine bV fun b _=>?_
  simp only [Function.comp,nms,cD,nO]
  rfl
theorem Pl.part {c:Co} (h:Pl c):∀ p∈prs c,Pl p.1:=by
 obtain ⟨_,_,_,h1,h2,h3⟩:=h.out
 intro p hp
 simp only [prs,bJ,bF] at hp
 rcases hp with (⟨b,hb,rfl⟩ | ⟨b,hb,rfl⟩) | ⟨b,hb,rfl⟩
 ·exact h1 b hb
 ·exact h2 b hb
 ·exact h3 b hb
theorem zeib {c:Co} (h:Wf c):∀ p∈prs c,Wf p.1:=by
 obtain ⟨_,h1,h2,h3⟩:=h.bnd
 intro p hp
 simp only [prs,bJ,bF] at hp
 rcases hp with (⟨b,hb,rfl⟩ | ⟨b,hb,rfl⟩) | ⟨b,hb,rfl⟩
 ·exact h1 b hb
 ·exact h2 b hb
 ·exact h3 b hb
theorem zc6b {c:Co} (hp:Pl c) (g s h:List Tx):lY (prC (s ++ g) c) (g.map rho) (s.map rho) (h.map rho)=lY c g s h:=by
 rw [fX]
 simp only [lY,co]
 cases e:c.f == 1 with
 | false=>simp
 | true =>
  have h39:yO c.s:=(hp.out.1 (by simpa using e)).2
  cases e1:fO s c.s <;> cases e2:fO g c.s <;> simp [rn,e,nL,e1,e2,ifB,zjg,zcib _ h39]
theorem Wn {c:Co} {g s h:List Tx} (hn:lY c g s h=true):c.f=1∧fO g c.s=false∧fO s c.s=true∧fO h c.s=false:=by
 simp only [lY,aC,Bool.not_eq_true',beq_iff_eq] at hn
 exact ⟨hn.1.1.1,hn.1.1.2,hn.1.2,hn.2⟩
theorem zog:∀ (k:Nat) (c:Co) (g s h:List Tx),Pl c→fU k (prC (s ++ g) c) (g.map rho) (s.map rho) (h.map rho)=(fU k c g s h).map rho
 | 0,c,g,s,h,_=>rfl
 | k + 1,c,g,s,h,hp=>by
  rw [sN,sN,zc6b hp,zf3b]
  cases hn:lY c g s h with
  | true =>
   obtain ⟨h1,_,h3,_⟩:=Wn hn
   have:(prC (s ++ g) c).s=rho c.s:=by
    rw [fX]
    simp [co,rn,h1,nL,h3,ifB]
   simp only [dJ,this,aU,aO,aZ]
  | false =>
   simp only [dH]
   have key:∀ (l:List (Co × List Tx)) (h:List Tx),(∀ p∈l,Pl p.1)→(l.map fun p=>(prC (s ++ g ++ p.2) p.1,p.2.map rho)).foldl (fun h p=>fU k p.1 (g.map rho ++ p.2) (s.map rho) h) (h.map rho)=(l.foldl (fun h p=>fU k p.1 (g ++ p.2) s h) h).map rho:=by
    intro l
    induction l with
    | nil=>intro h _; rfl
    | cons p r ih =>
     intro h hl
     simp only [aO,List.foldl_cons]
     rw [bR,← aU,zog k p.1 (g ++ p.2) s h (hl p (aQ ..))]
     exact ih _ fun q hq=>hl q (aI _ hq)
   exact key _ h hp.part
theorem Pe:∀ (k:Nat) (c:Co) (g s h:List Tx),∀ x∈h,x∈fU k c g s h
 | 0,_,_,_,_,_,hx=>hx
 | k + 1,c,g,s,h,x,hx=>by
  rw [sN]
  cases lY c g s h with
  | true=>exact bJ.2 (.inl hx)
  | false =>
   rw [dH]
   have key:∀ (l:List (Co × List Tx)) (h:List Tx),x∈h→x∈l.foldl (fun h p=>fU k p.1 (g ++ p.2) s h) h:=by
    intro l
    induction l with
    | nil=>intro h hx; exact hx
    | cons p r ih=>intro h hx; exact ih _ (Pe k p.1 _ s h x hx)
   exact key _ h hx
theorem zdt (k:Nat) (g s:List Tx) (x:Tx):∀ (l:List (Co × List Tx)) (h:List Tx),x∈h→x∈l.foldl (fun h p=>fU k p.1 (g ++ p.2) s h) h
 | [],h,hx=>hx
 | p :: r,h,hx=>zdt k g s x r _ (Pe k p.1 _ s h x hx)
theorem zck:∀ (k:Nat) (c:Co) (g s h:List Tx),∀ x∈fU k c g s h,x∈h∨fO s x=true
 | 0,_,_,_,_,_,hx=>.inl hx
 | k + 1,c,g,s,h,x,hx=>by
  rw [sN] at hx
  cases hn:lY c g s h with
  | true =>
   rw [hn,dJ] at hx
   rcases bJ.1 hx with h1 | h1
   ·exact .inl h1
   ·rw [bO.1 h1]
    exact .inr (Wn hn).2.2.1
  | false =>
   rw [hn,dH] at hx
   have key:∀ (l:List (Co × List Tx)) (h:List Tx),x∈l.foldl (fun h p=>fU k p.1 (g ++ p.2) s h) h→x∈h∨fO s x=true:=by
    intro l
    induction l with
    | nil=>intro h hx; exact .inl hx
    | cons p r ih =>
     intro h hx
     rcases ih _ hx with h1 | h1
     ·exact zck k p.1 _ s h x h1
     ·exact .inr h1
   exact key _ h hx
theorem zdu (k:Nat) (g s:List Tx) (P:Tx→Prop):∀ (l:List (Co × List Tx)) (h:List Tx),(∀ x∈l.foldl (fun h p=>fU k p.1 (g ++ p.2) s h) h,P x)→∀ p∈l,∃ h1,∀ x∈fU k p.1 (g ++ p.2) s h1,P x
 | [],_,_,p,hp=>by cases hp
 | q :: r,h,hx,p,hp=>by
  rcases aS.1 hp with rfl | hp
  ·exact ⟨h,fun x hm=>hx x (zdt k g s x r _ hm)⟩
  ·exact zdu k g s P r _ hx p hp
theorem zo9:∀ (k:Nat) (c:Co) (g s h s':List Tx),c.size≤k→Wf c→(∀ x,fO s' x=true→fO s x=true)→(∀ x∈fU k c g s h,fO s' x=true)→prC (s' ++ g) c=prC (s ++ g) c
 | 0,c,_,_,_,_,hk,_,_,_=>by have:=kO c; omega
 | k + 1,c,g,s,h,s',hk,hw,h1,h2=>by
  have hw0:=hw.bnd.1
  have hname:rn (s' ++ g) c.f c.s=rn (s ++ g) c.f c.s:=by
   unfold rn
   cases e:c.f == 1 with
   | false=>rfl
   | true =>
    simp only [bX,nL]
    cases e2:fO g c.s with
    | true=>simp
    | false =>
     cases e3:fO s c.s with
     | false =>
      have:fO s' c.s=false:=by
       cases e4:fO s' c.s with
       | false=>rfl
       | true=>rw [h1 _ e4] at e3; cases e3
      rw [this]
     | true =>
      have hin:c.s∈fU (k + 1) c g s h:=by
       cases e4:fO h c.s with
       | true=>exact Pe _ _ _ _ _ _ (Bj.1 e4)
       | false =>
        have hn:lY c g s h=true:=by simp [lY,e,e2,e3,e4]
        rw [sN,hn,dJ]
        simp
      rw [h2 _ hin]
  have hparts:∀ p∈prs c,prC (s' ++ g ++ p.2) p.1=prC (s ++ g ++ p.2) p.1:=by
   intro p hp
   cases hn:lY c g s h with
   | true =>
    obtain ⟨f1,_⟩:=Wn hn
    obtain ⟨e1,e2⟩:=hw0.2.2 f1
    have e3:=hw0.1 (by rw [f1]; decide)
    simp [prs,e1,e2,e3] at hp
   | false =>
    rw [sN,hn,dH] at h2
    obtain ⟨h',hh⟩:=zdu k g s _ _ h h2 p hp
    have hsz:p.1.size≤k:=by
     have hse:=iV c
     simp only [prs,bJ,bF] at hp
     rcases hp with (⟨b,hb,rfl⟩ | ⟨b,hb,rfl⟩) | ⟨b,hb,rfl⟩
     ·have:=qK c.bs b hb; simp only; omega
     ·have:=vG c.ks b hb; simp only; omega
     ·have:=lU c.al b hb; simp only; omega
    rw [bR,bR]
    exact zo9 k p.1 (g ++ p.2) s h' s' hsz (zeib hw p hp) h1 hh
  have hB:c.bs.map (nO (s' ++ g ++ nms c))=c.bs.map (nO (s ++ g ++ nms c)):=bV fun b hb=>by
   simp only [nO]
   rw [hparts (b.2,nms c) (by simp only [prs,bJ,bF]; exact .inl (.inl ⟨b,hb,rfl⟩))]
  have hK:c.ks.map (prC (s' ++ g ++ nms c))=c.ks.map (prC (s ++ g ++ nms c)):=bV fun b hb =>
   hparts (b,nms c) (by simp only [prs,bJ,bF]; exact .inl (.inr ⟨b,hb,rfl⟩))
  have hA:c.al.map (mK (s' ++ g))=c.al.map (mK (s ++ g)):=bV fun b hb=>by
   simp only [mK]
   rw [hparts (b.2,b.1.vars) (by simp only [prs,bJ,bF]; exact .inr ⟨b,hb,rfl⟩)]
  rw [fX,fX,hname,hB,hK,hA]
def prU (u:Su):Su:=⟨u.name,u.ps.map rho,prC u.ps u.body⟩
def PlU (u:Su):Prop:=yO u.name∧Pl u.body∧Wf u.body∧∀ s∈u.ps,Nq s
theorem zlb (so:List Tx) (s:Tx):prC so (eQ s)=eQ (ifB (fO so s) (rho s) s):=by
 rw [fX]
 simp [eQ,co,rn]
theorem zti (so:List Tx) (a b:Co):prC so (appC' a b)=appC' (prC so a) (prC so b):=by
 rw [fX]
 simp [appC',co,rn,nms,ifB]
theorem zjd (so:List Tx):∀ (l:List Tx) (c:Co),(∀ s∈l,fO so s=true)→prC so (kS c l)=kS (prC so c) (l.map rho)
 | [],c,_=>rfl
 | s :: l,c,h=>by
  rw [kS,zjd so l _ fun x hx=>h x (aI _ hx),zti,zlb,h s (aQ ..),dJ]
  rfl
theorem zisb {l:List Tx} (hl:∀ s∈l,Nq s) {s:Tx} (h:37∈s):fO l s=false:=by
 cases e:fO l s with
 | false=>rfl
 | true=>exact absurd rfl ((hl s (Bj.1 e)).no 37 h).1
theorem zczb {c:Co} (hp:Pl c) (hw:Wf c) (ar:List Tx) (t:Tx) (m:List Su) (ha:∀ s∈ar,Nq s):pK (prC ar c) (ar.map rho) t (m.map prU)=(prC ar (pK c ar t m).1,(pK c ar t m).2.map prU):=by
 have hf:fU (prC ar c).size (prC ar c) [] (ar.map rho) []=(fU c.size c [] ar []).map rho:=by
  have:=zog c.size c [] ar [] hp
  rw [bP] at this
  rw [nJ]
  exact this
 have hin:∀ x∈fU c.size c [] ar [],fO ar x=true:=fun x hx=>(zck _ _ _ _ _ x hx).resolve_left (by simp)
 have hn:oQ t (m.map prU)=oQ t m:=by simp [oQ]
 have h37:37∈oQ t m:=by simp [oQ]
 have hl:=zo9 c.size c [] ar [] (fU c.size c [] ar []) (aM _) hw (fun x hx=>hin x (Bj.1 hx)) fun x hx=>Bj.2 hx
 rw [bP,bP] at hl
 simp only [pK,hf,hn,aU,aO,aZ,prU,hl]
 rw [zjd ar _ _ hin,zlb,zisb ha h37,dH]
section
variable {so:List Tx}
theorem zot {F G:Co→List Su→Co × List Su}:∀ (l:List (Tx × Co)) (m:List Su),(∀ p∈l,∀ m,F (prC so p.2) (m.map prU)=(prC so (G p.2 m).1,(G p.2 m).2.map prU))→fF F (l.map (nO so)) (m.map prU)=((fF G l m).1.map (nO so),(fF G l m).2.map prU)
 | [],m,_=>rfl
 | p :: l,m,h=>by
  simp only [aO,fF,nO]
  rw [h p (aQ ..) m]
  simp only
  have ih:=zot l (G p.2 m).2 fun q hq=>h q (aI _ hq)
  rw [ih]
theorem zov {F G:Co→List Su→Co × List Su}:∀ (l:List Co) (m:List Su),(∀ p∈l,∀ m,F (prC so p) (m.map prU)=(prC so (G p m).1,(G p m).2.map prU))→gP F (l.map (prC so)) (m.map prU)=((gP G l m).1.map (prC so),(gP G l m).2.map prU)
 | [],m,_=>rfl
 | p :: l,m,h=>by
  simp only [aO,gP]
  rw [h p (aQ ..) m]
  simp only
  rw [zov l (G p m).2 fun q hq=>h q (aI _ hq)]
theorem zor {F G:Hd→Co→List Su→Co × List Su}:∀ (l:List (Hd × Co)) (m:List Su),(∀ p∈l,∀ m,F (prH p.1) (prC (so ++ p.1.vars) p.2) (m.map prU)=(prC (so ++ p.1.vars) (G p.1 p.2 m).1,(G p.1 p.2 m).2.map prU))→iE F (l.map (mK so)) (m.map prU)=((iE G l m).1.map (mK so),(iE G l m).2.map prU)
 | [],m,_=>rfl
 | p :: l,m,h=>by
  simp only [aO,iE,mK]
  rw [h p (aQ ..) m]
  simp only
  have ih:=zor l (G p.1 p.2 m).2 fun q hq=>h q (aI _ hq)
  rw [ih]
end
theorem We (F:Co→List Su→Co × List Su):∀ (l:List (Tx × Co)) (m:List Su),(fF F l m).1.map Prod.fst=l.map Prod.fst
 | [],m=>rfl
 | p :: l,m=>by simp only [fF,aO,We F l]
theorem Iy:∀ (k:Nat) (c:Co) (lz:Bool) (ar:List Tx) (t:Tx) (m:List Su),Pl c→Wf c→(∀ s∈ar,Nq s)→fH k (prC ar c) lz (ar.map rho) t (m.map prU)=(prC ar (fH k c lz ar t m).1,(fH k c lz ar t m).2.map prU)
 | 0,c,lz,ar,t,m,_,_,_=>rfl
 | k + 1,c,lz,ar,t,m,hp,hw,ha=>by
  have hli:kZ (prC ar c) lz=kZ c lz:=by rw [fX]; rfl
  simp only [fH,hli]
  cases kZ c lz with
  | true=>exact zczb hp hw ar t m ha
  | false =>
   simp only [dH]
   obtain ⟨_,p2,p3,p4,p5,p6⟩:=hp.out
   obtain ⟨_,w1,w2,w3⟩:=hw.bnd
   have hn:∀ s∈ar ++ nms c,Nq s:=fun s hs=>by
    rcases bJ.1 hs with h | h
    ·exact ha s h
    ·obtain ⟨b,hb,rfl⟩:=bF.1 h
     exact p2 b hb
   have hfst:(c.bs.map (nO (ar ++ nms c))).map Prod.fst=(nms c).map rho:=by
    simp only [nms,cD]
    rfl
   have e1:c.bs.map Prod.fst=nms c:=rfl
   rw [fX]
   simp only [co,hfst,e1]
   rw [← aU]
   have hB:=fun m=>zot (so:=ar ++ nms c) (F:=fun x m=>fH k x true ((ar ++ nms c).map rho) t m) (G:=fun x m=>fH k x true (ar ++ nms c) t m) c.bs m fun p hp m=>Iy k p.2 true (ar ++ nms c) t m (p4 p hp) (w1 p hp) hn
   have hK:=fun m=>zov (so:=ar ++ nms c) (F:=fun x m=>fH k x (lz || (c.f == 4)) ((ar ++ nms c).map rho) t m) (G:=fun x m=>fH k x (lz || (c.f == 4)) (ar ++ nms c) t m) c.ks m fun p hp m=>Iy k p _ (ar ++ nms c) t m (p5 p hp) (w2 p hp) hn
   have hA:=fun m=>zor (so:=ar) (F:=fun h x m=>fH k x false (ar.map rho ++ h.vars) t m) (G:=fun h x m=>fH k x false (ar ++ h.vars) t m) c.al m fun p hp m=>by
    have e:ar.map rho ++ (prH p.1).vars=(ar ++ p.1.vars).map rho:=by rw [aU]; rfl
    simp only [e]
    exact Iy k p.2 false (ar ++ p.1.vars) t m (p6 p hp) (w3 p hp) fun s hs=>by
     rcases bJ.1 hs with h | h
     ·exact ha s h
     ·exact p3 p hp s h
   simp only [hB,hK,hA]
   rw [fX]
   have hf2:∀ (a b c' d:_) (l:List (Tx × Co)) (e:_),nms (Co.mk a b c' d l e)=l.map Prod.fst:=fun _ _ _ _ _ _=>rfl
   simp only [co,hf2,We,e1]
theorem ze7b {c:Co} (hp:Pl c) (hw:Wf c) (lz:Bool) (ar:List Tx) (t:Tx) (m:List Su) (ha:∀ s∈ar,Nq s):flM (prC ar c) lz (ar.map rho) t (m.map prU)=(prC ar (flM c lz ar t m).1,(flM c lz ar t m).2.map prU):=by
 simp only [flM,nJ]
 exact Iy _ _ _ _ _ _ hp hw ha
end Go.Fu
namespace Go.Fu
open Go Go.Mx
set_option maxRecDepth 10000
set_option maxHeartbeats 4000000
section
variable {N n:Nat}
def Evl (l:List Tx) (i:Nat):Env:={slots:=[(0,⟨false,.yld 3⟩),(5,⟨false,dSs l⟩),(6,⟨false,.int .i64 l.length⟩),(7,⟨false,.int .i64 i⟩)],locs:=[],boxes:=[],defers:=[]}
theorem zehb (l:List Tx) (i:Nat) (σ σ':Store) (hi:i < l.length) (hl:l.length < 1000000000) (h1:V N (iG + 3) [.str l[i]] σ=some (.ret ⟨false,.bool true⟩,σ')):exec (V N) n none Rn (Evl l i) σ=some (.normal,Evl l (i + 1),σ'):=by
 have hlt:((i:Int) < (l.length:Int)):=by omega
 have w:=dV (i:=i) (by omega)
 have hx:=rW l i hi
 have hfn:D.fn? (.yld 3)=some (iG + 3,[],[]):=rfl
 simp only [Rn,Evl,sA,seval,kn,mO,hlt,fL,hx,hfn,h1,w]
theorem zgtb (l:List Tx) (σ:Store) {C:dQ}:exec C n none Rn (Evl l l.length) σ=some (.exit 0,{Evl l l.length with slots:=[(0,⟨false,.yld 3⟩),(5,⟨false,dSs l⟩),(6,⟨false,.int .i64 l.length⟩),(7,⟨false,.int .i64 l.length⟩),(8,⟨false,.bool false⟩)]},σ):=by
 have hlt:¬ ((l.length:Int) < (l.length:Int)):=by omega
 simp only [Rn,Evl,sA,seval,kn,hlt]
end
theorem zs7 (l:List Tx) (σ:Store) (d:D) (hl:l.length < 1000000000) (h:WS l σ 0 d .ready) (N:Nat) (hN:l.length < N + 1):∃ σ' d',V (N + 2) zhs [.yld 3,.ptr 0 0] σ=some (.ret ⟨false,.tup []⟩,σ')∧WS l σ' l.length d' .ready:=by
 obtain ⟨r,hr,σ',d',rfl,hw⟩:=uX (body:=exec (V (N + 1)) (N + 1) none Rn)
  (fun i e σ=>∃ d,e=Evl l i∧WS l σ i d .ready)
  (fun r=>∃ σ' d',r=(.exit 0,{Evl l l.length with slots:=[(0,⟨false,.yld 3⟩),(5,⟨false,dSs l⟩),(6,⟨false,.int .i64 l.length⟩),(7,⟨false,.int .i64 l.length⟩),(8,⟨false,.bool false⟩)]},σ')∧WS l σ' l.length d' .ready) l.length
  (fun i e σ hi ⟨d,he,hw⟩=>by
   subst he
   obtain ⟨σ',d',h1,h2⟩:=zwk hw hi (by omega) N
   exact ⟨_,_,zehb l i σ σ' hi (by omega) h1,d',rfl,h2⟩)
  (fun e σ ⟨d,he,hw⟩=>by
   subst he
   exact ⟨_,zgtb l σ,fun _ _ h=>(by cases h),σ,d,rfl,hw⟩) 0 (N + 1) (Evl l 0) σ (by omega) (by omega) ⟨d,rfl,h⟩
 refine ⟨σ',d',?_,hw⟩
 rw [Rm (af:=zgx) rfl rfl]
 have o0:=h.k.o0
 simp only [Evl,eR] at hr
 simp only [zgx,sA,seval,kn,mO,o0,hr]
theorem zcg {r:LRec} {e:Env} {σ:Store}:enterLoop none r e σ=some (σ.next + 1,{e with defers:=(iG + σ.next,[]) :: e.defers},{σ with oth:=(σ.next + 1,.loop r) :: (σ.next,.dfr) :: σ.oth,next:=σ.next + 2}):=rfl
def S1 (l:List Tx):Store:={objs:=[(0,[⟨false,dSs l⟩])],tys:=[(0,⟨t_8,0⟩)],oth:=[],next:=1}
theorem zen (l:List Tx) (hl:l.length < 1000000000) (hne:l≠[]) (N:Nat) (hN:l.length < N + 1):∃ σ4 a,V (N + 3) Zq [.nils,fnV] (S1 l)=some (.ret ⟨false,.arr k_0 a 0 l.length⟩,σ4)∧dE σ4.objs a=some (eW l)∧a < σ4.next:=by
 obtain ⟨σ2,hσ2⟩:∃ σ2:Store,σ2={objs:=[(1,[⟨false,.nils⟩]),(0,[⟨false,dSs l⟩])],tys:=[(1,⟨t_8,0⟩),(0,⟨t_8,0⟩)],oth:=[(3,.loop (RL .ready)),(2,.dfr)],next:=4}:=⟨_,rfl⟩
 have hw:WS l σ2 0 .nils .ready:=by
  subst hσ2
  exact ⟨⟨rfl,rfl,aM _,.inl ⟨rfl,rfl⟩⟩,rfl,rfl⟩
 obtain ⟨σ3,d',hv,h3⟩:=zs7 l σ2 .nils hl hw N hN
 have hpos:l.length≠0:=fun h=>hne (aR.1 h)
 obtain ⟨a,rfl,ha4,han,hao,hat⟩:∃ a,d'=.arr k_0 a 0 l.length∧4≤a∧a < σ3.next∧dE σ3.objs a=some (eW (l.take l.length))∧dE σ3.tys a=some ⟨k_0.el,k_0.sz⟩:=by
  rcases h3.k.dd with h | h
  ·exact absurd h.1 hpos
  ·exact h
 rw [aV] at hao
 refine ⟨{objs:=dZ σ3.objs 1 [⟨false,.arr k_0 a 0 l.length⟩],tys:=σ3.tys,oth:=eE (eE σ3.oth 3) 2,next:=σ3.next},a,?_,?_,han⟩
 ·rw [Rm (af:=lW) rfl rfl]
  have hfn:D.fnF? fnV=some (zhs,[],[.ptr 0 0]):=rfl
  have l3:pL σ3 3=some (RL .ready):=by simp only [pL,h3.r,dG,dK]
  have he:∀ e:Env,endLoop 3 e σ3=some (.normal,e,{σ3 with oth:=eE σ3.oth 3}):=fun e=>by
   simp only [endLoop,l3,dG,dK]
   rfl
  have o1:=h3.k.o1
  have hY:isY (iG + 2)=true:=rfl
  have hsub:iG + 2 - iG=2:=rfl
  have hm:dE (eE σ3.oth 3) 2=some .dfr:=by rw [eK,if_neg (by decide),h3.m]
  rw [hσ2] at hv
  simp only [RL,asg] at hv
  simp only [S1,lW,sA,seval,kn,eI,jK,Da,Uh,zai,zcg,hfn,hv,he,o1,hY,hsub,hm]
 ·show dE (dZ σ3.objs 1 _) a=_
  rw [dY,if_neg (by omega),hao]
end Go.Fu
namespace Go.Fu
open Go Go.Mx
set_option maxRecDepth 10000
set_option maxHeartbeats 4000000
theorem zej (l:List Tx):(pV l).length=l.length:=by simp [pV]
theorem zy2 (k:RowK) (hk:k.sz=1) (l:List Tx) (hne:l≠[]) (hl:l.length < 1000000000) (a:Nat) (σ:Store) (h:dE σ.objs a=some (eW l)) (n:Nat):V (n + 1) Jv [.arr k a 0 l.length] σ=some (.ret ⟨false,.tup []⟩,{σ with objs:=dZ σ.objs a (eW (pV l))}):=by
 rw [zzl rfl rfl]
 have hx:Xc Jv [.arr k a 0 l.length] σ=za7 [.arr k a 0 l.length] σ:=rfl
 have hpos:l.length≠0:=fun h=>hne (aR.1 h)
 have e1:decide (0 < l.length)=true:=decide_eq_true (by omega)
 have e2:decide (l.length≤eL)=true:=decide_eq_true (show l.length≤1099511627776 by omega)
 have e3:(k.sz == 1)=true:=by rw [hk]; rfl
 rw [hx]
 simp only [za7,h,dG,dK,qU,bW,e1,e2,e3,aY,dJ,Lj]
theorem zlo (k:RowK) (hk:k.sz=1) (l:List Tx) (hne:l≠[]) (hl:l.length < 1000000000) (a:Nat) (σ:Store) (h:dE σ.objs a=some (eW l)) (n:Nat):∃ σ',V (n + 1) Ju [.arr k a 0 l.length] σ=some (.ret ⟨false,.arr k a 0 (Lib.compact l).length⟩,σ'):=by
 rw [zzl rfl rfl]
 have hx:Xc Ju [.arr k a 0 l.length] σ=Dj [.arr k a 0 l.length] σ:=rfl
 have hpos:l.length≠0:=fun h=>hne (aR.1 h)
 have e1:decide (0 < l.length)=true:=decide_eq_true (by omega)
 have e2:decide (l.length≤eL)=true:=decide_eq_true (show l.length≤1099511627776 by omega)
 have e3:(k.sz == 1)=true:=by rw [hk]; rfl
 rw [hx]
 exact ⟨_,by simp only [Dj,h,dG,dK,qU,bW,e1,e2,e3,aY,dJ,Lj]; rfl⟩
theorem zsb (l:List Tx) (hl:l.length < 1000000000) (hne:l≠[]) (N:Nat) (hN:l.length < N + 1):∃ σ5 a,V (N + 5) za1b [fnV] (S1 l)=some (.ret ⟨false,.arr k_0 a 0 l.length⟩,σ5)∧dE σ5.objs a=some (eW (pV l))∧a < σ5.next:=by
 obtain ⟨σ4,a,h1,h2,h3⟩:=zen l hl hne N hN
 have hc:V (N + 4) za0b [fnV] (S1 l)=some (.ret ⟨false,.arr k_0 a 0 l.length⟩,σ4):=by
  rw [Rm (af:=zgq) rfl rfl]
  simp only [zgq,sA,seval,kn,h1]
 have hs:=zy2 k_0 rfl l hne hl a σ4 h2 (N + 3)
 refine ⟨{σ4 with objs:=dZ σ4.objs a (eW (pV l))},a,?_,?_,h3⟩
 ·rw [Rm (af:=zgv) rfl rfl]
  simp only [zgv,sA,seval,kn,hc,hs]
 ·show dE (dZ σ4.objs a _) a=_
  rw [dY,if_pos rfl]
theorem Yl (l:List Tx):eW l=cellsOf (l.map D.str):=by
 induction l with
 | nil=>rfl
 | cons x r ih =>
  simp only [eW,aO,cellsOf] at ih ⊢
  rw [ih]
  rfl
theorem zia:∀ l:List Tx,eM k_0.sz (l.map D.str)=true
 | []=>rfl
 | x :: r=>by simp only [aO,eM,zia r]; rfl
theorem zt0 (l:List Tx) (hl:l.length < 1000000000) (a:Nat) (σ:Store) (h:dE σ.objs a=some (eW l)) (ha:a < σ.next) (n:Nat):∃ σ' b,V (n + 1) yZ [.arr k_0 a 0 l.length] σ=some (.ret ⟨false,.arr k_0 b 0 l.length⟩,σ')∧dE σ'.objs b=some (eW l):=by
 have e:∀ d∈l.map D.str,d.cells.length=k_0.sz∧xO k_0 d.cells=d:=fun d hd=>by
  obtain ⟨x,_,rfl⟩:=bF.1 hd
  exact ⟨rfl,rfl⟩
 have he:=Fa e
 rw [aJ,← Yl] at he
 obtain ⟨σx,hσx⟩:∃ σx,σx=dR σ k_0 []:=⟨_,rfl⟩
 have n1:(σ.next == a)=false:=beq_false_of_ne (by omega)
 have hli:iR σx.objs (.arr k_0 a 0 l.length)=some (l.map D.str):=by
  have hg:dE σx.objs a=some (eW l):=by
   subst hσx
   show dE ((σ.next,[]) :: σ.objs) a=_
   rw [dE,n1,dH,h]
  have e0:decide ((0 + l.length) * k_0.sz≤(eW l).length)=true:=by rw [qU]; simp [k_0]
  have ek:(k_0.ag || k_0.sz == 1)=true:=rfl
  simp only [iR,hg,dG,dK,ek,e0,aY,dJ,he]
 have hap:eV σx k_0 16 (.arr k_0 σ.next 0 0) (l.map D.str)=some (.arr k_0 σx.next 0 (0 + l.length),dR {σx with objs:=eE σx.objs σ.next} k_0 (eW l)):=by
  have hg:dE σx.objs σ.next=some []:=by
   subst hσx
   show dE ((σ.next,[]) :: σ.objs) σ.next=_
   rw [dE,bW,dJ]
  have ht:dE σx.tys σ.next=some ⟨k_0.el,k_0.sz⟩:=by
   subst hσx
   show dE ((σ.next,_) :: σ.tys) σ.next=_
   rw [dE,bW,dJ]
  have ek:k_0.same k_0=true:=rfl
  have e0:decide (0 * k_0.sz≤([]:List Cell).length)=true:=rfl
  have e1:decide ((0 + l.length) * 16≤eL)=true:=decide_eq_true (show (0 + l.length) * 16≤1099511627776 by omega)
  have e2:decide (0 + l.length≤eL)=true:=decide_eq_true (show 0 + l.length≤1099511627776 by omega)
  simp only [eV,zia,dJ,hg,ht,dG,dK,ek,bW,aJ,e0,e1,e2,aY,List.take_nil,aZ,bG,Yl]
 rw [aN] at hap
 refine ⟨dR {σx with objs:=eE σx.objs σ.next} k_0 (eW l),σx.next,?_,?_⟩
 ·rw [Rm (af:=iU) rfl rfl]
  have hbu:dR σ k_0 (cellsOf [])=σx:=by rw [hσx]; rfl
  simp only [iU,sA,seval,kn,eI,jK,hbu,hli,hap]
 ·show dE ((σx.next,eW l) :: _) σx.next=_
  rw [dE,bW,dJ]
theorem zje (l:List Tx) (hl:l.length < 1000000000) (hne:l≠[]):OkP vR [dSs l] ⟨false,.bool (decide ((Lib.compact (pV l)).length < l.length))⟩:=by
 obtain ⟨σ5,a,h1,h2,h3⟩:=zsb l hl hne l.length (by omega)
 have hsl:=zej l
 have hs0:pV l≠[]:=fun h=>by
  rw [h] at hsl
  exact hne (aR.1 hsl.symm)
 obtain ⟨σ6,b,h4,h5⟩:=zt0 (pV l) (by omega) a σ5 h2 h3 (l.length + 4)
 obtain ⟨σ7,h6⟩:=zlo k_0 rfl (pV l) hs0 (by omega) b σ6 h5 (l.length + 4)
 rw [hsl] at h4 h6
 have hv:V (l.length + 5) za2b [dSs l] σ0=some (.ret ⟨false,fnV⟩,S1 l):=by
  rw [Rm (af:=zgw) rfl rfl]
  have hok:(dSs l).ok=true:=by cases l <;> rfl
  have hce:(dSs l).cells=[dSs l]:=by cases l <;> rfl
  simp only [zgw,sA,seval,kn,eI,jK,σ0,fnV,S1,hok,hce]
 have hlen:∀ (m:Nat),decide ((m:Int) < (l.length:Int))=decide (m < l.length):=fun m=>by
  by_cases h:m < l.length
  ·rw [decide_eq_true h,decide_eq_true (by omega)]
  ·rw [decide_eq_false h,decide_eq_false (by omega)]
 have hok:=Γa_holds vR zbg rfl
 obtain ⟨hY,fn,hfn,hok⟩:=hok
 refine Ge (zbhb (l.length + 5)) sE hY hfn hok rfl (by simp [eB,fQ]) rfl (n:=1) (σ':=σ7) ?_
 have hr:oM Ra (fun _ _ _=>none) zbg 0 (exec (V (l.length + 5)) 1 none zbg.body (jE [dSs l]) σ0)=some (.ret ⟨false,.bool (decide ((Lib.compact (pV l)).length < l.length))⟩,σ7):=by
  rw [← hlen]
  simp only [zbg,sA,seval,kn,hv,h1,h4,h6]
 unfold oM at hr
 exact hr
end Go.Fu
namespace Go.Fu
open Go Go.Mx
set_option maxRecDepth 10000
theorem zk7 (l:List Tx):lC l=true↔¬ l.Nodup:=by
 constructor
 ·intro h hn
  unfold lC at h
  obtain ⟨i,hi,h⟩:=List.any_eq_true.1 h
  obtain ⟨k,hk,h⟩:=List.any_eq_true.1 h
  have hi:=List.mem_range.1 hi
  have hk:=List.mem_range.1 hk
  rw [eY _ _ _ hi,eY _ _ _ (by omega)] at h
  have he:l[i]=l[k]:=by simpa using h
  have:=(List.getElem_inj hn).1 he
  omega
 ·intro h
  refine Classical.byContradiction fun hf=>h ?_
  rw [List.nodup_iff_pairwise_ne,List.pairwise_iff_getElem]
  intro k i hk hi hki he
  apply hf
  refine List.any_eq_true.2 ⟨i,List.mem_range.2 hi,List.any_eq_true.2 ⟨k,List.mem_range.2 hki,?_⟩⟩
  rw [eY _ _ _ hi,eY _ _ _ hk,he]
  simp
theorem zqg (z:List Tx):(Lib.compact z).length < z.length↔∃ j,0 < j∧j < z.length∧z.toArray[j]! =z.toArray[j - 1]!:=by
 have hlen:(Lib.compact z).length=((List.range z.length).filter (Lib.keeps z.toArray)).length:=by
  unfold Lib.compact Lib.compactUpTo
  rw [aJ]
 rw [hlen]
 constructor
 ·intro h
  refine Classical.byContradiction fun hn=>?_
  have hall:(List.range z.length).filter (Lib.keeps z.toArray)=List.range z.length:=by
   rw [List.filter_eq_self]
   intro j hj
   have hj:=List.mem_range.1 hj
   refine Classical.byContradiction fun hk=>hn ?_
   by_cases h0:0 < j
   ·refine ⟨j,h0,hj,Classical.byContradiction fun hne=>hk (Lib.keeps_pos hne)⟩
   ·exact absurd (Lib.keeps_lt_one z.toArray j (by omega)) hk
  rw [hall,List.length_range] at h
  omega
 ·rintro ⟨j,h0,hj,he⟩
  have hk:=Lib.keeps_neg h0 he
  refine Nat.lt_of_le_of_ne (Nat.le_trans (List.length_filter_le _ _) (by simp)) fun hc=>?_
  have hall:=List.length_filter_eq_length_iff.1 (hc.trans (List.length_range).symm)
  have:=hall j (List.mem_range.2 hj)
  rw [hk] at this
  cases this
theorem zhvb (a b c:Tx):decide (a≤b)=true→decide (b≤c)=true→decide (a≤c)=true:=fun h1 h2=>decide_eq_true (List.le_trans (of_decide_eq_true h1) (of_decide_eq_true h2))
theorem zfib (a b:Tx):(decide (a≤b) || decide (b≤a))=true:=by
 rcases List.le_total a b with h | h
 ·rw [decide_eq_true h]; rfl
 ·rw [decide_eq_true h,Bool.or_true]
theorem zy1 (l:List Tx):(pV l).Pairwise fun a b=>a≤b:=by
 have h:=List.pairwise_mergeSort (le:=fun x y:Tx=>decide (x≤y)) zhvb zfib l
 exact h.imp fun h=>of_decide_eq_true h
theorem ztf (z:List Tx) (hp:z.Pairwise fun a b=>a≤b):(∃ j,0 < j∧j < z.length∧z.toArray[j]! =z.toArray[j - 1]!)↔¬ z.Nodup:=by
 have hget:∀ j (hj:j < z.length),z.toArray[j]! =z[j]:=fun j hj=>by simp [hj]
 constructor
 ·rintro ⟨j,h0,hj,he⟩ hn
  rw [hget j hj,hget (j - 1) (by omega)] at he
  have:=(List.getElem_inj hn).1 he
  omega
 ·intro h
  refine Classical.byContradiction fun hf=>h ?_
  rw [List.nodup_iff_pairwise_ne,List.pairwise_iff_getElem]
  intro i k hi hk hik he
  -- between them all are the same
  apply hf
  refine ⟨i + 1,by omega,by omega,?_⟩
  rw [hget (i + 1) (by omega),hget (i + 1 - 1) (by omega)]
  have hpw:=List.pairwise_iff_getElem.1 hp
  have h1:z[i]≤z[i + 1]'(by omega):=hpw i (i + 1) hi (by omega) (by omega)
  have h2:z[i + 1]'(by omega)≤z[k]:=by
   by_cases hk1:i + 1=k
   ·subst hk1; exact List.le_refl _
   ·exact hpw (i + 1) k (by omega) hk (by omega)
  rw [← he] at h2
  exact List.le_antisymm h2 h1
theorem zza (l:List Tx):decide ((Lib.compact (pV l)).length < l.length)=lC l:=by
 have hperm:(pV l).Perm l:=List.mergeSort_perm l _
 have hl:=zej l
 rw [Bool.eq_iff_iff,cE,zk7,← hperm.nodup_iff,← ztf _ (zy1 l),← zqg,hl]
theorem zl1 (l:List Tx) (hl:l.length < 1000000000) (hne:l≠[]):OkP vR [dSs l] ⟨false,.bool (lC l)⟩:=by
 rw [← zza]
 exact zje l hl hne
end Go.Fu
