/-
 What the program asks of combinators that are right.
-/
import Derived.Test.YtldfbnbckiifeaaGreatDoorFgEc
import Derived.Test.YtldfbnbckiifeaaGreatDoorFgO
set_option maxHeartbeats 4000000
set_option linter.unusedSimpArgs false
set_option linter.unusedVariables false
set_option linter.unusedSectionVars false
namespace Go.Fu
open Go Go.Mx
set_option maxRecDepth 10000
set_option maxHeartbeats 4000000
theorem Dy {α:Type} (f:α→Co→List Tx→Bool × α) (h:∀ s c g,(f s c g).1=true):∀ (k:Nat) (c:Co) (g:List Tx) (s:α),(fS f k c g s).1=true
 | 0,_,_,_=>rfl
 | k + 1,c,g,s=>by
  unfold fS
  rw [h,dJ]
  rw [qW _ _ _ fun x _ s=>Dy f h k x.2 _ s,dJ,qW _ _ _ fun x _ s=>Dy f h k x _ s,dJ,qW _ _ _ fun x _ s=>Dy f h k x.2 _ s]
open Classical in
theorem zb3b {P:eD} (hP0:has P uK=false) (hP1:dE P uL=some Hr) (hP2:dE P qY=some Hq) (J:Store→Prop) (ask:D) (fid:FuncId) (caps:List D) (hask:D.fn? ask=some (fid,[],caps)) (na K:Nat) (hK:K < 100000000) (Φ:Co→List Tx→Prop)
  (hB:∀ c g,Φ c g→∀ b∈c.bs,Φ b.2 (ifB (c.f == 8) (g ++ nms c) g)) (hKs:∀ c g,Φ c g→∀ x∈c.ks,Φ x (ifB (c.f == 8) (g ++ nms c) g)) (hA:∀ c g,Φ c g→∀ a∈c.al,Φ a.2 ((ifB (c.f == 8) (g ++ nms c) g) ++ a.1.vars))
  (hrun:∀ σ,J σ→∀ c g,Φ c g→(ifB (c.f == 8) (g ++ nms c) g).length≤K→c.size≤K→∃ σ',J σ'∧∀ n,na≤n→W P n fid ([dCo c,dSs (ifB (c.f == 8) (g ++ nms c) g)] ++ caps) σ=some (.ret ⟨false,.bool true⟩,σ')) :
  ∀ (c:Co) (g:List Tx) (σ:Store),J σ→Φ c g→g.length + c.size≤K→∃ σ',J σ'∧∀ n,na + 3 + c.size≤n→W P n uK [dCo c,dSs g,ask] σ=some (.ret ⟨false,.bool true⟩,σ'):=by
 intro c g σ hJ hΦ hg
 obtain ⟨f,hf⟩:∃ f:{σ // J σ}→Co→List Tx→Bool × {σ // J σ},f=fun s c g=>(true,if h:∃ σ',J σ'∧∀ n,na≤n→W P n fid ([dCo c,dSs g] ++ caps) s.1=some (.ret ⟨false,.bool true⟩,σ') then ⟨Classical.choose h,(Classical.choose_spec h).1⟩ else s):=⟨_,rfl⟩
 have h1:=zi0 hP0 hP1 hP2 (fun s:{σ // J σ}=>s.1) f ask fid caps hask na K hK Φ hB hKs hA (fun s c g n hn hφ e1 e2=>by
  have h:=hrun s.1 s.2 c g hφ e1 e2
  subst hf
  simp only
  rw [dif_pos h]
  exact (Classical.choose_spec h).2 n hn) c.size c g ⟨σ,hJ⟩
 have h2:(fS f c.size c g ⟨σ,hJ⟩).1=true:=Dy f (fun s c g=>by rw [hf]) _ _ _ _
 exact ⟨_,(fS f c.size c g ⟨σ,hJ⟩).2.2,fun n hn=>by rw [h1 n hΦ (aM _) hg hn,h2]⟩
def SG9:eD:=[(uL,Hr),(qY,Hq),(wV,Gh),(vR,za8b),(Zi,zaw),(Zh,zav)]
theorem zyh {S:eD} (hs:has S Zj=false) (n:Nat) (σ:Store):W S (n + 1) Zj [] σ=some (.ret ⟨false,.map σ.next⟩,GM σ (.map Qq 6)):=by
 rw [eH (af:=zbe) hs rfl rfl]
 have f0:jX (.str [97,100,100]) []=some none:=rfl
 have f1:jX (.str [115,117,98]) [(.str [97,100,100],.str [65,68,68],0)]=some none:=rfl
 have f2:jX (.str [109,117,108]) [(.str [97,100,100],.str [65,68,68],0),(.str [115,117,98],.str [83,85,66],1)]=some none:=rfl
 have f3:jX (.str [100,105,118]) [(.str [97,100,100],.str [65,68,68],0),(.str [115,117,98],.str [83,85,66],1),(.str [109,117,108],.str [77,85,76],2)]=some none:=rfl
 have f4:jX (.str [101,113]) [(.str [97,100,100],.str [65,68,68],0),(.str [115,117,98],.str [83,85,66],1),(.str [109,117,108],.str [77,85,76],2),(.str [100,105,118],.str [68,73,86],3)]=some none:=rfl
 have f5:jX (.str [108,116]) [(.str [97,100,100],.str [65,68,68],0),(.str [115,117,98],.str [83,85,66],1),(.str [109,117,108],.str [77,85,76],2),(.str [100,105,118],.str [68,73,86],3),(.str [101,113],.str [69,81],4)]=some none:=rfl
 simp only [zbe,sA,Nat.reduceAdd,Nat.reduceSub,Nat.reduceMul,Nat.reduceBEq,Nat.reduceLeDiff,Int.reduceBEq,Int.reduceBNe,Int.reduceLE,Int.reduceLT,Int.reduceGE,Int.reduceGT,Int.reduceNeg,kn,eI,mB,zjr,rR,f0,f1,f2,f3,f4,f5,zzk,fR,bG,aW,aN,Nat.reduceAdd]
 rfl
theorem zmy {al:Hd × Co} (h:al.1.form=1∨al.1.form=2∧al.1.vars=[]∨al.1.form=3∧al.1.vars=[]) (n:Nat) (σ:Store):W SG9 (n + 1) zhf [dA al] σ=some (.ret ⟨false,.bool false⟩,σ):=by
 have hda:=pD al
 have hon:=jO al.2
 have hoS:=gW al.1.vars
 rw [eH (af:=zbf) rfl rfl rfl]
 rcases h with e | ⟨e,ev⟩ | ⟨e,ev⟩
 ·have e1:(al.1.form != 1)=false:=by rw [e]; rfl
  simp only [zbf,sA,Nat.reduceAdd,Nat.reduceSub,Nat.reduceMul,Nat.reduceBEq,Nat.reduceLeDiff,Int.reduceBEq,Int.reduceBNe,Int.reduceLE,Int.reduceLT,Int.reduceGE,Int.reduceGT,Int.reduceNeg,kn,hda,hon,hoS,e1]
 ·have e1:(al.1.form != 1)=true:=by rw [e]; rfl
  have e2:(al.1.form != 2)=false:=by rw [e]; rfl
  have hl:lenOf (dSs al.1.vars)=some 0:=by rw [ev]; rfl
  have hg:¬ ((0:Int) > 0):=by omega
  simp only [zbf,sA,Nat.reduceAdd,Nat.reduceSub,Nat.reduceMul,Nat.reduceBEq,Nat.reduceLeDiff,Int.reduceBEq,Int.reduceBNe,Int.reduceLE,Int.reduceLT,Int.reduceGE,Int.reduceGT,Int.reduceNeg,kn,hda,hon,hoS,e1,e2,hl,eR,hg]
 ·have e1:(al.1.form != 1)=true:=by rw [e]; rfl
  have e2:(al.1.form != 2)=true:=by rw [e]; rfl
  have e3:(al.1.form != 3)=false:=by rw [e]; rfl
  have hl:lenOf (dSs al.1.vars)=some 0:=by rw [ev]; rfl
  have hg:¬ ((0:Int) > 0):=by omega
  simp only [zbf,sA,Nat.reduceAdd,Nat.reduceSub,Nat.reduceMul,Nat.reduceBEq,Nat.reduceLeDiff,Int.reduceBEq,Int.reduceBNe,Int.reduceLE,Int.reduceLT,Int.reduceGE,Int.reduceGT,Int.reduceNeg,kn,hda,hon,hoS,e1,e2,e3,hl,eR,hg]
theorem zcgb {ns:List Tx} {c:Co} (h:Good ns c):∀ a∈c.al,a.1.form=1∨a.1.form=2∧a.1.vars=[]∨a.1.form=3∧a.1.vars=[]:=fun a ha=>by
 have:=(Jc h a ha).2.2
 rcases this with e | e | e
 ·exact .inl e.1
 ·exact .inr (.inl e)
 ·exact .inr (.inr e)
theorem zfjb (c:Co):lenOf (kD c)=some c.ks.length:=mM _ _
theorem zsa {ns g:List Tx} {c:Co} (h:Good ns c) (hl:c.size < 100000000) (σb σ:Store) (hJ:FrA σb σ):∃ σ',FrA σb σ'∧∀ n,c.al.length + 5≤n→W SG9 n Zk [dCo c,dSs g] σ=some (.ret ⟨false,.bool true⟩,σ'):=by
 have hse:=iV c
 have lA:=oK c.al
 have hal:=zcgb h
 have hdc:=fJ c
 have hon:=jO c
 have lk:=zfjb c
 have lb:=Yz c
 have la:=zjk c
 have w0:IntKind.i64.wrap (0 + 0)=0:=rfl
 have leaf:(c.f=1∨c.f=2∨c.f=3∨c.f=11)→c.ks=[]→c.bs=[]→c.al=[]→∃ σ',FrA σb σ'∧∀ n,c.al.length + 5≤n→W SG9 n Zk [dCo c,dSs g] σ=some (.ret ⟨false,.bool true⟩,σ'):=fun hf h1 h2 h3=>by
  refine ⟨σ,hJ,fun n hn=>?_⟩
  obtain ⟨n,rfl⟩:∃ k,n=k + 1:=⟨n - 1,by omega⟩
  rw [eH (af:=uF) rfl rfl rfl]
  rw [h1] at lk
  rw [h2] at lb
  rw [h3] at la
  simp only [aH] at lk lb la
  rcases hf with e | e | e | e
  ·have e1:(c.f == 1)=true:=by rw [e]; rfl
   simp only [uF,sA,Nat.reduceAdd,Nat.reduceSub,Nat.reduceMul,Nat.reduceBEq,Nat.reduceLeDiff,Int.reduceBEq,Int.reduceBNe,Int.reduceLE,Int.reduceLT,Int.reduceGE,Int.reduceGT,Int.reduceNeg,kn,hdc,hon,lk,lb,la,e1,eR,w0]
  ·have e1:(c.f == 1)=false:=by rw [e]; rfl
   have e2:(c.f == 2)=true:=by rw [e]; rfl
   simp only [uF,sA,Nat.reduceAdd,Nat.reduceSub,Nat.reduceMul,Nat.reduceBEq,Nat.reduceLeDiff,Int.reduceBEq,Int.reduceBNe,Int.reduceLE,Int.reduceLT,Int.reduceGE,Int.reduceGT,Int.reduceNeg,kn,hdc,hon,lk,lb,la,e1,e2,eR,w0]
  ·have e1:(c.f == 1)=false:=by rw [e]; rfl
   have e2:(c.f == 2)=false:=by rw [e]; rfl
   have e3:(c.f == 3)=true:=by rw [e]; rfl
   simp only [uF,sA,Nat.reduceAdd,Nat.reduceSub,Nat.reduceMul,Nat.reduceBEq,Nat.reduceLeDiff,Int.reduceBEq,Int.reduceBNe,Int.reduceLE,Int.reduceLT,Int.reduceGE,Int.reduceGT,Int.reduceNeg,kn,hdc,hon,lk,lb,la,e1,e2,e3,eR,w0]
  ·have e1:(c.f == 1)=false:=by rw [e]; rfl
   have e2:(c.f == 2)=false:=by rw [e]; rfl
   have e3:(c.f == 3)=false:=by rw [e]; rfl
   have e11:(c.f == 11)=true:=by rw [e]; rfl
   simp only [uF,sA,Nat.reduceAdd,Nat.reduceSub,Nat.reduceMul,Nat.reduceBEq,Nat.reduceLeDiff,Int.reduceBEq,Int.reduceBNe,Int.reduceLE,Int.reduceLT,Int.reduceGE,Int.reduceGT,Int.reduceNeg,kn,hdc,hon,lk,lb,la,e1,e2,e3,e11,eR,w0]
 have none4:∀ {k:Int},c.f=k→k≠1→k≠2→k≠3→k≠11→(c.f == 1)=false∧(c.f == 2)=false∧(c.f == 3)=false∧(c.f == 11)=false:=fun e h1 h2 h3 h4=>by
  subst e
  exact ⟨beq_false_of_ne h1,beq_false_of_ne h2,beq_false_of_ne h3,beq_false_of_ne h4⟩
 have two2:(((2:Nat):Int) == 2)=true:=rfl
 have one1:(((1:Nat):Int) == 1)=true:=rfl
 cases h with
 | int _=>exact leaf (.inr (.inr (.inl rfl))) rfl rfl rfl
 | con _=>exact leaf (.inr (.inl rfl)) rfl rfl rfl
 | var _=>exact leaf (.inl rfl) rfl rfl rfl
 | fail=>exact leaf (.inr (.inr (.inr rfl))) rfl rfl rfl
 | @app _ a b ha hb =>
  obtain ⟨e1,e2,e3,e11⟩:=none4 (k:=4) rfl (by decide) (by decide) (by decide) (by decide)
  refine ⟨σ,hJ,fun n hn=>?_⟩
  obtain ⟨n,rfl⟩:∃ k,n=k + 1:=⟨n - 1,by omega⟩
  rw [eH (af:=uF) rfl rfl rfl]
  have e4:((Co.mk 4 0 [] [a,b] [] []).f == 4)=true:=rfl
  generalize hc:Co.mk 4 0 [] [a,b] [] []=c at *
  have q1:c.ks.length=2:=by rw [← hc]; rfl
  have q2:c.bs.length=0:=by rw [← hc]; rfl
  have q3:c.al.length=0:=by rw [← hc]; rfl
  rw [q1] at lk
  rw [q2] at lb
  rw [q3] at la
  simp only [uF,sA,Nat.reduceAdd,Nat.reduceSub,Nat.reduceMul,Nat.reduceBEq,Nat.reduceLeDiff,Int.reduceBEq,Int.reduceBNe,Int.reduceLE,Int.reduceLT,Int.reduceGE,Int.reduceGT,Int.reduceNeg,kn,hdc,hon,lk,lb,la,e1,e2,e3,e11,e4,two2,eR,w0]
 | @prim _ s a b hp ha hb =>
  obtain ⟨e1,e2,e3,e11⟩:=none4 (k:=10) rfl (by decide) (by decide) (by decide) (by decide)
  refine ⟨GM σ (.map Qq 6),hJ.trans ⟨by rw [Af]; omega,fun _ _=>rfl,fun _ _=>rfl,fun j hj=>zpl (by omega)⟩,fun n hn=>?_⟩
  obtain ⟨n,rfl⟩:∃ k,n=k + 2:=⟨n - 2,by omega⟩
  rw [eH (af:=uF) rfl rfl rfl]
  have e4:((Co.mk 10 0 s [a,b] [] []).f == 4)=false:=rfl
  have e10:((Co.mk 10 0 s [a,b] [] []).f == 10)=true:=rfl
  have hs:(Co.mk 10 0 s [a,b] [] []).s=s:=rfl
  generalize hc:Co.mk 10 0 s [a,b] [] []=c at *
  have q1:c.ks.length=2:=by rw [← hc]; rfl
  have q2:c.bs.length=0:=by rw [← hc]; rfl
  have q3:c.al.length=0:=by rw [← hc]; rfl
  rw [q1] at lk
  rw [q2] at lb
  rw [q3] at la
  have ho:=zyh (S:=SG9) rfl n σ
  have hmo:=zjv (σ:=σ) (es:=Qq) (c:=6)
  obtain ⟨r,hr1,hr2⟩:=zkd s
  simp only [uF,sA,Nat.reduceAdd,Nat.reduceSub,Nat.reduceMul,Nat.reduceBEq,Nat.reduceLeDiff,Int.reduceBEq,Int.reduceBNe,Int.reduceLE,Int.reduceLT,Int.reduceGE,Int.reduceGT,Int.reduceNeg,kn,hdc,hon,lk,lb,la,e1,e2,e3,e11,e4,e10,two2,eR,w0,ho,hmo,rR,hr1,hr2,hp,hs]
 | @lt _ b bs h1 h2 h3 =>
  obtain ⟨e1,e2,e3,e11⟩:=none4 (k:=8) rfl (by decide) (by decide) (by decide) (by decide)
  refine ⟨σ,hJ,fun n hn=>?_⟩
  obtain ⟨n,rfl⟩:∃ k,n=k + 1:=⟨n - 1,by omega⟩
  rw [eH (af:=uF) rfl rfl rfl]
  have e4:((Co.mk 8 0 [] [b] bs []).f == 4)=false:=rfl
  have e10:((Co.mk 8 0 [] [b] bs []).f == 10)=false:=rfl
  have e8:((Co.mk 8 0 [] [b] bs []).f == 8)=true:=rfl
  generalize hc:Co.mk 8 0 [] [b] bs []=c at *
  have q1:c.ks.length=1:=by rw [← hc]; rfl
  have q3:c.al.length=0:=by rw [← hc]; rfl
  rw [q1] at lk
  rw [q3] at la
  simp only [uF,sA,Nat.reduceAdd,Nat.reduceSub,Nat.reduceMul,Nat.reduceBEq,Nat.reduceLeDiff,Int.reduceBEq,Int.reduceBNe,Int.reduceLE,Int.reduceLT,Int.reduceGE,Int.reduceGT,Int.reduceNeg,kn,hdc,hon,lk,lb,la,e1,e2,e3,e11,e4,e10,e8,one1,eR]
 | @cas _ x al h1 h2 h3 =>
  obtain ⟨e1,e2,e3,e11⟩:=none4 (k:=9) rfl (by decide) (by decide) (by decide) (by decide)
  have e4:((Co.mk 9 0 [] [x] [] al).f == 4)=false:=rfl
  have e10:((Co.mk 9 0 [] [x] [] al).f == 10)=false:=rfl
  have e8:((Co.mk 9 0 [] [x] [] al).f == 8)=false:=rfl
  have e9:((Co.mk 9 0 [] [x] [] al).f == 9)=true:=rfl
  generalize hc:Co.mk 9 0 [] [x] [] al=c at *
  have q1:c.ks.length=1:=by rw [← hc]; rfl
  have q2:c.bs.length=0:=by rw [← hc]; rfl
  rw [q1] at lk
  rw [q2] at lb
  obtain ⟨σ',hj',hw⟩:=zb9 (S:=SG9) rfl rfl c.al (.fn (.func zhf) [] []) zhf [] rfl (by omega) (FrA σb) 1 (fun a ha τ hτ=>⟨τ,hτ,fun n hn=>by
   obtain ⟨n,rfl⟩:∃ k,n=k + 1:=⟨n - 1,by omega⟩
   exact zmy (hal a ha) n τ⟩) σ hJ
  refine ⟨σ',hj',fun n hn=>?_⟩
  obtain ⟨n,rfl⟩:∃ k,n=k + 1:=⟨n - 1,by omega⟩
  rw [eH (af:=uF) rfl rfl rfl]
  have hw:=hw n (by omega)
  have had:dAs' c.al=aD c:=rfl
  rw [had] at hw
  simp only [uF,sA,Nat.reduceAdd,Nat.reduceSub,Nat.reduceMul,Nat.reduceBEq,Nat.reduceLeDiff,Int.reduceBEq,Int.reduceBNe,Int.reduceLE,Int.reduceLT,Int.reduceGE,Int.reduceGT,Int.reduceNeg,kn,hdc,hon,lk,lb,la,e1,e2,e3,e11,e4,e10,e8,e9,one1,eR,hw]
end Go.Fu
