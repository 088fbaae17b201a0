/-
 What the program asks of combinators that are right: no name twice,every name there.
-/
import Derived.Test.YtldfbnbckiifeaaGreatDoorFgEd
import Derived.Test.YtldfbnbckiifeaaGreatDoorFgCq
import Derived.Test.YtldfbnbckiifeaaGreatDoorFgDb
import Derived.Test.YtldfbnbckiifeaaGreatDoorFgY
set_option maxHeartbeats 4000000
set_option linter.unusedSimpArgs false
set_option linter.unusedVariables false
set_option linter.unusedSectionVars false
namespace Go.Fu
open Go Go.Mx
set_option maxRecDepth 10000
set_option maxHeartbeats 4000000
theorem zr3 {al:Hd × Co} (h:iP al.1.vars=false) (hl:al.1.vars.length < 100000000) (n:Nat) (σ:Store):W SG9 (n + 2) ze3 [dA al] σ=some (.ret ⟨false,.bool false⟩,σ):=by
 have hda:=mE al
 have hon:=fF al.2
 have hoS:=dN al.1.vars
 have ht:=zmo (S:=SG9) rfl al.1.vars (by omega) n σ
 rw [h] at ht
 rw [bC (af:=zdz) rfl rfl rfl]
 simp only [zdz,sA,Nat.reduceAdd,Nat.reduceSub,Nat.reduceMul,Nat.reduceBEq,Nat.reduceLeDiff,Int.reduceBEq,Int.reduceBNe,Int.reduceLE,Int.reduceLT,Int.reduceGE,Int.reduceGT,Int.reduceNeg,kn,hda,hon,hoS,ht]
theorem zuy {ns g:List Tx} {c:Co} (h:Good ns c) (hl:c.size < 100000000) (σ:Store):∀ n,c.al.length + 8≤n→W SG9 n ze2 [dCo c,dSs g] σ=some (.ret ⟨false,.bool true⟩,σ):=by
 have hse:=gZ c
 have lA:=nI c.al
 have lB:=lY c.bs
 have hdc:=bY c
 have hon:=fF c
 have hbt:iP (nms c)=false:=znm h
 obtain ⟨σ',hj',hw⟩:=Zn (S:=SG9) rfl rfl c.al (.fn (.func ze3) [] []) ze3 [] rfl (by omega) (fun τ=>τ=σ) 2 (fun a ha τ hτ=>⟨τ,hτ,fun n hn=>by
  obtain ⟨n,rfl⟩:∃ k,n=k + 2:=⟨n - 2,by omega⟩
  have:=lN c.al a ha
  exact zr3 (Fq h a ha).2.1 (by omega) n τ⟩) σ rfl
 subst hj'
 intro n hn
 obtain ⟨n,rfl⟩:∃ k,n=k + 2:=⟨n - 2,by omega⟩
 rw [bC (af:=zdy) rfl rfl rfl]
 have hw:=hw (n + 1) (by omega)
 have hnm:=zmn (S:=SG9) rfl c.bs (by omega) n σ'
 have hnc:c.bs.map Prod.fst=nms c:=rfl
 rw [hnc] at hnm
 have ht:=zmo (S:=SG9) rfl (nms c) (by simp [nms]; omega) n σ'
 rw [hbt] at ht
 have had:dAs' c.al=aD c:=rfl
 rw [had] at hw
 have hbd:dBl' c.bs=bD c:=rfl
 rw [hbd] at hnm
 simp only [bnF] at hnm
 simp only [zdy,sA,Nat.reduceAdd,Nat.reduceSub,Nat.reduceMul,Nat.reduceBEq,Nat.reduceLeDiff,Int.reduceBEq,Int.reduceBNe,Int.reduceLE,Int.reduceLT,Int.reduceGE,Int.reduceGT,Int.reduceNeg,kn,hdc,hon,hnm,ht,hw]
structure TB (σ:Store) (gl:List Tx) (gb cb fb:Nat):Prop where
 g:aB σ.objs gb=some [⟨false,dSs gl⟩]
 c:aB σ.objs cb=some [⟨false,.fn (.func Gm) [] [.ptr fb 0]⟩]
 f:aB σ.objs fb=some [⟨false,dFs FL⟩]
 n:gb < σ.next∧cb < σ.next∧fb < σ.next
theorem TB.fa {σ σ':Store} {gl:List Tx} {gb cb fb:Nat} (h:TB σ gl gb cb fb) (f:FrA σ σ'):TB σ' gl gb cb fb:=by
 have:=f.nx
 have:=h.n
 exact ⟨by rw [f.ob _ (by omega),h.g],by rw [f.ob _ (by omega),h.c],by rw [f.ob _ (by omega),h.f],by omega⟩
theorem ztz (f:Fd) (s:Tx) (m:Int) (p q:Nat) (σ:Store) (hp:aB σ.objs p=some [⟨false,.str s⟩]) (hq:aB σ.objs q=some [⟨false,.int .i64 m⟩]) (n:Nat):W SG9 (n + 1) ze5 [dF f,.ptr p 0,.ptr q 0] σ=some (.ret ⟨false,.bool (Vj s m f)⟩,σ):=by
 rw [bC (af:=Ys) rfl rfl rfl]
 unfold Vj
 cases e1:f.name == s with
 | false=>simp only [Ys,dF,sA,Nat.reduceAdd,Nat.reduceSub,Nat.reduceMul,Nat.reduceBEq,Nat.reduceLeDiff,Int.reduceBEq,Int.reduceBNe,Int.reduceLE,Int.reduceLT,Int.reduceGE,Int.reduceGT,Int.reduceNeg,kn,hp,hq,e1,Bool.false_and]
 | true =>
  by_cases e2:m < 0
  ·simp only [Ys,dF,sA,Nat.reduceAdd,Nat.reduceSub,Nat.reduceMul,Nat.reduceBEq,Nat.reduceLeDiff,Int.reduceBEq,Int.reduceBNe,Int.reduceLE,Int.reduceLT,Int.reduceGE,Int.reduceGT,Int.reduceNeg,kn,hp,hq,e1,e2,decide_true,Bool.true_or,Bool.and_self]
  ·simp only [Ys,dF,sA,Nat.reduceAdd,Nat.reduceSub,Nat.reduceMul,Nat.reduceBEq,Nat.reduceLeDiff,Int.reduceBEq,Int.reduceBNe,Int.reduceLE,Int.reduceLT,Int.reduceGE,Int.reduceGT,Int.reduceNeg,kn,hp,hq,e1,e2,decide_false,Bool.false_or,Bool.true_and]
theorem zlg (s:Tx) (m:Int) (fb:Nat) (σ:Store) (hf:aB σ.objs fb=some [⟨false,dFs FL⟩]) (hn:fb < σ.next):∃ σ',FrA σ σ'∧∀ n,12≤n→W SG9 n Gm [.str s,.int .i64 m,.ptr fb 0] σ=some (.ret ⟨false,.bool (sV FL s m)⟩,σ'):=by
 obtain ⟨σ1,e1⟩:∃ σ1,σ1=GA σ Ye [⟨false,.str s⟩]:=⟨_,rfl⟩
 obtain ⟨σ2,e2⟩:∃ σ2,σ2=GA σ1 tL [⟨false,.int .i64 m⟩]:=⟨_,rfl⟩
 have n1:σ1.next=σ.next + 1:=by rw [e1,cS]
 have h1:aB σ2.objs σ.next=some [⟨false,.str s⟩]:=by rw [e2,fN (by omega),e1,dY]
 have h2:aB σ2.objs (σ.next + 1)=some [⟨false,.int .i64 m⟩]:=by rw [e2,← n1,dY]
 have h3:aB σ2.objs fb=some [⟨false,dFs FL⟩]:=by rw [e2,fN (by omega),e1,fN (by omega),hf]
 refine ⟨σ2,by rw [e2]; refine FrA.trans ?_ FrA.ga; rw [e1]; exact FrA.ga,fun n hn=>?_⟩
 obtain ⟨n,rfl⟩:∃ k,n=k + 10:=⟨n - 10,by omega⟩
 rw [bC (af:=zd1) rfl rfl rfl]
 have hc:=zge (S:=SG9) rfl rfl (n + 7) FL (.fn (.func ze5) [] [.ptr σ.next 0,.ptr (σ.next + 1) 0]) ze5 [.ptr σ.next 0,.ptr (σ.next + 1) 0] (Vj s m) rfl (by decide) (by show 5 < _; omega) σ2 (fun i hi=>ztz _ s m _ _ σ2 h1 h2 (n + 6))
 have hfm:FL.any (Vj s m)=sV FL s m:=rfl
 rw [hfm] at hc
 generalize dFs FL=fl at *
 simp only [zd1,sA,Nat.reduceAdd,Nat.reduceSub,Nat.reduceMul,Nat.reduceBEq,Nat.reduceLeDiff,Int.reduceBEq,Int.reduceBNe,Int.reduceLE,Int.reduceLT,Int.reduceGE,Int.reduceGT,Int.reduceNeg,kn,bF,mB,← e1,n1,← e2,h3,hc]
theorem zpn {al:Hd × Co} (h:zfr al.1) {gl:List Tx} {gb cb fb:Nat} (σ:Store) (hT:TB σ gl gb cb fb):∃ σ',FrA σ σ'∧∀ n,13≤n→W SG9 n Wg [dA al,.ptr cb 0] σ=some (.ret ⟨false,.bool false⟩,σ'):=by
 have hda:=mE al
 have hon:=fF al.2
 have hoS:=dN al.1.vars
 have hlS:=nW al.1.vars
 have hcb:=hT.c
 by_cases e:al.1.form=1
 ·have hfm:sV FL al.1.name al.1.vars.length=true:=by
   rcases h.2.2 with q | q | q
   ·exact q.2
   ·omega
   ·omega
  obtain ⟨σ',hF,hw⟩:=zlg al.1.name al.1.vars.length fb σ hT.f hT.n.2.2
  refine ⟨σ',hF,fun n hn=>?_⟩
  obtain ⟨n,rfl⟩:∃ k,n=k + 1:=⟨n - 1,by omega⟩
  rw [bC (af:=Yt) rfl rfl rfl]
  have hw:=hw n (by omega)
  rw [hfm] at hw
  have e1:(al.1.form == 1)=true:=by rw [e]; rfl
  have hfn:D.fn? (.fn (.func Gm) [] [.ptr fb 0])=some (Gm,[],[.ptr fb 0]):=rfl
  simp only [Yt,sA,Nat.reduceAdd,Nat.reduceSub,Nat.reduceMul,Nat.reduceBEq,Nat.reduceLeDiff,Int.reduceBEq,Int.reduceBNe,Int.reduceLE,Int.reduceLT,Int.reduceGE,Int.reduceGT,Int.reduceNeg,kn,hda,hon,hoS,e1,hcb,hlS,hfn,hw]
 ·refine ⟨σ,FrA.refl,fun n hn=>?_⟩
  obtain ⟨n,rfl⟩:∃ k,n=k + 1:=⟨n - 1,by omega⟩
  rw [bC (af:=Yt) rfl rfl rfl]
  have e1:(al.1.form == 1)=false:=beq_false_of_ne e
  simp only [Yt,sA,Nat.reduceAdd,Nat.reduceSub,Nat.reduceMul,Nat.reduceBEq,Nat.reduceLeDiff,Int.reduceBEq,Int.reduceBNe,Int.reduceLE,Int.reduceLT,Int.reduceGE,Int.reduceGT,Int.reduceNeg,kn,hda,hon,hoS,e1]
theorem zx2 (a b:List Tx) (s:Tx):(a ++ b).any (· == s)=(a.any (· == s) || b.any (· == s)):=List.any_append
theorem zss {gl g:List Tx} {c:Co} (h:Good (gl ++ g) c) (hl:c.size < 100000000) (hg:g.length < 100000000) (hgl:gl.length < 100000000) {gb cb fb:Nat} (σb σ:Store) (hT:TB σb gl gb cb fb) (hJ:FrA σb σ) (g':List Tx) (hg':g'=ifB (c.f == 8) (g ++ nms c) g):∃ σ',FrA σb σ'∧∀ n,c.al.length + 30≤n→W SG9 n ze6 [dCo c,dSs g',.ptr gb 0,.ptr cb 0] σ=some (.ret ⟨false,.bool true⟩,σ'):=by
 have hse:=gZ c
 have lA:=nI c.al
 have hdc:=bY c
 have hon:=fF c
 have hTs:=hT.fa hJ
 have hcb:=hTs.c
 have hgb:=hTs.g
 have had:dAs' c.al=aD c:=rfl
 have hfn:D.fn? (.fn (.func Gm) [] [.ptr fb 0])=some (Gm,[],[.ptr fb 0]):=rfl
 have alts:∀ σ1,FrA σb σ1→∃ σ',FrA σb σ'∧∀ n,13 + c.al.length + 3≤n→W SG9 n Ox [dAs' c.al,.fn (.func Wg) [] [.ptr cb 0]] σ1=some (.ret ⟨false,.bool false⟩,σ'):=fun σ1 h1=>Zn (S:=SG9) rfl rfl c.al (.fn (.func Wg) [] [.ptr cb 0]) Wg [.ptr cb 0] rfl (by omega) (FrA σb) 13 (fun a ha τ hτ=>by
  obtain ⟨τ',hf,hw⟩:=zpn (Fq h a ha) τ (hT.fa hτ)
  exact ⟨τ',hτ.trans hf,hw⟩) σ1 h1
 rcases zrd h with ⟨e,hv⟩ | ⟨e,hv⟩ | ⟨e1,e2⟩
 ·obtain ⟨σ',hF,hw⟩:=alts σ hJ
  refine ⟨σ',hF,fun n hn=>?_⟩
  obtain ⟨n,rfl⟩:∃ k,n=k + 2:=⟨n - 2,by omega⟩
  rw [bC (af:=Ek) rfl rfl rfl]
  have e1:(c.f == 1)=true:=by rw [e]; rfl
  have e2:(c.f == 2)=false:=by rw [e]; rfl
  have e8:(c.f == 8)=false:=by rw [e]; rfl
  rw [e8,aG] at hg'
  subst hg'
  have hw:=hw (n + 1) (by omega)
  rw [had] at hw
  rw [zx2] at hv
  have k1:=sP (S:=SG9) rfl g' c.s (by omega) n σ
  have k2:=sP (S:=SG9) rfl gl c.s (by omega) n σ
  cases hb:g'.any (· == c.s) with
  | true =>
   rw [hb] at k1
   simp only [Ek,sA,Nat.reduceAdd,Nat.reduceSub,Nat.reduceMul,Nat.reduceBEq,Nat.reduceLeDiff,Int.reduceBEq,Int.reduceBNe,Int.reduceLE,Int.reduceLT,Int.reduceGE,Int.reduceGT,Int.reduceNeg,kn,hdc,hon,e1,e2,k1,hgb,hw]
  | false =>
   rw [hb,Bool.or_false] at hv
   rw [hb] at k1
   rw [hv] at k2
   simp only [Ek,sA,Nat.reduceAdd,Nat.reduceSub,Nat.reduceMul,Nat.reduceBEq,Nat.reduceLeDiff,Int.reduceBEq,Int.reduceBNe,Int.reduceLE,Int.reduceLT,Int.reduceGE,Int.reduceGT,Int.reduceNeg,kn,hdc,hon,e1,e2,k1,k2,hgb,hw]
 ·obtain ⟨σ1,hF1,hw1⟩:=zlg c.s (-1) fb σ hTs.f hTs.n.2.2
  obtain ⟨σ',hF,hw⟩:=alts σ1 (hJ.trans hF1)
  refine ⟨σ',hF,fun n hn=>?_⟩
  obtain ⟨n,rfl⟩:∃ k,n=k + 1:=⟨n - 1,by omega⟩
  rw [bC (af:=Ek) rfl rfl rfl]
  have e1:(c.f == 1)=false:=by rw [e]; rfl
  have e2:(c.f == 2)=true:=by rw [e]; rfl
  have hw:=hw n (by omega)
  have hw1:=hw1 n (by omega)
  rw [had] at hw
  rw [hv] at hw1
  simp only [Ek,sA,Nat.reduceAdd,Nat.reduceSub,Nat.reduceMul,Nat.reduceBEq,Nat.reduceLeDiff,Int.reduceBEq,Int.reduceBNe,Int.reduceLE,Int.reduceLT,Int.reduceGE,Int.reduceGT,Int.reduceNeg,kn,hdc,hon,e1,e2,hcb,hfn,hw1,hw]
 ·obtain ⟨σ',hF,hw⟩:=alts σ hJ
  refine ⟨σ',hF,fun n hn=>?_⟩
  obtain ⟨n,rfl⟩:∃ k,n=k + 1:=⟨n - 1,by omega⟩
  rw [bC (af:=Ek) rfl rfl rfl]
  have hw:=hw n (by omega)
  rw [had] at hw
  simp only [Ek,sA,Nat.reduceAdd,Nat.reduceSub,Nat.reduceMul,Nat.reduceBEq,Nat.reduceLeDiff,Int.reduceBEq,Int.reduceBNe,Int.reduceLE,Int.reduceLT,Int.reduceGE,Int.reduceGT,Int.reduceNeg,kn,hdc,hon,e1,e2,hw]
end Go.Fu
namespace Go.Fu
open Go Go.Mx
set_option maxRecDepth 10000
set_option maxHeartbeats 4000000
theorem Rt {gl g:List Tx} {c:Co} (h:Good (gl ++ g) c):(∀ b∈c.bs,Good (gl ++ ifB (c.f == 8) (g ++ nms c) g) b.2)∧(∀ x∈c.ks,Good (gl ++ ifB (c.f == 8) (g ++ nms c) g) x)∧(∀ a∈c.al,Good (gl ++ ((ifB (c.f == 8) (g ++ nms c) g) ++ a.1.vars)) a.2):=by
 generalize hns:gl ++ g=ns at h
 cases h with
 | int _=>exact ⟨fun _ h=>(by cases h),fun _ h=>(by cases h),fun _ h=>(by cases h)⟩
 | con _=>exact ⟨fun _ h=>(by cases h),fun _ h=>(by cases h),fun _ h=>(by cases h)⟩
 | var _=>exact ⟨fun _ h=>(by cases h),fun _ h=>(by cases h),fun _ h=>(by cases h)⟩
 | fail=>exact ⟨fun _ h=>(by cases h),fun _ h=>(by cases h),fun _ h=>(by cases h)⟩
 | @app _ a b ha hb =>
  subst hns
  refine ⟨fun _ h=>(by cases h),fun x hx=>?_,fun _ h=>(by cases h)⟩
  simp only [Co.ks,List.mem_cons,List.not_mem_nil,or_false] at hx
  rcases hx with rfl | rfl
  ·exact ha
  ·exact hb
 | @prim _ s a b hp ha hb =>
  subst hns
  refine ⟨fun _ h=>(by cases h),fun x hx=>?_,fun _ h=>(by cases h)⟩
  simp only [Co.ks,List.mem_cons,List.not_mem_nil,or_false] at hx
  rcases hx with rfl | rfl
  ·exact ha
  ·exact hb
 | @lt _ b bs h1 h2 h3 =>
  subst hns
  have e:gl ++ ifB ((Co.mk 8 0 [] [b] bs []).f == 8) (g ++ nms (Co.mk 8 0 [] [b] bs [])) g=gl ++ g ++ bs.map Prod.fst:=by
   rw [List.append_assoc]
   rfl
  refine ⟨fun x hx=>?_,fun x hx=>?_,fun _ h=>(by cases h)⟩
  ·rw [e]; exact h2 x hx
  ·simp only [Co.ks,List.mem_cons,List.not_mem_nil,or_false] at hx
   subst hx
   rw [e]
   exact h3
 | @cas _ x al h1 h2 h3 =>
  subst hns
  refine ⟨fun _ h=>(by cases h),fun y hy=>?_,fun a ha=>?_⟩
  ·simp only [Co.ks,List.mem_cons,List.not_mem_nil,or_false] at hy
   subst hy
   exact h1
  ·have:=h3 a ha
   rw [List.append_assoc] at this
   exact this
theorem zti {u:Su} {ab:Nat} {askD:D} (na:Nat) (σ σ':Store) (hb:aB σ.objs ab=some [⟨false,askD⟩]) (h:∀ n,na≤n→W SG9 n rN [dCo u.body,dSs u.ps,askD] σ=some (.ret ⟨false,.bool true⟩,σ')):∀ n,na + 1≤n→W SG9 n ze1 [dU u,.ptr ab 0] σ=some (.ret ⟨false,.bool false⟩,σ'):=fun n hn=>by
 obtain ⟨n,rfl⟩:∃ k,n=k + 1:=⟨n - 1,by omega⟩
 rw [bC (af:=zdx) rfl rfl rfl]
 have h:=h n (by omega)
 have hon:=fF u.body
 have hoS:=dN u.ps
 rw [bY] at h
 simp only [zdx,Cm,sA,Nat.reduceAdd,Nat.reduceSub,Nat.reduceMul,Nat.reduceBEq,Nat.reduceLeDiff,Int.reduceBEq,Int.reduceBNe,Int.reduceLE,Int.reduceLT,Int.reduceGE,Int.reduceGT,Int.reduceNeg,kn,hon,hoS,hb,h]
theorem Zi {us:List Su} (hus:us.length < 100000000) (σb:Store) (askD:D) (hok:askD.ok=true) (hce:askD.cells=[askD]) (na:Nat) (heach:∀ u∈us,∀ σ,FrA σb σ→∃ σ',FrA σ σ'∧∀ n,na≤n→W SG9 n rN [dCo u.body,dSs u.ps,askD] σ=some (.ret ⟨false,.bool true⟩,σ'))
  {lb:Nat} (hlb:aB σb.objs lb=some [⟨false,dUs us⟩]) (hln:lb < σb.next) (σ:Store) (hJ:FrA σb σ):∃ σ',FrA σb σ'∧∀ n,na + us.length + 10≤n→W SG9 n ze0 [askD,.ptr lb 0] σ=some (.ret ⟨false,.bool true⟩,σ'):=by
 obtain ⟨σ1,e1⟩:∃ σ1,σ1=GA σ zxv [⟨false,askD⟩]:=⟨_,rfl⟩
 have f1:FrA σ σ1:=by rw [e1]; exact FrA.ga
 have j1:FrA σb σ1:=hJ.trans f1
 have a1:aB σ1.objs σ.next=some [⟨false,askD⟩]:=by rw [e1,dY]
 have n1:σ1.next=σ.next + 1:=by rw [e1,cS]
 have l1:aB σ1.objs lb=some [⟨false,dUs us⟩]:=by rw [j1.ob _ hln,hlb]
 obtain ⟨σ',hj',hw⟩:=zbe (S:=SG9) rfl rfl us (.fn (.func ze1) [] [.ptr σ.next 0]) ze1 [.ptr σ.next 0] rfl (by omega) (FrA σ1) (na + 1) (fun u hu τ hτ=>by
  obtain ⟨τ',hf,hw⟩:=heach u hu τ (j1.trans hτ)
  exact ⟨τ',hτ.trans hf,zti na τ τ' (by rw [hτ.ob _ (by omega),a1]) hw⟩) σ1 FrA.refl
 refine ⟨σ',j1.trans hj',fun n hn=>?_⟩
 obtain ⟨n,rfl⟩:∃ k,n=k + 1:=⟨n - 1,by omega⟩
 rw [bC (af:=zdw) rfl rfl rfl]
 have hw:=hw n (by omega)
 simp only [zdw,sA,Nat.reduceAdd,Nat.reduceSub,Nat.reduceMul,Nat.reduceBEq,Nat.reduceLeDiff,Int.reduceBEq,Int.reduceBNe,Int.reduceLE,Int.reduceLT,Int.reduceGE,Int.reduceGT,Int.reduceNeg,kn,bF,mB,hok,hce,← e1,l1,hw]
theorem Jy {gl:List Tx} {u:Su} (hG:Good (gl ++ u.ps) u.body) (hsz:u.ps.length + u.body.size≤50000000) (askD:D) (fid:FuncId) (caps:List D) (hask:D.fn? askD=some (fid,[],caps)) (σ:Store)
  (hrun:∀ τ,FrA σ τ→∀ c g,Good (gl ++ g) c→(ifB (c.f == 8) (g ++ nms c) g).length≤50000000→c.size≤50000000→g.length≤50000000→∃ τ',FrA σ τ'∧∀ n,60000000≤n→W SG9 n fid ([dCo c,dSs (ifB (c.f == 8) (g ++ nms c) g)] ++ caps) τ=some (.ret ⟨false,.bool true⟩,τ')) :
  ∃ σ',FrA σ σ'∧∀ n,120000000≤n→W SG9 n rN [dCo u.body,dSs u.ps,askD] σ=some (.ret ⟨false,.bool true⟩,σ'):=by
 obtain ⟨σ',h1,h2⟩:=zyj (P:=SG9) rfl rfl rfl (FrA σ) askD fid caps hask 60000000 50000000 (by omega) (fun c g=>Good (gl ++ g) c) (fun c g h=>(Rt h).1) (fun c g h=>(Rt h).2.1) (fun c g h=>(Rt h).2.2)
  (fun τ hτ c g h e1 e2=>hrun τ hτ c g h e1 e2 (by cases hb:c.f == 8 <;> rw [hb] at e1 <;> simp only [aE,aG,List.length_append] at e1 <;> omega)) u.body u.ps σ FrA.refl hG hsz
 exact ⟨σ',h1,fun n hn=>h2 n (by omega)⟩
theorem zor {u:Su} (h:iP u.ps=false) (hl:u.ps.length < 100000000) (n:Nat) (σ:Store):W SG9 (n + 2) ze4 [dU u] σ=some (.ret ⟨false,.bool false⟩,σ):=by
 have hon:=fF u.body
 have hoS:=dN u.ps
 have ht:=zmo (S:=SG9) rfl u.ps (by omega) n σ
 rw [h] at ht
 rw [bC (af:=zd0) rfl rfl rfl]
 simp only [zd0,Cm,sA,Nat.reduceAdd,Nat.reduceSub,Nat.reduceMul,Nat.reduceBEq,Nat.reduceLeDiff,Int.reduceBEq,Int.reduceBNe,Int.reduceLE,Int.reduceLT,Int.reduceGE,Int.reduceGT,Int.reduceNeg,kn,hon,hoS,ht]
theorem zje (us:List Su) (hg:GoodP us):OkP zez [dFs FL,dUs us] ⟨false,.int .i64 0⟩:=by
 have hfew:=hg.few
 have hF:FL.length=5:=rfl
 obtain ⟨gl,hgl⟩:∃ gl,gl=us.map Su.name:=⟨_,rfl⟩
 have hgll:gl.length=us.length:=by rw [hgl,List.length_map]
 obtain ⟨σ1,e1⟩:∃ σ1,σ1=GA σ0 zpj [⟨false,dFs FL⟩]:=⟨_,rfl⟩
 obtain ⟨σ2,e2⟩:∃ σ2,σ2=GA σ1 zxt [⟨false,dUs us⟩]:=⟨_,rfl⟩
 obtain ⟨σ3,e3⟩:∃ σ3,σ3=GA σ2 t_8 [⟨false,.nils⟩]:=⟨_,rfl⟩
 obtain ⟨σ4,e4⟩:∃ σ4,σ4=SO σ3 2 [⟨false,dSs gl⟩]:=⟨_,rfl⟩
 obtain ⟨σ5,e5⟩:∃ σ5,σ5=GA σ4 zxw [⟨false,.nilfn⟩]:=⟨_,rfl⟩
 obtain ⟨σ6,e6⟩:∃ σ6,σ6=SO σ5 3 [⟨false,.fn (.func Gm) [] [.ptr 0 0]⟩]:=⟨_,rfl⟩
 have n0:σ0.next=0:=rfl
 have n1:σ1.next=1:=by rw [e1,cS]; rfl
 have n2:σ2.next=2:=by rw [e2,cS,n1]
 have n3:σ3.next=3:=by rw [e3,cS,n2]
 have n4:σ4.next=3:=by rw [e4,dJ,n3]
 have n5:σ5.next=4:=by rw [e5,cS,n4]
 have n6:σ6.next=4:=by rw [e6,dJ,n5]
 have b0:aB σ1.objs 0=some [⟨false,dFs FL⟩]:=by rw [e1]; rfl
 have b1:aB σ2.objs 1=some [⟨false,dUs us⟩]:=by rw [e2,← n1,dY]
 have b2:aB σ3.objs 2=some [⟨false,.nils⟩]:=by rw [e3,← n2,dY]
 have b14:aB σ4.objs 1=some [⟨false,dUs us⟩]:=by rw [e4,eK (by decide),e3,fN (by omega),b1]
 have b3:aB σ5.objs 3=some [⟨false,.nilfn⟩]:=by rw [e5,← n4,dY]
 have c0:aB σ6.objs 0=some [⟨false,dFs FL⟩]:=by rw [e6,eK (by decide),e5,fN (by omega),e4,eK (by decide),e3,fN (by omega),e2,fN (by omega),b0]
 have c1:aB σ6.objs 1=some [⟨false,dUs us⟩]:=by rw [e6,eK (by decide),e5,fN (by omega),b14]
 have c2:aB σ6.objs 2=some [⟨false,dSs gl⟩]:=by rw [e6,eK (by decide),e5,fN (by omega),e4,fM]
 have c3:aB σ6.objs 3=some [⟨false,.fn (.func Gm) [] [.ptr 0 0]⟩]:=by rw [e6,fM]
 have hT:TB σ6 gl 2 3 0:=⟨c2,c3,c0,by omega⟩
 have hbody:∀ u∈us,Good (gl ++ u.ps) u.body∧u.ps.length + u.body.size≤50000000:=fun u hu=>by
  have h1:=hg.body u hu
  have h2:=hg.ps u hu
  rw [hgl]
  exact ⟨h1.1,by omega⟩
 obtain ⟨σ7,j7,w7⟩:=Zi (us:=us) (by omega) σ6 (.fn (.func We) [] []) rfl rfl 120000000 (fun u hu σ hσ=>by
  obtain ⟨h1,h2⟩:=hbody u hu
  exact Jy h1 h2 _ We [] rfl σ fun τ hτ c g hG e1 e2 e3=>by
   obtain ⟨τ',h3,h4⟩:=zo4 (g:=ifB (c.f == 8) (g ++ nms c) g) hG (by omega) σ τ hτ
   have:=gZ c
   have:=nI c.al
   exact ⟨τ',h3,fun n hn=>h4 n (by omega)⟩) c1 (by omega) σ6 FrA.refl
 obtain ⟨σ8,j8,w8⟩:=Zi (us:=us) (by omega) σ6 (.fn (.func ze2) [] []) rfl rfl 120000000 (fun u hu σ hσ=>by
  obtain ⟨h1,h2⟩:=hbody u hu
  exact Jy h1 h2 _ ze2 [] rfl σ fun τ hτ c g hG e1 e2 e3=>by
   have:=gZ c
   have:=nI c.al
   exact ⟨τ,hτ,fun n hn=>zuy hG (by omega) τ n (by omega)⟩) c1 (by omega) σ7 j7
 obtain ⟨σ9,j9,w9⟩:=Zi (us:=us) (by omega) σ6 (.fn (.func ze6) [] [.ptr 2 0,.ptr 3 0]) rfl rfl 120000000 (fun u hu σ hσ=>by
  obtain ⟨h1,h2⟩:=hbody u hu
  exact Jy h1 h2 _ ze6 [.ptr 2 0,.ptr 3 0] rfl σ fun τ hτ c g hG e1 e2 e3=>by
   obtain ⟨τ',h3,h4⟩:=zss hG (by omega) (by omega) (by omega) σ τ (hT.fa hσ) hτ _ rfl
   have:=gZ c
   have:=nI c.al
   exact ⟨τ',h3,fun n hn=>h4 n (by omega)⟩) c1 (by omega) σ8 j8
 obtain ⟨σp,rfl,wp⟩:=zbe (S:=SG9) rfl rfl us (.fn (.func ze4) [] []) ze4 [] rfl (by omega) (fun τ=>τ=σ4) 2 (fun u hu τ hτ=>⟨τ,hτ,fun n hn=>by
  obtain ⟨n,rfl⟩:∃ k,n=k + 2:=⟨n - 2,by omega⟩
  have:=hg.ps u hu
  exact zor this.1 (by omega) n τ⟩) σ4 rfl
 obtain ⟨N,hN⟩:∃ N,N=200000000:=⟨_,rfl⟩
 have w7:=w7 (N + 1) (by omega)
 have w8:=w8 (N + 1) (by omega)
 have w9:=w9 (N + 1) (by omega)
 have wp:=wp (N + 1) (by omega)
 have wn:=zp5 (S:=SG9) rfl us (by omega) N σ2
 have wf:=zp4 (S:=SG9) rfl FL (by omega) N σ7
 have wc:=Up (S:=SG9) rfl (FL.map Fd.name) gl (by simp; omega) N σ7
 have wt:=zmo (S:=SG9) rfl (FL.map Fd.name ++ gl) (by simp; omega) N σ7
 have ho:=hg.once
 rw [← hgl] at ho wn
 rw [ho] at wt
 have d0:aB σ7.objs 0=some [⟨false,dFs FL⟩]:=by rw [j7.ob _ (by omega),c0]
 have d2:aB σ7.objs 2=some [⟨false,dSs gl⟩]:=by rw [j7.ob _ (by omega),c2]
 have oF:(dFs FL).ok=true:=rfl
 have cF':(dFs FL).cells=[dFs FL]:=rfl
 have oU:(dUs us).ok=true:=dQ
 have cU':(dUs us).cells=[dUs us]:=bX
 have oG:(dSs gl).ok=true:=dQ
 have cG:(dSs gl).cells=[dSs gl]:=bX
 have oN:(dSs (FL.map Fd.name)).ok=true:=dQ
 have cN:(dSs (FL.map Fd.name)).cells=[dSs (FL.map Fd.name)]:=bX
 have onG:=dN gl
 have f1:D.fn? (.fn (.func ze0) [] [.ptr 1 0])=some (ze0,[],[.ptr 1 0]):=rfl
 simp only [sF] at wn
 simp only [sE] at wf
 simp only [dd] at wc
 have hnp:aX [dFs FL,dUs us]=true:=by simp [aX,Lp,sG]
 generalize dFs FL=fl at *
 generalize FL.map Fd.name=fnm at *
 refine pO (af:=zdv) (n:=1) (σ':=σ9) (mX SG9 (N + 1)) rfl rfl hnp rfl ?_
 simp only [zdv,sA,Nat.reduceAdd,Nat.reduceSub,Nat.reduceMul,Nat.reduceBEq,Nat.reduceLeDiff,Int.reduceBEq,Int.reduceBNe,Int.reduceLE,Int.reduceLT,Int.reduceGE,Int.reduceGT,Int.reduceNeg,kn,bF,mB,oF,cF',oU,cU',n0,← e1,n1,← e2,b1,wn,n2,← e3,b2,oG,cG,onG,mL,← e4,b14,wp,n4,← e5,b3,← e6,f1,w7,d0,d2,gV,wf,oN,cN,wc,wt,w8,w9]
end Go.Fu
namespace Go.Fu
open Go Go.Mx
set_option maxRecDepth 10000
set_option maxHeartbeats 4000000
def spGw (us:List Su):List D→Cell→Prop:=fun ds c=>ds=[dFs FL,dUs us]→c=⟨false,.int .i64 0⟩
def spGf:List D→Cell→Prop:=fun ds c=>∀ u,ds=[dU u]→c=⟨false,dUs (fV u)⟩
def spGc:List D→Cell→Prop:=fun ds c=>∀ u,ds=[dU u]→c=⟨false,dD (eG u)⟩
def SGC (us:List Su):aV:=[(zez,spGw us),(uE,spGf),(Le,spGc)]
def bW (us:List Su):List Cd:=FL.map dR ++ us.flatMap fun u=>(fV u).map eG
def Av (us:List Su) (acc:List Cd) (o:Bool) (i:Nat):Env:={slots:=[(1,⟨false,dUs us⟩),(7,⟨o,dDs acc⟩),(23,⟨false,dFs FL⟩),(24,⟨false,.int .i64 5⟩),(25,⟨false,.int .i64 i⟩)],locs:=[],boxes:=[],defers:=[]}
def As:D:=.list k_0 [.str [85,80,68,65,84,69],.str [80,79,80],.str [85,78,87,73,78,68]]
def bxF (f:Fd):List Cell:=[⟨false,.str f.name⟩,⟨false,.int .i64 f.tag⟩,⟨false,.int .i64 f.many⟩,⟨false,.int .i64 f.arity⟩,⟨false,.int .i64 0⟩,⟨false,.int .i64 0⟩,⟨false,.str []⟩,⟨false,.nils⟩]
def Ja (us:List Su) (acc:List Cd) (o:Bool) (i:Nat) (f:Fd) (p j:Nat):Env:={slots:=[(1,⟨false,dUs us⟩),(7,⟨o,dDs acc⟩),(10,⟨false,.ptr p 0⟩),(23,⟨false,dFs FL⟩),(24,⟨false,.int .i64 5⟩),(25,⟨false,.int .i64 i⟩),(39,⟨true,As⟩),(40,⟨false,.int .i64 3⟩),(41,⟨false,.int .i64 j⟩)],locs:=[(9,(9,0))],boxes:=[(9,bxF f)],defers:=[]}
section
variable {C:aM} {n:Nat}
theorem Zu (us:List Su) (acc:List Cd) (o:Bool) (i:Nat) (f:Fd) (p j:Nat) (hj:j < 3) (s:Tx) (hx:dC 1 As j=some (.eptr (.str s))) (σ σ':Store) (h:C n_6 [.ptr p 0,.str s,.int .i64 0] σ=some (.ret ⟨false,.tup []⟩,σ')):exec C n none iU (Ja us acc o i f p j) σ=some (.normal,Ja us acc o i f p (j + 1),σ'):=by
 have hlt:((j:Int) < 3):=by omega
 have w:=aR (i:=j) (by omega)
 simp only [iU,Ja,sA,Nat.reduceAdd,Nat.reduceSub,Nat.reduceMul,Nat.reduceBEq,Nat.reduceLeDiff,Int.reduceBEq,Int.reduceBNe,Int.reduceLE,Int.reduceLT,Int.reduceGE,Int.reduceGT,Int.reduceNeg,kn,hlt,cL,hx,h,w]
theorem zbab (us:List Su) (acc:List Cd) (o:Bool) (i:Nat) (f:Fd) (p:Nat) (σ:Store):exec C n none iU (Ja us acc o i f p 3) σ=some (.exit 2,{Ja us acc o i f p 3 with slots:=[(1,⟨false,dUs us⟩),(7,⟨o,dDs acc⟩),(10,⟨false,.ptr p 0⟩),(23,⟨false,dFs FL⟩),(24,⟨false,.int .i64 5⟩),(25,⟨false,.int .i64 i⟩),(39,⟨true,As⟩),(40,⟨false,.int .i64 3⟩),(41,⟨false,.int .i64 (3:Nat)⟩),(42,⟨false,.bool false⟩)]},σ):=by
 have hlt:¬ (((3:Nat):Int) < 3):=by omega
 simp only [iU,Ja,sA,Nat.reduceAdd,Nat.reduceSub,Nat.reduceMul,Nat.reduceBEq,Nat.reduceLeDiff,Int.reduceBEq,Int.reduceBNe,Int.reduceLE,Int.reduceLT,Int.reduceGE,Int.reduceGT,Int.reduceNeg,kn,hlt]
end
theorem CA.frz {σ:Store} {p a:Nat} {L:List In} (h:CA σ p a .nilmap L):∃ os,lV [⟨false,lC a L⟩,⟨false,.nilmap⟩] (aY σ.objs p)=some ([⟨false,dIs L⟩,⟨false,.nilmap⟩],os):=by
 have hk:=Vl a L
 have hk2:Cell.keeps ⟨false,.nilmap⟩=false:=rfl
 have hn:∀ os,bR 40 .nilmap os=some (.nilmap,os):=fun _=>rfl
 have hpa:=h.pa
 by_cases hL:L=[]
 ·subst hL
  exact ⟨_,rfl⟩
 ·have hr:=qV (k:=k_1) (id:=a) (n:=39) (ds:=L.map dI) (os:=aY σ.objs p) (os':=aY (aY σ.objs p) a) (by rw [agD _ _ (fun e=>hpa e.symm),(h.arr hL).1,uR]) rfl rfl (Vk L) (fun d hd=>by
   obtain ⟨x,_,rfl⟩:=List.mem_map.1 hd
   rfl)
  rw [List.length_map] at hr
  have hd:dIs L=.list k_1 (L.map dI):=by
   cases L with
   | nil=>exact absurd rfl hL
   | cons a b=>rfl
  rw [← hd] at hr
  rw [Cf _ _ hL] at hk ⊢
  exact ⟨aY (aY σ.objs p) a,by simp only [lV,hr,hk,hk2,hn,aC,aF]⟩
theorem zyo (us:List Su) (acc:List Cd) (o:Bool) (ho:acc≠[]→o=true) (i:Nat) (hi:i < FL.length) (hacc:acc.length < 1000) (σ:Store) (N n:Nat) (hn:3 < n):∃ σ',exec (W (SGC us) (N + 1)) n none iV (Av us acc o i) σ=some (.normal,Av us (acc ++ [dR FL[i]]) true (i + 1),σ'):=by
 have hF:FL.length=5:=rfl
 have hlt:((i:Int) < 5):=by omega
 have w:=aR (i:=i) (by omega)
 have hx:=Oi FL i hi
 generalize FL[i]=f at hx ⊢
 obtain ⟨L0,hL0⟩:∃ L0:List In,L0=[⟨zo0,f.arity,f.tag,f.name⟩]:=⟨_,rfl⟩
 obtain ⟨σ1,e1⟩:∃ σ1,σ1=aN σ k_1 (cI L0):=⟨_,rfl⟩
 have n1:σ1.next=σ.next + 2:=by rw [e1]; rfl
 obtain ⟨σ2,e2⟩:∃ σ2,σ2=GA σ1 Pg [⟨false,.arr k_1 σ.next 0 1⟩,⟨false,.nilmap⟩]:=⟨_,rfl⟩
 have n2:σ2.next=σ.next + 3:=by rw [e2,cS,n1]
 have c2:CA σ2 (σ.next + 2) σ.next .nilmap L0:=by
  refine ⟨?_,fun _=>⟨?_,?_⟩,by omega,by omega,by omega⟩
  ·rw [e2,← n1,dY,hL0]
   rfl
  ·rw [e2,fN (by omega),e1]
   exact agS _ _ _
  ·rw [e2,zc4 (by omega),e1]
   exact agS _ _ _
 obtain ⟨σ3,w3,c3,_,_⟩:=xT (S:=SGC us) rfl c2 (by rw [hL0]; simp) [85,80,68,65,84,69] 0
 obtain ⟨σ4,w4,c4,_,_⟩:=xT (S:=SGC us) rfl c3 (by rw [hL0]; simp) [80,79,80] 0
 obtain ⟨σ5,w5,c5,_,_⟩:=xT (S:=SGC us) rfl c4 (by rw [hL0]; simp) [85,78,87,73,78,68] 0
 have hbody:L0 ++ [op1 [85,80,68,65,84,69] 0] ++ [op1 [80,79,80] 0] ++ [op1 [85,78,87,73,78,68] 0]=(dR f).body:=by rw [hL0]; rfl
 rw [hbody] at c5
 have x0:dC 1 As 0=some (.eptr (.str [85,80,68,65,84,69])):=rfl
 have x1:dC 1 As 1=some (.eptr (.str [80,79,80])):=rfl
 have x2:dC 1 As 2=some (.eptr (.str [85,78,87,73,78,68])):=rfl
 obtain ⟨m,rfl⟩:∃ m,n=m + 4:=⟨n - 4,by omega⟩
 have l0:dL (exec (W (SGC us) (N + 1)) (m + 4) none iU) (m + 4) (Ja us acc o i f (σ.next + 2) 0) σ2=_:=(dW (Zu us acc o i f (σ.next + 2) 0 (by omega) _ x0 σ2 σ3 (w3 N))).trans ((dW (Zu us acc o i f (σ.next + 2) 1 (by omega) _ x1 σ3 σ4 (w4 N))).trans ((dW (Zu us acc o i f (σ.next + 2) 2 (by omega) _ x2 σ4 σ5 (w5 N))).trans (gX (zbab us acc o i f (σ.next + 2) σ5))))
 have ho5:=c5.obj
 obtain ⟨os,hfz⟩:=c5.frz
 have hap:=zxc acc (dR f) o ho (by omega)
 have hdd:dD (dR f)=.agg [.str f.name,.int .i64 f.arity,dIs (dR f).body]:=rfl
 have hoI:(dIs (dR f).body).one=true:=bZ
 have okI:(dIs (dR f).body).ok=true:=dQ
 have ceI:(dIs (dR f).body).cells=[dIs (dR f).body]:=bX
 rw [hdd] at hap
 generalize (dR f).body=B at *
 have hb0:[D.agg [.str zo0,.int .i64 f.arity,.int .i64 f.tag,.str f.name]]=L0.map dI:=by rw [hL0]; rfl
 have hcl:cellsOf [D.agg [.str [80,65,67,75],.int .i64 f.arity,.int .i64 f.tag,.str f.name]]=cI L0:=by rw [hL0]; rfl
 have hos:aB (aU os (σ.next + 2) [⟨false,dIs B⟩,⟨false,.nilmap⟩]) (σ.next + 2)=some [⟨false,dIs B⟩,⟨false,.nilmap⟩]:=agA _ _ _
 have hln:lenOf As=some 3:=rfl
 have hthree:D.list k_0 [.str [85,80,68,65,84,69],.str [80,79,80],.str [85,78,87,73,78,68]]=As:=rfl
 refine ⟨{σ5 with objs:=aU os (σ.next + 2) [⟨false,dIs B⟩,⟨false,.nilmap⟩]},?_⟩
 simp only [dF] at hx
 have q3:((3:Nat):Int)=3:=rfl
 simp only [Ja,bxF,bV,q3] at l0
 have one3:(([.str [85,80,68,65,84,69],.str [80,79,80],.str [85,78,87,73,78,68]]:List D).length:Int)=3:=rfl
 simp only [iV,Av,sA,Nat.reduceAdd,Nat.reduceSub,Nat.reduceMul,Nat.reduceBEq,Nat.reduceLeDiff,Int.reduceBEq,Int.reduceBNe,Int.reduceLE,Int.reduceLT,Int.reduceGE,Int.reduceGT,Int.reduceNeg,kn,bF,mB,hlt,cL,hx,hcl,← e1,n1,← e2,hthree,hln,q3,l0,uA,kO,lL,ho5,hfz,hos,hap,hoI,okI,ceI,w]
 done
end Go.Fu
namespace Go.Fu
open Go Go.Mx
set_option maxRecDepth 10000
theorem zvp (x:Int):Small (w64 x):=Xt x
theorem tJ {k:Nat} (h:k≤2000000000):Small (k:Int):=⟨by omega,by omega⟩
theorem gi4 {B:Nat} {o:Tx} {n m:Int} {s:Tx} (ho:o.length≤6) (hn:Small n) (hm:Small m) (hs:s.length≤B):GI B ⟨o,n,m,s⟩:=⟨ho,hn,hm,hs⟩
theorem Uy {B:Nat} {lz:Co→List In→List In} (k:Nat):∀ (l:List (Tx × Co)) (i m:Nat) (L:List In),GC B m L→(∀ b∈l,∀ (L:List In) (m:Nat),GC B m L→GC B (m + 3 * b.2.size) (lz b.2 L))→GC B (m + 3 * szB l) (sS lz k l i L)
 | [],i,m,L,h,_=>fH h (by omega)
 | b :: r,i,m,L,h,hl=>by
  have h1:=eM (hl b (List.mem_cons_self ..) L m h) (jG (B:=B) (s:=kQ) (x:=Nz k i) (by decide) (Xt _))
  have h2:=Uy k r (i + 1) _ _ h1 fun b hb=>hl b (List.mem_cons_of_mem _ hb)
  exact fH h2 (by simp only [szB]; omega)
theorem zer {B:Nat}:∀ (n:Nat) (c:Co) (z:Bool) (M:At) (d:Int) (L:List In) (m:Nat),c.size < 100000000→Fl B z c→(z=true∨c.f=1∨c.f=2∨c.f=3∨c.f=4)→GC B m L→GC B (m + 3 * c.size) (lzS n c M d L):=by
 intro n
 induction n with
 | zero=>intro c z M d L m _ _ _ h; exact fH h (by omega)
 | succ n ih =>
  intro c z M d L m hsz hf hz h
  have hp:=iF c
  cases hf with
  | @leaf _ f k s h1 h2 h3 =>
   rcases h1 with rfl | rfl | rfl
   ·show GC B _ (bT (M s) (L ++ [⟨zE,0,0,s⟩]) fun a=>L ++ [op1 Xo (w64 (w64 (d - 1) - a))])
    cases M s with
    | none=>exact fH (eM h (gi4 (by decide) zS zS h3)) (by omega)
    | some a=>exact fH (eM h (jG (by decide) (zvp _))) (by omega)
   ·exact fH (eM h (gi4 (by decide) zS zS h3)) (by omega)
   ·exact fH (eM h (jG (by decide) h2)) (by omega)
  | @app _ s a b h1 ha hb =>
   have he:(Co.mk 4 0 s [a,b] [] []).size=1 + (a.size + (b.size + 0)) + 0 + 0:=by simp only [Co.size,szK,szB,szA]
   have q1:=ih b true M d L m (by omega) hb (.inl rfl) h
   have q2:=ih a true M (w64 (d + 1)) _ _ (by omega) ha (.inl rfl) q1
   exact fH (eM q2 (jG (s:=zfi) (x:=0) (by decide) zS)) (by omega)
  | @lt _ s b bs h1 h2 h3 h4 =>
   have he:(Co.mk 8 0 s [b] bs []).size=1 + (b.size + 0) + szB bs + 0:=by simp only [Co.size,szK,szA]
   have hz':z=true:=by
    rcases hz with h | h | h | h | h
    ·exact h
    all_goals simp [Co.f] at h
   subst hz'
   have hbl:=lY bs
   have hsm:Small (bs.length:Int):=tJ (by omega)
   have q0:=eM h (jG (B:=B) (s:=oM) (x:=bs.length) (by decide) hsm)
   have q1:=Uy (B:=B) (lz:=fun c L=>lzS n c (cM M (nms (Co.mk 8 0 s [b] bs [])) d 0) (w64 (d + bs.length)) L) bs.length bs 0 _ _ q0 fun x hx L m hm=>by
    have:=oY bs x hx
    exact ih x.2 true _ _ L m (by omega) (h3 x hx) (.inl rfl) hm
   have q2:=ih b true (cM M (nms (Co.mk 8 0 s [b] bs [])) d 0) (w64 (d + bs.length)) _ _ (by omega) h4 (.inl rfl) q1
   exact fH (eM q2 (jG (s:=qC) (x:=bs.length) (by decide) hsm)) (by omega)
  | fail=>rcases hz with h | h | h | h | h <;> simp [Co.f] at h
  | prim _ _ _=>rcases hz with h | h | h | h | h <;> simp [Co.f] at h
  | cas _ _ _ _=>rcases hz with h | h | h | h | h <;> simp [Co.f] at h
theorem zl1 {p:In→Prop} {f:In→In} (hf:∀ x,p x→p (f x)):∀ (l:List In) (k:Nat),(∀ x∈l,p x)→∀ x∈l.modify k f,p x
 | [],k,h,x,hx=>by simp at hx
 | y :: r,0,h,x,hx=>by
  simp only [List.modify_zero_cons,List.mem_cons] at hx
  rcases hx with rfl | hx
  ·exact hf _ (h y (List.mem_cons_self ..))
  ·exact h x (List.mem_cons_of_mem _ hx)
 | y :: r,k + 1,h,x,hx=>by
  simp only [List.modify_succ_cons,List.mem_cons] at hx
  rcases hx with rfl | hx
  ·exact h _ (List.mem_cons_self ..)
  ·exact zl1 hf r k (fun x hx=>h x (List.mem_cons_of_mem _ hx)) x hx
theorem zsl {B m k:Nat} {v:Int} {L:List In} (h:GC B m L) (hv:Small v):GC B m (rI L k v) :=
 ⟨zl1 (fun _ ⟨a,_,b,c⟩=>⟨a,hv,b,c⟩) L k h.1,by rw [vR]; exact h.2⟩
theorem zlw {B m:Nat} (hm:m≤2000000000):∀ (l:List Nat) (L:List In),GC B m L→GC B m (Ge l L)
 | [],L,h=>h
 | e :: r,L,h=>zlw hm r _ (zsl h (tJ (by have:=h.2; omega)))
theorem za2b {B m:Nat} {st:Bool} {h:Hd} {L:List In} (hv:h.vars.length≤2000000000) (hL:GC B m L):GC B (m + 2) (mQ st h L):=by
 unfold mQ
 cases st with
 | false=>exact fH hL (by omega)
 | true =>
  rw [aE]
  cases h.form == 1 with
  | true=>exact eM (eM hL (jG (by decide) (tJ hv))) (gi4 (by decide) zS zS (by simp))
  | false=>exact fH (eM hL (gi4 (by decide) zS zS (by simp))) (by omega)
theorem zy0 {B m:Nat} {h:Hd} {L:List In} (hv:h.vars.length≤2000000000) (hn:Small h.num) (hs:h.name.length≤B) (hL:GC B m L):GC B (m + 2) (L ++ mG h):=by
 have e:∀ a b:In,L ++ [a,b]=L ++ [a] ++ [b]:=by simp
 unfold mG
 cases h.form == 1 with
 | true=>rw [aE,e]; exact eM (eM hL (gi4 (by decide) zS zS hs)) (jG (by decide) (tJ hv))
 | false =>
  rw [aG]
  cases h.form == 2 with
  | true=>rw [aE,e]; exact eM (eM hL (gi4 (by decide) zS hn (by simp))) (jG (by decide) zar)
  | false=>exact fH (eM hL (jG (by decide) zar)) (by omega)
theorem zf8 {B:Nat} (st:Bool) (body:Co→At→Int→List In→List In) (M:At) (d:Int):∀ (l:List (Hd × Co)) (s:List In × List Nat) (m:Nat),m + 8 * szA l≤1000000000→GC B m s.1→(∀ a∈l,Small a.1.num∧a.1.name.length≤B)→(∀ a∈l,∀ (M:At) (d:Int) (L:List In) (m:Nat),Small d→m + 8 * a.2.size≤1000000000→GC B m L→GC B (m + 8 * a.2.size + 3) (body a.2 M d L))→GC B (m + 8 * szA l) (fC st body M d l s).1.1
 | [],s,m,_,h,_,_=>fH h (by omega)
 | a :: r,s,m,hm,h,hh,hb=>by
  simp only [szA] at hm ⊢
  have hs:=hh a (List.mem_cons_self ..)
  have h1:GC B (m + 8 * (1 + a.1.vars.length + a.2.size)) (kC st body M d a s).1:=by
   have q1:=zy0 (h:=a.1) (by omega) hs.1 hs.2 h
   have q2:=hb a (List.mem_cons_self ..) (cM M a.1.vars.reverse d 0) (w64 (d + a.1.vars.length)) _ _ (zvp _) (by omega) q1
   have q3:=za2b (st:=st) (h:=a.1) (by omega) q2
   unfold kC
   cases (a.1.form == 1 || a.1.form == 2) with
   | true=>exact fH (zsl q3 (tJ (by have:=q3.2; omega))) (by omega)
   | false=>exact fH q3 (by omega)
  unfold fC
  cases a.1.form == 3 with
  | true=>exact fH h1 (by omega)
  | false=>exact fH (zf8 st body M d r _ _ (by omega) h1 (fun a h=>hh a (List.mem_cons_of_mem _ h)) fun a h=>hb a (List.mem_cons_of_mem _ h)) (by omega)
theorem zq1 {B m:Nat} {st b:Bool} {L:List In} (h:GC B m L):GC B (m + 2) (tY st b L):=by
 unfold tY
 cases b with
 | false=>exact fH h (by omega)
 | true =>
  cases st with
  | true=>exact eM (eM h (jG (by decide) zar)) (jG (by decide) zS)
  | false=>exact fH (eM h (jG (s:=oC) (x:=0) (by decide) zS)) (by omega)
theorem zxs {B:Nat}:∀ (n:Nat) (c:Co) (M:At) (d:Int) (L:List In) (m:Nat),m + 8 * c.size≤1000000000→c.size < 100000000→Fl B false c→GC B m L→GC B (m + 8 * c.size) (stS n c M d L):=by
 intro n
 induction n with
 | zero=>intro c M d L m _ _ _ h; exact fH h (by omega)
 | succ n ih =>
  intro c M d L m hm hsz hf h
  have hp:=iF c
  have hf0:=hf
  have plain:(false=true∨c.f=1∨c.f=2∨c.f=3∨c.f=4)→GC B (m + 8 * c.size) (lzS c.size c M d L ++ [op1 Xn 0]):=fun hz =>
   fH (eM (zer c.size c false M d L m hsz hf0 hz h) (jG (s:=Xn) (x:=0) (by decide) zS)) (by omega)
  cases hf with
  | @leaf _ f k s h1 h2 h3 =>
   rcases h1 with rfl | rfl | rfl
   ·exact plain (.inr (.inl rfl))
   ·exact plain (.inr (.inr (.inl rfl)))
   ·exact plain (.inr (.inr (.inr (.inl rfl))))
  | @app _ s a b h1 ha hb=>exact plain (.inr (.inr (.inr (.inr rfl))))
  | @lt _ s b bs h1 h2 h3 h4 =>
   have he:(Co.mk 8 0 s [b] bs []).size=1 + (b.size + 0) + szB bs + 0:=by simp only [Co.size,szK,szA]
   have hbl:=lY bs
   have hsm:Small (bs.length:Int):=tJ (by omega)
   have q0:=eM h (jG (B:=B) (s:=oM) (x:=bs.length) (by decide) hsm)
   have q1:=Uy (B:=B) (lz:=fun c L=>lzS c.size c (cM M (nms (Co.mk 8 0 s [b] bs [])) d 0) (w64 (d + bs.length)) L) bs.length bs 0 _ _ q0 fun x hx L m hm=>by
    have:=oY bs x hx
    exact zer _ x.2 true _ _ L m (by omega) (h3 x hx) (.inl rfl) hm
   have q2:=ih b (cM M (nms (Co.mk 8 0 s [b] bs [])) d 0) (w64 (d + bs.length)) _ _ (by omega) (by omega) h4 q1
   exact fH (eM q2 (jG (s:=qC) (x:=bs.length) (by decide) hsm)) (by omega)
  | @fail k s=>exact fH (eM h (jG (s:=oC) (x:=0) (by decide) zS)) (by omega)
  | @prim s a b h1 ha hb =>
   have he:(Co.mk 10 0 s [a,b] [] []).size=1 + (a.size + (b.size + 0)) + 0 + 0:=by simp only [Co.size,szK,szB,szA]
   have q1:=ih a M d L m (by omega) (by omega) ha h
   have q2:=ih b M (w64 (d + 1)) _ _ (by omega) (by omega) hb q1
   exact fH (eM q2 (jG (s:=xF s) (x:=0) (zsd s) zS)) (by omega)
  | @cas s x al h1 h2 h3 h4 =>
   have he:(Co.mk 9 0 s [x] [] al).size=1 + (x.size + 0) + 0 + szA al:=by simp only [Co.size,szK,szB]
   have q1:=ih x M d L m (by omega) (by omega) h3 h
   have q2:=zf8 (B:=B) true (stS n) M d al (stS n x M d L,[]) _ (by omega) q1 (fun a ha=>⟨(h2 a ha).1,(h2 a ha).2.1⟩) fun a ha M d L m _ hm hL=>by
    have:=lN al a ha
    exact fH (ih a.2 M d L m hm (by omega) (h4 a ha) hL) (by omega)
   exact fH (zlw (by omega) _ _ (zq1 q2)) (by omega)
theorem zst {B m:Nat} {d:Int} {L:List In} (hd:Small d) (h:GC B m L):GC B (m + 3) (tlE d L):=eM (eM (eM h (jG (by decide) hd)) (jG (by decide) hd)) (jG (by decide) zS)
theorem ze2b {B:Nat}:∀ (n:Nat) (c:Co) (M:At) (d:Int) (L:List In) (m:Nat),Small d→m + 8 * c.size≤1000000000→c.size < 100000000→Fl B false c→GC B m L→GC B (m + 8 * c.size + 3) (tlS n c M d L):=by
 intro n
 induction n with
 | zero=>intro c M d L m _ _ _ _ h; exact fH h (by omega)
 | succ n ih =>
  intro c M d L m hd hm hsz hf h
  have hp:=iF c
  have hf0:=hf
  have plain:(false=true∨c.f=1∨c.f=2∨c.f=3∨c.f=4)→GC B (m + 8 * c.size + 3) (tlE d (lzS c.size c M d L)):=fun hz =>
   fH (zst hd (zer c.size c false M d L m hsz hf0 hz h)) (by omega)
  cases hf with
  | @leaf _ f k s h1 h2 h3 =>
   rcases h1 with rfl | rfl | rfl
   ·exact plain (.inr (.inl rfl))
   ·exact plain (.inr (.inr (.inl rfl)))
   ·exact plain (.inr (.inr (.inr (.inl rfl))))
  | @app _ s a b h1 ha hb=>exact plain (.inr (.inr (.inr (.inr rfl))))
  | @lt _ s b bs h1 h2 h3 h4 =>
   have he:(Co.mk 8 0 s [b] bs []).size=1 + (b.size + 0) + szB bs + 0:=by simp only [Co.size,szK,szA]
   have hbl:=lY bs
   have hsm:Small (bs.length:Int):=tJ (by omega)
   have q0:=eM h (jG (B:=B) (s:=oM) (x:=bs.length) (by decide) hsm)
   have q1:=Uy (B:=B) (lz:=fun c L=>lzS c.size c (cM M (nms (Co.mk 8 0 s [b] bs [])) d 0) (w64 (d + bs.length)) L) bs.length bs 0 _ _ q0 fun x hx L m hm=>by
    have:=oY bs x hx
    exact zer _ x.2 true _ _ L m (by omega) (h3 x hx) (.inl rfl) hm
   have q2:=ih b (cM M (nms (Co.mk 8 0 s [b] bs [])) d 0) (w64 (d + bs.length)) _ _ (zvp _) (by omega) (by omega) h4 q1
   exact fH q2 (by omega)
  | @fail k s=>exact fH (eM h (jG (s:=oC) (x:=0) (by decide) zS)) (by omega)
  | @prim s a b h1 ha hb=>exact zst hd (zxs (n + 1) _ M d L m hm hsz hf0 h)
  | @cas s x al h1 h2 h3 h4 =>
   have he:(Co.mk 9 0 s [x] [] al).size=1 + (x.size + 0) + 0 + szA al:=by simp only [Co.size,szK,szB]
   have q1:=zxs n x M d L m (by omega) (by omega) h3 h
   have q2:=zf8 (B:=B) false (tlS n) M d al (stS n x M d L,[]) _ (by omega) q1 (fun a ha=>⟨(h2 a ha).1,(h2 a ha).2.1⟩) fun a ha M d L m hd hm hL=>by
    have:=lN al a ha
    exact ih a.2 M d L m hd hm (by omega) (h4 a ha) hL
   exact fH (zq1 q2) (by omega)
theorem zle {B:Nat} {u:Su} (h:Fl B false u.body) (hs:u.ps.length + u.body.size < 1000000):GC B (8 * u.body.size + 3) (eG u).body :=
 fH (ze2b u.body.size u.body _ _ [] 0 (tJ (by omega)) (by omega) (by omega) h ⟨fun i hi=>(by cases hi),by simp⟩) (by omega)
end Go.Fu
