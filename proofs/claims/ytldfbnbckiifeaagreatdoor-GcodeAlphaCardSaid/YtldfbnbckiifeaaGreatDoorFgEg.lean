/-
 What the program asks of combinators that are right: no name twice,every name there.
-/
import Derived.Test.YtldfbnbckiifeaaGreatDoorFgEd
import Derived.Test.YtldfbnbckiifeaaGreatDoorFgBd
import Derived.Test.YtldfbnbckiifeaaGreatDoorFgCodeC
set_option maxHeartbeats 4000000
set_option linter.unusedSimpArgs false
set_option linter.unusedVariables false
set_option linter.unusedSectionVars false
namespace Go.Fu
open Go Go.Mx
set_option maxRecDepth 10000
set_option maxHeartbeats 4000000
theorem zvd {al:Hd × Co} (h:lC al.1.vars=false) (hl:al.1.vars.length < 100000000) (n:Nat) (σ:Store):W SG9 (n + 2) zhk [dA al] σ=some (.ret ⟨false,.bool false⟩,σ):=by
 have hda:=pD al
 have hon:=jO al.2
 have hoS:=gW al.1.vars
 have ht:=zpp (S:=SG9) rfl al.1.vars (by omega) n σ
 rw [h] at ht
 rw [eH (af:=zgf) rfl rfl rfl]
 simp only [zgf,sA,Nat.reduceAdd,Nat.reduceSub,Nat.reduceMul,Nat.reduceBEq,Nat.reduceLeDiff,Int.reduceBEq,Int.reduceBNe,Int.reduceLE,Int.reduceLT,Int.reduceGE,Int.reduceGT,Int.reduceNeg,kn,hda,hon,hoS,ht]
theorem zya {ns g:List Tx} {c:Co} (h:Good ns c) (hl:c.size < 100000000) (σ:Store):∀ n,c.al.length + 8≤n→W SG9 n zhj [dCo c,dSs g] σ=some (.ret ⟨false,.bool true⟩,σ):=by
 have hse:=iV c
 have lA:=oK c.al
 have lB:=mW c.bs
 have hdc:=fJ c
 have hon:=jO c
 have hbt:lC (nms c)=false:=zqq h
 obtain ⟨σ',hj',hw⟩:=zb9 (S:=SG9) rfl rfl c.al (.fn (.func zhk) [] []) zhk [] rfl (by omega) (fun τ=>τ=σ) 2 (fun a ha τ hτ=>⟨τ,hτ,fun n hn=>by
  obtain ⟨n,rfl⟩:∃ k,n=k + 2:=⟨n - 2,by omega⟩
  have:=lU c.al a ha
  exact zvd (Jc h a ha).2.1 (by omega) n τ⟩) σ rfl
 subst hj'
 intro n hn
 obtain ⟨n,rfl⟩:∃ k,n=k + 2:=⟨n - 2,by omega⟩
 rw [eH (af:=zge) rfl rfl rfl]
 have hw:=hw (n + 1) (by omega)
 have hnm:=zpo (S:=SG9) rfl c.bs (by omega) n σ'
 have hnc:c.bs.map Prod.fst=nms c:=rfl
 rw [hnc] at hnm
 have ht:=zpp (S:=SG9) rfl (nms c) (by simp [nms]; omega) n σ'
 rw [hbt] at ht
 have had:dAs' c.al=aD c:=rfl
 rw [had] at hw
 have hbd:dBl' c.bs=bD c:=rfl
 rw [hbd] at hnm
 simp only [bnF] at hnm
 simp only [zge,sA,Nat.reduceAdd,Nat.reduceSub,Nat.reduceMul,Nat.reduceBEq,Nat.reduceLeDiff,Int.reduceBEq,Int.reduceBNe,Int.reduceLE,Int.reduceLT,Int.reduceGE,Int.reduceGT,Int.reduceNeg,kn,hdc,hon,hnm,ht,hw]
structure TB (σ:Store) (gl:List Tx) (gb cb fb:Nat):Prop where
 g:dE σ.objs gb=some [⟨false,dSs gl⟩]
 c:dE σ.objs cb=some [⟨false,.fn (.func Jq) [] [.ptr fb 0]⟩]
 f:dE σ.objs fb=some [⟨false,dFs FL⟩]
 n:gb < σ.next∧cb < σ.next∧fb < σ.next
theorem TB.fa {σ σ':Store} {gl:List Tx} {gb cb fb:Nat} (h:TB σ gl gb cb fb) (f:FrA σ σ'):TB σ' gl gb cb fb:=by
 have:=f.nx
 have:=h.n
 exact ⟨by rw [f.ob _ (by omega),h.g],by rw [f.ob _ (by omega),h.c],by rw [f.ob _ (by omega),h.f],by omega⟩
theorem zxb (f:Fd) (s:Tx) (m:Int) (p q:Nat) (σ:Store) (hp:dE σ.objs p=some [⟨false,.str s⟩]) (hq:dE σ.objs q=some [⟨false,.int .i64 m⟩]) (n:Nat):W SG9 (n + 1) zhm [dF f,.ptr p 0,.ptr q 0] σ=some (.ret ⟨false,.bool (Yr s m f)⟩,σ):=by
 rw [eH (af:=zbi) rfl rfl rfl]
 unfold Yr
 cases e1:f.name == s with
 | false=>simp only [zbi,dF,sA,Nat.reduceAdd,Nat.reduceSub,Nat.reduceMul,Nat.reduceBEq,Nat.reduceLeDiff,Int.reduceBEq,Int.reduceBNe,Int.reduceLE,Int.reduceLT,Int.reduceGE,Int.reduceGT,Int.reduceNeg,kn,hp,hq,e1,Bool.false_and]
 | true =>
  by_cases e2:m < 0
  ·simp only [zbi,dF,sA,Nat.reduceAdd,Nat.reduceSub,Nat.reduceMul,Nat.reduceBEq,Nat.reduceLeDiff,Int.reduceBEq,Int.reduceBNe,Int.reduceLE,Int.reduceLT,Int.reduceGE,Int.reduceGT,Int.reduceNeg,kn,hp,hq,e1,e2,decide_true,Bool.true_or,aY]
  ·simp only [zbi,dF,sA,Nat.reduceAdd,Nat.reduceSub,Nat.reduceMul,Nat.reduceBEq,Nat.reduceLeDiff,Int.reduceBEq,Int.reduceBNe,Int.reduceLE,Int.reduceLT,Int.reduceGE,Int.reduceGT,Int.reduceNeg,kn,hp,hq,e1,e2,decide_false,Bool.false_or,bX]
theorem zn5 (s:Tx) (m:Int) (fb:Nat) (σ:Store) (hf:dE σ.objs fb=some [⟨false,dFs FL⟩]) (hn:fb < σ.next):∃ σ',FrA σ σ'∧∀ n,12≤n→W SG9 n Jq [.str s,.int .i64 m,.ptr fb 0] σ=some (.ret ⟨false,.bool (tO FL s m)⟩,σ'):=by
 obtain ⟨σ1,e1⟩:∃ σ1,σ1=GA σ za4 [⟨false,.str s⟩]:=⟨_,rfl⟩
 obtain ⟨σ2,e2⟩:∃ σ2,σ2=GA σ1 wB [⟨false,.int .i64 m⟩]:=⟨_,rfl⟩
 have n1:σ1.next=σ.next + 1:=by rw [e1,fW]
 have h1:dE σ2.objs σ.next=some [⟨false,.str s⟩]:=by rw [e2,jU (by omega),e1,iN]
 have h2:dE σ2.objs (σ.next + 1)=some [⟨false,.int .i64 m⟩]:=by rw [e2,← n1,iN]
 have h3:dE σ2.objs fb=some [⟨false,dFs FL⟩]:=by rw [e2,jU (by omega),e1,jU (by omega),hf]
 refine ⟨σ2,by rw [e2]; refine FrA.trans ?_ FrA.ga; rw [e1]; exact FrA.ga,fun n hn=>?_⟩
 obtain ⟨n,rfl⟩:∃ k,n=k + 10:=⟨n - 10,by omega⟩
 rw [eH (af:=zgh) rfl rfl rfl]
 have hc:=zix (S:=SG9) rfl rfl (n + 7) FL (.fn (.func zhm) [] [.ptr σ.next 0,.ptr (σ.next + 1) 0]) zhm [.ptr σ.next 0,.ptr (σ.next + 1) 0] (Yr s m) rfl (by decide) (by show 5 < _; omega) σ2 (fun i hi=>zxb _ s m _ _ σ2 h1 h2 (n + 6))
 have hfm:FL.any (Yr s m)=tO FL s m:=rfl
 rw [hfm] at hc
 generalize dFs FL=fl at *
 simp only [zgh,sA,Nat.reduceAdd,Nat.reduceSub,Nat.reduceMul,Nat.reduceBEq,Nat.reduceLeDiff,Int.reduceBEq,Int.reduceBNe,Int.reduceLE,Int.reduceLT,Int.reduceGE,Int.reduceGT,Int.reduceNeg,kn,eI,mB,← e1,n1,← e2,h3,hc]
theorem zst {al:Hd × Co} (h:zh6 al.1) {gl:List Tx} {gb cb fb:Nat} (σ:Store) (hT:TB σ gl gb cb fb):∃ σ',FrA σ σ'∧∀ n,13≤n→W SG9 n Zl [dA al,.ptr cb 0] σ=some (.ret ⟨false,.bool false⟩,σ'):=by
 have hda:=pD al
 have hon:=jO al.2
 have hoS:=gW al.1.vars
 have hlS:=mO al.1.vars
 have hcb:=hT.c
 by_cases e:al.1.form=1
 ·have hfm:tO FL al.1.name al.1.vars.length=true:=by
   rcases h.2.2 with q | q | q
   ·exact q.2
   ·omega
   ·omega
  obtain ⟨σ',hF,hw⟩:=zn5 al.1.name al.1.vars.length fb σ hT.f hT.n.2.2
  refine ⟨σ',hF,fun n hn=>?_⟩
  obtain ⟨n,rfl⟩:∃ k,n=k + 1:=⟨n - 1,by omega⟩
  rw [eH (af:=zbj) rfl rfl rfl]
  have hw:=hw n (by omega)
  rw [hfm] at hw
  have e1:(al.1.form == 1)=true:=by rw [e]; rfl
  have hfn:D.fn? (.fn (.func Jq) [] [.ptr fb 0])=some (Jq,[],[.ptr fb 0]):=rfl
  simp only [zbj,sA,Nat.reduceAdd,Nat.reduceSub,Nat.reduceMul,Nat.reduceBEq,Nat.reduceLeDiff,Int.reduceBEq,Int.reduceBNe,Int.reduceLE,Int.reduceLT,Int.reduceGE,Int.reduceGT,Int.reduceNeg,kn,hda,hon,hoS,e1,hcb,hlS,hfn,hw]
 ·refine ⟨σ,FrA.refl,fun n hn=>?_⟩
  obtain ⟨n,rfl⟩:∃ k,n=k + 1:=⟨n - 1,by omega⟩
  rw [eH (af:=zbj) rfl rfl rfl]
  have e1:(al.1.form == 1)=false:=beq_false_of_ne e
  simp only [zbj,sA,Nat.reduceAdd,Nat.reduceSub,Nat.reduceMul,Nat.reduceBEq,Nat.reduceLeDiff,Int.reduceBEq,Int.reduceBNe,Int.reduceLE,Int.reduceLT,Int.reduceGE,Int.reduceGT,Int.reduceNeg,kn,hda,hon,hoS,e1]
theorem zbkb (a b:List Tx) (s:Tx):(a ++ b).any (· == s)=(a.any (· == s) || b.any (· == s)):=List.any_append
theorem zv6 {gl g:List Tx} {c:Co} (h:Good (gl ++ g) c) (hl:c.size < 100000000) (hg:g.length < 100000000) (hgl:gl.length < 100000000) {gb cb fb:Nat} (σb σ:Store) (hT:TB σb gl gb cb fb) (hJ:FrA σb σ) (g':List Tx) (hg':g'=ifB (c.f == 8) (g ++ nms c) g):∃ σ',FrA σb σ'∧∀ n,c.al.length + 30≤n→W SG9 n zhn [dCo c,dSs g',.ptr gb 0,.ptr cb 0] σ=some (.ret ⟨false,.bool true⟩,σ'):=by
 have hse:=iV c
 have lA:=oK c.al
 have hdc:=fJ c
 have hon:=jO c
 have hTs:=hT.fa hJ
 have hcb:=hTs.c
 have hgb:=hTs.g
 have had:dAs' c.al=aD c:=rfl
 have hfn:D.fn? (.fn (.func Jq) [] [.ptr fb 0])=some (Jq,[],[.ptr fb 0]):=rfl
 have alts:∀ σ1,FrA σb σ1→∃ σ',FrA σb σ'∧∀ n,13 + c.al.length + 3≤n→W SG9 n Tf [dAs' c.al,.fn (.func Zl) [] [.ptr cb 0]] σ1=some (.ret ⟨false,.bool false⟩,σ'):=fun σ1 h1=>zb9 (S:=SG9) rfl rfl c.al (.fn (.func Zl) [] [.ptr cb 0]) Zl [.ptr cb 0] rfl (by omega) (FrA σb) 13 (fun a ha τ hτ=>by
  obtain ⟨τ',hf,hw⟩:=zst (Jc h a ha) τ (hT.fa hτ)
  exact ⟨τ',hτ.trans hf,hw⟩) σ1 h1
 rcases zui h with ⟨e,hv⟩ | ⟨e,hv⟩ | ⟨e1,e2⟩
 ·obtain ⟨σ',hF,hw⟩:=alts σ hJ
  refine ⟨σ',hF,fun n hn=>?_⟩
  obtain ⟨n,rfl⟩:∃ k,n=k + 2:=⟨n - 2,by omega⟩
  rw [eH (af:=Ib) rfl rfl rfl]
  have e1:(c.f == 1)=true:=by rw [e]; rfl
  have e2:(c.f == 2)=false:=by rw [e]; rfl
  have e8:(c.f == 8)=false:=by rw [e]; rfl
  rw [e8,dH] at hg'
  subst hg'
  have hw:=hw (n + 1) (by omega)
  rw [had] at hw
  rw [zbkb] at hv
  have k1:=vJ (S:=SG9) rfl g' c.s (by omega) n σ
  have k2:=vJ (S:=SG9) rfl gl c.s (by omega) n σ
  cases hb:g'.any (· == c.s) with
  | true =>
   rw [hb] at k1
   simp only [Ib,sA,Nat.reduceAdd,Nat.reduceSub,Nat.reduceMul,Nat.reduceBEq,Nat.reduceLeDiff,Int.reduceBEq,Int.reduceBNe,Int.reduceLE,Int.reduceLT,Int.reduceGE,Int.reduceGT,Int.reduceNeg,kn,hdc,hon,e1,e2,k1,hgb,hw]
  | false =>
   rw [hb,bY] at hv
   rw [hb] at k1
   rw [hv] at k2
   simp only [Ib,sA,Nat.reduceAdd,Nat.reduceSub,Nat.reduceMul,Nat.reduceBEq,Nat.reduceLeDiff,Int.reduceBEq,Int.reduceBNe,Int.reduceLE,Int.reduceLT,Int.reduceGE,Int.reduceGT,Int.reduceNeg,kn,hdc,hon,e1,e2,k1,k2,hgb,hw]
 ·obtain ⟨σ1,hF1,hw1⟩:=zn5 c.s (-1) fb σ hTs.f hTs.n.2.2
  obtain ⟨σ',hF,hw⟩:=alts σ1 (hJ.trans hF1)
  refine ⟨σ',hF,fun n hn=>?_⟩
  obtain ⟨n,rfl⟩:∃ k,n=k + 1:=⟨n - 1,by omega⟩
  rw [eH (af:=Ib) rfl rfl rfl]
  have e1:(c.f == 1)=false:=by rw [e]; rfl
  have e2:(c.f == 2)=true:=by rw [e]; rfl
  have hw:=hw n (by omega)
  have hw1:=hw1 n (by omega)
  rw [had] at hw
  rw [hv] at hw1
  simp only [Ib,sA,Nat.reduceAdd,Nat.reduceSub,Nat.reduceMul,Nat.reduceBEq,Nat.reduceLeDiff,Int.reduceBEq,Int.reduceBNe,Int.reduceLE,Int.reduceLT,Int.reduceGE,Int.reduceGT,Int.reduceNeg,kn,hdc,hon,e1,e2,hcb,hfn,hw1,hw]
 ·obtain ⟨σ',hF,hw⟩:=alts σ hJ
  refine ⟨σ',hF,fun n hn=>?_⟩
  obtain ⟨n,rfl⟩:∃ k,n=k + 1:=⟨n - 1,by omega⟩
  rw [eH (af:=Ib) rfl rfl rfl]
  have hw:=hw n (by omega)
  rw [had] at hw
  simp only [Ib,sA,Nat.reduceAdd,Nat.reduceSub,Nat.reduceMul,Nat.reduceBEq,Nat.reduceLeDiff,Int.reduceBEq,Int.reduceBNe,Int.reduceLE,Int.reduceLT,Int.reduceGE,Int.reduceGT,Int.reduceNeg,kn,hdc,hon,e1,e2,hw]
end Go.Fu
namespace Go.Fu
open Go Go.Mx
set_option maxRecDepth 10000
set_option maxHeartbeats 4000000
theorem Vu {gl g:List Tx} {c:Co} (h:Good (gl ++ g) c):(∀ b∈c.bs,Good (gl ++ ifB (c.f == 8) (g ++ nms c) g) b.2)∧(∀ x∈c.ks,Good (gl ++ ifB (c.f == 8) (g ++ nms c) g) x)∧(∀ a∈c.al,Good (gl ++ ((ifB (c.f == 8) (g ++ nms c) g) ++ a.1.vars)) a.2):=by
 generalize hns:gl ++ g=ns at h
 cases h with
 | int _=>exact ⟨fun _ h=>(by cases h),fun _ h=>(by cases h),fun _ h=>(by cases h)⟩
 | con _=>exact ⟨fun _ h=>(by cases h),fun _ h=>(by cases h),fun _ h=>(by cases h)⟩
 | var _=>exact ⟨fun _ h=>(by cases h),fun _ h=>(by cases h),fun _ h=>(by cases h)⟩
 | fail=>exact ⟨fun _ h=>(by cases h),fun _ h=>(by cases h),fun _ h=>(by cases h)⟩
 | @app _ a b ha hb =>
  subst hns
  refine ⟨fun _ h=>(by cases h),fun x hx=>?_,fun _ h=>(by cases h)⟩
  simp only [Co.ks,aS,aK,or_false] at hx
  rcases hx with rfl | rfl
  ·exact ha
  ·exact hb
 | @prim _ s a b hp ha hb =>
  subst hns
  refine ⟨fun _ h=>(by cases h),fun x hx=>?_,fun _ h=>(by cases h)⟩
  simp only [Co.ks,aS,aK,or_false] at hx
  rcases hx with rfl | rfl
  ·exact ha
  ·exact hb
 | @lt _ b bs h1 h2 h3 =>
  subst hns
  have e:gl ++ ifB ((Co.mk 8 0 [] [b] bs []).f == 8) (g ++ nms (Co.mk 8 0 [] [b] bs [])) g=gl ++ g ++ bs.map Prod.fst:=by
   rw [bR]
   rfl
  refine ⟨fun x hx=>?_,fun x hx=>?_,fun _ h=>(by cases h)⟩
  ·rw [e]; exact h2 x hx
  ·simp only [Co.ks,aS,aK,or_false] at hx
   subst hx
   rw [e]
   exact h3
 | @cas _ x al h1 h2 h3 =>
  subst hns
  refine ⟨fun _ h=>(by cases h),fun y hy=>?_,fun a ha=>?_⟩
  ·simp only [Co.ks,aS,aK,or_false] at hy
   subst hy
   exact h1
  ·have:=h3 a ha
   rw [bR] at this
   exact this
theorem zwv {u:Su} {ab:Nat} {askD:D} (na:Nat) (σ σ':Store) (hb:dE σ.objs ab=some [⟨false,askD⟩]) (h:∀ n,na≤n→W SG9 n uK [dCo u.body,dSs u.ps,askD] σ=some (.ret ⟨false,.bool true⟩,σ')):∀ n,na + 1≤n→W SG9 n zhi [dU u,.ptr ab 0] σ=some (.ret ⟨false,.bool false⟩,σ'):=fun n hn=>by
 obtain ⟨n,rfl⟩:∃ k,n=k + 1:=⟨n - 1,by omega⟩
 rw [eH (af:=zgd) rfl rfl rfl]
 have h:=h n (by omega)
 have hon:=jO u.body
 have hoS:=gW u.ps
 rw [fJ] at h
 simp only [zgd,Gm,sA,Nat.reduceAdd,Nat.reduceSub,Nat.reduceMul,Nat.reduceBEq,Nat.reduceLeDiff,Int.reduceBEq,Int.reduceBNe,Int.reduceLE,Int.reduceLT,Int.reduceGE,Int.reduceGT,Int.reduceNeg,kn,hon,hoS,hb,h]
theorem zb4 {us:List Su} (hus:us.length < 100000000) (σb:Store) (askD:D) (hok:askD.ok=true) (hce:askD.cells=[askD]) (na:Nat) (heach:∀ u∈us,∀ σ,FrA σb σ→∃ σ',FrA σ σ'∧∀ n,na≤n→W SG9 n uK [dCo u.body,dSs u.ps,askD] σ=some (.ret ⟨false,.bool true⟩,σ'))
  {lb:Nat} (hlb:dE σb.objs lb=some [⟨false,dUs us⟩]) (hln:lb < σb.next) (σ:Store) (hJ:FrA σb σ):∃ σ',FrA σb σ'∧∀ n,na + us.length + 10≤n→W SG9 n zhh [askD,.ptr lb 0] σ=some (.ret ⟨false,.bool true⟩,σ'):=by
 obtain ⟨σ1,e1⟩:∃ σ1,σ1=GA σ zbcb [⟨false,askD⟩]:=⟨_,rfl⟩
 have f1:FrA σ σ1:=by rw [e1]; exact FrA.ga
 have j1:FrA σb σ1:=hJ.trans f1
 have a1:dE σ1.objs σ.next=some [⟨false,askD⟩]:=by rw [e1,iN]
 have n1:σ1.next=σ.next + 1:=by rw [e1,fW]
 have l1:dE σ1.objs lb=some [⟨false,dUs us⟩]:=by rw [j1.ob _ hln,hlb]
 obtain ⟨σ',hj',hw⟩:=zdr (S:=SG9) rfl rfl us (.fn (.func zhi) [] [.ptr σ.next 0]) zhi [.ptr σ.next 0] rfl (by omega) (FrA σ1) (na + 1) (fun u hu τ hτ=>by
  obtain ⟨τ',hf,hw⟩:=heach u hu τ (j1.trans hτ)
  exact ⟨τ',hτ.trans hf,zwv na τ τ' (by rw [hτ.ob _ (by omega),a1]) hw⟩) σ1 FrA.refl
 refine ⟨σ',j1.trans hj',fun n hn=>?_⟩
 obtain ⟨n,rfl⟩:∃ k,n=k + 1:=⟨n - 1,by omega⟩
 rw [eH (af:=zgc) rfl rfl rfl]
 have hw:=hw n (by omega)
 simp only [zgc,sA,Nat.reduceAdd,Nat.reduceSub,Nat.reduceMul,Nat.reduceBEq,Nat.reduceLeDiff,Int.reduceBEq,Int.reduceBNe,Int.reduceLE,Int.reduceLT,Int.reduceGE,Int.reduceGT,Int.reduceNeg,kn,eI,mB,hok,hce,← e1,l1,hw]
theorem Ot {gl:List Tx} {u:Su} (hG:Good (gl ++ u.ps) u.body) (hsz:u.ps.length + u.body.size≤50000000) (askD:D) (fid:FuncId) (caps:List D) (hask:D.fn? askD=some (fid,[],caps)) (σ:Store)
  (hrun:∀ τ,FrA σ τ→∀ c g,Good (gl ++ g) c→(ifB (c.f == 8) (g ++ nms c) g).length≤50000000→c.size≤50000000→g.length≤50000000→∃ τ',FrA σ τ'∧∀ n,60000000≤n→W SG9 n fid ([dCo c,dSs (ifB (c.f == 8) (g ++ nms c) g)] ++ caps) τ=some (.ret ⟨false,.bool true⟩,τ')) :
  ∃ σ',FrA σ σ'∧∀ n,120000000≤n→W SG9 n uK [dCo u.body,dSs u.ps,askD] σ=some (.ret ⟨false,.bool true⟩,σ'):=by
 obtain ⟨σ',h1,h2⟩:=zb3b (P:=SG9) rfl rfl rfl (FrA σ) askD fid caps hask 60000000 50000000 (by omega) (fun c g=>Good (gl ++ g) c) (fun c g h=>(Vu h).1) (fun c g h=>(Vu h).2.1) (fun c g h=>(Vu h).2.2)
  (fun τ hτ c g h e1 e2=>hrun τ hτ c g h e1 e2 (by cases hb:c.f == 8 <;> rw [hb] at e1 <;> simp only [dJ,dH,aF] at e1 <;> omega)) u.body u.ps σ FrA.refl hG hsz
 exact ⟨σ',h1,fun n hn=>h2 n (by omega)⟩
theorem zrw {u:Su} (h:lC u.ps=false) (hl:u.ps.length < 100000000) (n:Nat) (σ:Store):W SG9 (n + 2) zhl [dU u] σ=some (.ret ⟨false,.bool false⟩,σ):=by
 have hon:=jO u.body
 have hoS:=gW u.ps
 have ht:=zpp (S:=SG9) rfl u.ps (by omega) n σ
 rw [h] at ht
 rw [eH (af:=zgg) rfl rfl rfl]
 simp only [zgg,Gm,sA,Nat.reduceAdd,Nat.reduceSub,Nat.reduceMul,Nat.reduceBEq,Nat.reduceLeDiff,Int.reduceBEq,Int.reduceBNe,Int.reduceLE,Int.reduceLT,Int.reduceGE,Int.reduceGT,Int.reduceNeg,kn,hon,hoS,ht]
theorem zl2 (us:List Su) (hg:GoodP us):OkP zhg [dFs FL,dUs us] ⟨false,.int .i64 0⟩:=by
 have hfew:=hg.few
 have hF:FL.length=5:=rfl
 obtain ⟨gl,hgl⟩:∃ gl,gl=us.map Su.name:=⟨_,rfl⟩
 have hgll:gl.length=us.length:=by rw [hgl,aJ]
 obtain ⟨σ1,e1⟩:∃ σ1,σ1=GA σ0 zsp [⟨false,dFs FL⟩]:=⟨_,rfl⟩
 obtain ⟨σ2,e2⟩:∃ σ2,σ2=GA σ1 zbab [⟨false,dUs us⟩]:=⟨_,rfl⟩
 obtain ⟨σ3,e3⟩:∃ σ3,σ3=GA σ2 t_8 [⟨false,.nils⟩]:=⟨_,rfl⟩
 obtain ⟨σ4,e4⟩:∃ σ4,σ4=SO σ3 2 [⟨false,dSs gl⟩]:=⟨_,rfl⟩
 obtain ⟨σ5,e5⟩:∃ σ5,σ5=GA σ4 zbdb [⟨false,.nilfn⟩]:=⟨_,rfl⟩
 obtain ⟨σ6,e6⟩:∃ σ6,σ6=SO σ5 3 [⟨false,.fn (.func Jq) [] [.ptr 0 0]⟩]:=⟨_,rfl⟩
 have n0:σ0.next=0:=rfl
 have n1:σ1.next=1:=by rw [e1,fW]; rfl
 have n2:σ2.next=2:=by rw [e2,fW,n1]
 have n3:σ3.next=3:=by rw [e3,fW,n2]
 have n4:σ4.next=3:=by rw [e4,gQ,n3]
 have n5:σ5.next=4:=by rw [e5,fW,n4]
 have n6:σ6.next=4:=by rw [e6,gQ,n5]
 have b0:dE σ1.objs 0=some [⟨false,dFs FL⟩]:=by rw [e1]; rfl
 have b1:dE σ2.objs 1=some [⟨false,dUs us⟩]:=by rw [e2,← n1,iN]
 have b2:dE σ3.objs 2=some [⟨false,.nils⟩]:=by rw [e3,← n2,iN]
 have b14:dE σ4.objs 1=some [⟨false,dUs us⟩]:=by rw [e4,iY (by decide),e3,jU (by omega),b1]
 have b3:dE σ5.objs 3=some [⟨false,.nilfn⟩]:=by rw [e5,← n4,iN]
 have c0:dE σ6.objs 0=some [⟨false,dFs FL⟩]:=by rw [e6,iY (by decide),e5,jU (by omega),e4,iY (by decide),e3,jU (by omega),e2,jU (by omega),b0]
 have c1:dE σ6.objs 1=some [⟨false,dUs us⟩]:=by rw [e6,iY (by decide),e5,jU (by omega),b14]
 have c2:dE σ6.objs 2=some [⟨false,dSs gl⟩]:=by rw [e6,iY (by decide),e5,jU (by omega),e4,jS]
 have c3:dE σ6.objs 3=some [⟨false,.fn (.func Jq) [] [.ptr 0 0]⟩]:=by rw [e6,jS]
 have hT:TB σ6 gl 2 3 0:=⟨c2,c3,c0,by omega⟩
 have hbody:∀ u∈us,Good (gl ++ u.ps) u.body∧u.ps.length + u.body.size≤50000000:=fun u hu=>by
  have h1:=hg.body u hu
  have h2:=hg.ps u hu
  rw [hgl]
  exact ⟨h1.1,by omega⟩
 obtain ⟨σ7,j7,w7⟩:=zb4 (us:=us) (by omega) σ6 (.fn (.func Zk) [] []) rfl rfl 120000000 (fun u hu σ hσ=>by
  obtain ⟨h1,h2⟩:=hbody u hu
  exact Ot h1 h2 _ Zk [] rfl σ fun τ hτ c g hG e1 e2 e3=>by
   obtain ⟨τ',h3,h4⟩:=zsa (g:=ifB (c.f == 8) (g ++ nms c) g) hG (by omega) σ τ hτ
   have:=iV c
   have:=oK c.al
   exact ⟨τ',h3,fun n hn=>h4 n (by omega)⟩) c1 (by omega) σ6 FrA.refl
 obtain ⟨σ8,j8,w8⟩:=zb4 (us:=us) (by omega) σ6 (.fn (.func zhj) [] []) rfl rfl 120000000 (fun u hu σ hσ=>by
  obtain ⟨h1,h2⟩:=hbody u hu
  exact Ot h1 h2 _ zhj [] rfl σ fun τ hτ c g hG e1 e2 e3=>by
   have:=iV c
   have:=oK c.al
   exact ⟨τ,hτ,fun n hn=>zya hG (by omega) τ n (by omega)⟩) c1 (by omega) σ7 j7
 obtain ⟨σ9,j9,w9⟩:=zb4 (us:=us) (by omega) σ6 (.fn (.func zhn) [] [.ptr 2 0,.ptr 3 0]) rfl rfl 120000000 (fun u hu σ hσ=>by
  obtain ⟨h1,h2⟩:=hbody u hu
  exact Ot h1 h2 _ zhn [.ptr 2 0,.ptr 3 0] rfl σ fun τ hτ c g hG e1 e2 e3=>by
   obtain ⟨τ',h3,h4⟩:=zv6 hG (by omega) (by omega) (by omega) σ τ (hT.fa hσ) hτ _ rfl
   have:=iV c
   have:=oK c.al
   exact ⟨τ',h3,fun n hn=>h4 n (by omega)⟩) c1 (by omega) σ8 j8
 obtain ⟨σp,rfl,wp⟩:=zdr (S:=SG9) rfl rfl us (.fn (.func zhl) [] []) zhl [] rfl (by omega) (fun τ=>τ=σ4) 2 (fun u hu τ hτ=>⟨τ,hτ,fun n hn=>by
  obtain ⟨n,rfl⟩:∃ k,n=k + 2:=⟨n - 2,by omega⟩
  have:=hg.ps u hu
  exact zrw this.1 (by omega) n τ⟩) σ4 rfl
 obtain ⟨N,hN⟩:∃ N,N=200000000:=⟨_,rfl⟩
 have w7:=w7 (N + 1) (by omega)
 have w8:=w8 (N + 1) (by omega)
 have w9:=w9 (N + 1) (by omega)
 have wp:=wp (N + 1) (by omega)
 have wn:=ztd (S:=SG9) rfl us (by omega) N σ2
 have wf:=ztc (S:=SG9) rfl FL (by omega) N σ7
 have wc:=Ya (S:=SG9) rfl (FL.map Fd.name) gl (by simp; omega) N σ7
 have wt:=zpp (S:=SG9) rfl (FL.map Fd.name ++ gl) (by simp; omega) N σ7
 have ho:=hg.once
 rw [← hgl] at ho wn
 rw [ho] at wt
 have d0:dE σ7.objs 0=some [⟨false,dFs FL⟩]:=by rw [j7.ob _ (by omega),c0]
 have d2:dE σ7.objs 2=some [⟨false,dSs gl⟩]:=by rw [j7.ob _ (by omega),c2]
 have oF:(dFs FL).ok=true:=rfl
 have cF':(dFs FL).cells=[dFs FL]:=rfl
 have oU:(dUs us).ok=true:=gZ
 have cU':(dUs us).cells=[dUs us]:=fG
 have oG:(dSs gl).ok=true:=gZ
 have cG:(dSs gl).cells=[dSs gl]:=fG
 have oN:(dSs (FL.map Fd.name)).ok=true:=gZ
 have cN:(dSs (FL.map Fd.name)).cells=[dSs (FL.map Fd.name)]:=fG
 have onG:=gW gl
 have f1:D.fn? (.fn (.func zhh) [] [.ptr 1 0])=some (zhh,[],[.ptr 1 0]):=rfl
 simp only [uZ] at wn
 simp only [uY] at wf
 simp only [dd] at wc
 have hnp:eB [dFs FL,dUs us]=true:=by simp [eB,Qb,qN]
 generalize dFs FL=fl at *
 generalize FL.map Fd.name=fnm at *
 refine sF (af:=zgb) (n:=1) (σ':=σ9) (pY SG9 (N + 1)) rfl rfl hnp rfl ?_
 simp only [zgb,sA,Nat.reduceAdd,Nat.reduceSub,Nat.reduceMul,Nat.reduceBEq,Nat.reduceLeDiff,Int.reduceBEq,Int.reduceBNe,Int.reduceLE,Int.reduceLT,Int.reduceGE,Int.reduceGT,Int.reduceNeg,kn,eI,mB,oF,cF',oU,cU',n0,← e1,n1,← e2,b1,wn,n2,← e3,b2,oG,cG,onG,pN,← e4,b14,wp,n4,← e5,b3,← e6,f1,w7,d0,d2,jW,wf,oN,cN,wc,wt,w8,w9]
end Go.Fu
namespace Go.Fu
open Go Go.Mx
set_option maxRecDepth 10000
set_option maxHeartbeats 4000000
def spGw (us:List Su):List D→Cell→Prop:=fun ds c=>ds=[dFs FL,dUs us]→c=⟨false,.int .i64 0⟩
def spGf:List D→Cell→Prop:=fun ds c=>∀ u,ds=[dU u]→c=⟨false,dUs (jJ u)⟩
def spGc:List D→Cell→Prop:=fun ds c=>∀ u,ds=[dU u]→c=⟨false,dD (iQ u)⟩
def SGC (us:List Su):eD:=[(zhg,spGw us),(wT,spGf),(Pv,spGc)]
def pC (us:List Su):List Cd:=FL.map iF ++ us.flatMap fun u=>(jJ u).map iQ
def Et (us:List Su) (acc:List Cd) (o:Bool) (i:Nat):Env:={slots:=[(1,⟨false,dUs us⟩),(7,⟨o,dDs acc⟩),(23,⟨false,dFs FL⟩),(24,⟨false,.int .i64 5⟩),(25,⟨false,.int .i64 i⟩)],locs:=[],boxes:=[],defers:=[]}
def Eo:D:=.list k_0 [.str [85,80,68,65,84,69],.str [80,79,80],.str [85,78,87,73,78,68]]
def bxF (f:Fd):List Cell:=[⟨false,.str f.name⟩,⟨false,.int .i64 f.tag⟩,⟨false,.int .i64 f.many⟩,⟨false,.int .i64 f.arity⟩,⟨false,.int .i64 0⟩,⟨false,.int .i64 0⟩,⟨false,.str []⟩,⟨false,.nils⟩]
def Nj (us:List Su) (acc:List Cd) (o:Bool) (i:Nat) (f:Fd) (p j:Nat):Env:={slots:=[(1,⟨false,dUs us⟩),(7,⟨o,dDs acc⟩),(10,⟨false,.ptr p 0⟩),(23,⟨false,dFs FL⟩),(24,⟨false,.int .i64 5⟩),(25,⟨false,.int .i64 i⟩),(39,⟨true,Eo⟩),(40,⟨false,.int .i64 3⟩),(41,⟨false,.int .i64 j⟩)],locs:=[(9,(9,0))],boxes:=[(9,bxF f)],defers:=[]}
section
variable {C:dQ} {n:Nat}
theorem zch (us:List Su) (acc:List Cd) (o:Bool) (i:Nat) (f:Fd) (p j:Nat) (hj:j < 3) (s:Tx) (hx:iD 1 Eo j=some (.eptr (.str s))) (σ σ':Store) (h:C n_6 [.ptr p 0,.str s,.int .i64 0] σ=some (.ret ⟨false,.tup []⟩,σ')):exec C n none lQ (Nj us acc o i f p j) σ=some (.normal,Nj us acc o i f p (j + 1),σ'):=by
 have hlt:((j:Int) < 3):=by omega
 have w:=dV (i:=j) (by omega)
 simp only [lQ,Nj,sA,Nat.reduceAdd,Nat.reduceSub,Nat.reduceMul,Nat.reduceBEq,Nat.reduceLeDiff,Int.reduceBEq,Int.reduceBNe,Int.reduceLE,Int.reduceLT,Int.reduceGE,Int.reduceGT,Int.reduceNeg,kn,hlt,fL,hx,h,w]
theorem ze1b (us:List Su) (acc:List Cd) (o:Bool) (i:Nat) (f:Fd) (p:Nat) (σ:Store):exec C n none lQ (Nj us acc o i f p 3) σ=some (.exit 2,{Nj us acc o i f p 3 with slots:=[(1,⟨false,dUs us⟩),(7,⟨o,dDs acc⟩),(10,⟨false,.ptr p 0⟩),(23,⟨false,dFs FL⟩),(24,⟨false,.int .i64 5⟩),(25,⟨false,.int .i64 i⟩),(39,⟨true,Eo⟩),(40,⟨false,.int .i64 3⟩),(41,⟨false,.int .i64 (3:Nat)⟩),(42,⟨false,.bool false⟩)]},σ):=by
 have hlt:¬ (((3:Nat):Int) < 3):=by omega
 simp only [lQ,Nj,sA,Nat.reduceAdd,Nat.reduceSub,Nat.reduceMul,Nat.reduceBEq,Nat.reduceLeDiff,Int.reduceBEq,Int.reduceBNe,Int.reduceLE,Int.reduceLT,Int.reduceGE,Int.reduceGT,Int.reduceNeg,kn,hlt]
end
theorem CA.frz {σ:Store} {p a:Nat} {L:List In} (h:CA σ p a .nilmap L):∃ os,oS [⟨false,nT a L⟩,⟨false,.nilmap⟩] (eE σ.objs p)=some ([⟨false,dIs L⟩,⟨false,.nilmap⟩],os):=by
 have hk:=Yu a L
 have hk2:Cell.keeps ⟨false,.nilmap⟩=false:=rfl
 have hn:∀ os,eX 40 .nilmap os=some (.nilmap,os):=fun _=>rfl
 have hpa:=h.pa
 by_cases hL:L=[]
 ·subst hL
  exact ⟨_,rfl⟩
 ·have hr:=tP (k:=k_1) (id:=a) (n:=39) (ds:=L.map dI) (os:=eE σ.objs p) (os':=eE (eE σ.objs p) a) (by rw [agD _ _ (fun e=>hpa e.symm),(h.arr hL).1,xI]) rfl rfl (Yt L) (fun d hd=>by
   obtain ⟨x,_,rfl⟩:=bF.1 hd
   rfl)
  rw [aJ] at hr
  have hd:dIs L=.list k_1 (L.map dI):=by
   cases L with
   | nil=>exact absurd rfl hL
   | cons a b=>rfl
  rw [← hd] at hr
  rw [Gj _ _ hL] at hk ⊢
  exact ⟨eE (eE σ.objs p) a,by simp only [oS,hr,hk,hk2,hn,dG,dK]⟩
theorem zb8b (us:List Su) (acc:List Cd) (o:Bool) (ho:acc≠[]→o=true) (i:Nat) (hi:i < FL.length) (hacc:acc.length < 1000) (σ:Store) (N n:Nat) (hn:3 < n):∃ σ',exec (W (SGC us) (N + 1)) n none lR (Et us acc o i) σ=some (.normal,Et us (acc ++ [iF FL[i]]) true (i + 1),σ'):=by
 have hF:FL.length=5:=rfl
 have hlt:((i:Int) < 5):=by omega
 have w:=dV (i:=i) (by omega)
 have hx:=Rx FL i hi
 generalize FL[i]=f at hx ⊢
 obtain ⟨L0,hL0⟩:∃ L0:List In,L0=[⟨zr6,f.arity,f.tag,f.name⟩]:=⟨_,rfl⟩
 obtain ⟨σ1,e1⟩:∃ σ1,σ1=dR σ k_1 (cI L0):=⟨_,rfl⟩
 have n1:σ1.next=σ.next + 2:=by rw [e1]; rfl
 obtain ⟨σ2,e2⟩:∃ σ2,σ2=GA σ1 To [⟨false,.arr k_1 σ.next 0 1⟩,⟨false,.nilmap⟩]:=⟨_,rfl⟩
 have n2:σ2.next=σ.next + 3:=by rw [e2,fW,n1]
 have c2:CA σ2 (σ.next + 2) σ.next .nilmap L0:=by
  refine ⟨?_,fun _=>⟨?_,?_⟩,by omega,by omega,by omega⟩
  ·rw [e2,← n1,iN,hL0]
   rfl
  ·rw [e2,jU (by omega),e1]
   exact agS _ _ _
  ·rw [e2,zfm (by omega),e1]
   exact agS _ _ _
 obtain ⟨σ3,w3,c3,_,_⟩:=Am (S:=SGC us) rfl c2 (by rw [hL0]; simp) [85,80,68,65,84,69] 0
 obtain ⟨σ4,w4,c4,_,_⟩:=Am (S:=SGC us) rfl c3 (by rw [hL0]; simp) [80,79,80] 0
 obtain ⟨σ5,w5,c5,_,_⟩:=Am (S:=SGC us) rfl c4 (by rw [hL0]; simp) [85,78,87,73,78,68] 0
 have hbody:L0 ++ [op1 [85,80,68,65,84,69] 0] ++ [op1 [80,79,80] 0] ++ [op1 [85,78,87,73,78,68] 0]=(iF f).body:=by rw [hL0]; rfl
 rw [hbody] at c5
 have x0:iD 1 Eo 0=some (.eptr (.str [85,80,68,65,84,69])):=rfl
 have x1:iD 1 Eo 1=some (.eptr (.str [80,79,80])):=rfl
 have x2:iD 1 Eo 2=some (.eptr (.str [85,78,87,73,78,68])):=rfl
 obtain ⟨m,rfl⟩:∃ m,n=m + 4:=⟨n - 4,by omega⟩
 have l0:gU (exec (W (SGC us) (N + 1)) (m + 4) none lQ) (m + 4) (Nj us acc o i f (σ.next + 2) 0) σ2=_:=(iJ (zch us acc o i f (σ.next + 2) 0 (by omega) _ x0 σ2 σ3 (w3 N))).trans ((iJ (zch us acc o i f (σ.next + 2) 1 (by omega) _ x1 σ3 σ4 (w4 N))).trans ((iJ (zch us acc o i f (σ.next + 2) 2 (by omega) _ x2 σ4 σ5 (w5 N))).trans (kT (ze1b us acc o i f (σ.next + 2) σ5))))
 have ho5:=c5.obj
 obtain ⟨os,hfz⟩:=c5.frz
 have hap:=zasb acc (iF f) o ho (by omega)
 have hdd:dD (iF f)=.agg [.str f.name,.int .i64 f.arity,dIs (iF f).body]:=rfl
 have hoI:(dIs (iF f).body).one=true:=fM
 have okI:(dIs (iF f).body).ok=true:=gZ
 have ceI:(dIs (iF f).body).cells=[dIs (iF f).body]:=fG
 rw [hdd] at hap
 generalize (iF f).body=B at *
 have hb0:[D.agg [.str zr6,.int .i64 f.arity,.int .i64 f.tag,.str f.name]]=L0.map dI:=by rw [hL0]; rfl
 have hcl:cellsOf [D.agg [.str [80,65,67,75],.int .i64 f.arity,.int .i64 f.tag,.str f.name]]=cI L0:=by rw [hL0]; rfl
 have hos:dE (dZ os (σ.next + 2) [⟨false,dIs B⟩,⟨false,.nilmap⟩]) (σ.next + 2)=some [⟨false,dIs B⟩,⟨false,.nilmap⟩]:=agA _ _ _
 have hln:lenOf Eo=some 3:=rfl
 have hthree:D.list k_0 [.str [85,80,68,65,84,69],.str [80,79,80],.str [85,78,87,73,78,68]]=Eo:=rfl
 refine ⟨{σ5 with objs:=dZ os (σ.next + 2) [⟨false,dIs B⟩,⟨false,.nilmap⟩]},?_⟩
 simp only [dF] at hx
 have q3:((3:Nat):Int)=3:=rfl
 simp only [Nj,bxF,eR,q3] at l0
 have one3:(([.str [85,80,68,65,84,69],.str [80,79,80],.str [85,78,87,73,78,68]]:List D).length:Int)=3:=rfl
 simp only [lR,Et,sA,Nat.reduceAdd,Nat.reduceSub,Nat.reduceMul,Nat.reduceBEq,Nat.reduceLeDiff,Int.reduceBEq,Int.reduceBNe,Int.reduceLE,Int.reduceLT,Int.reduceGE,Int.reduceGT,Int.reduceNeg,kn,eI,mB,hlt,fL,hx,hcl,← e1,n1,← e2,hthree,hln,q3,l0,wO,nG,oH,ho5,hfz,hos,hap,hoI,okI,ceI,w]
 done
end Go.Fu
