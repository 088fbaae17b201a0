/-
 What the program asks of combinators that are right: no name twice,every name there.
-/
import Derived.Test.YtldfbnbckiifeaaGreatDoorFgEd
import Derived.Test.YtldfbnbckiifeaaGreatDoorFgCq
import Derived.Test.YtldfbnbckiifeaaGreatDoorFgBh
set_option maxHeartbeats 4000000
set_option linter.unusedSimpArgs false
set_option linter.unusedVariables false
set_option linter.unusedSectionVars false
namespace Go.Fu
open Go Go.Mx
set_option maxRecDepth 10000
set_option maxHeartbeats 4000000
theorem zh2b {al:Hd × Co} (h:zc5 al.1.vars=false) (hl:al.1.vars.length < 100000000) (n:Nat) (σ:Store):W SG9 (n + 2) n_188 [dA al] σ=some (.ret ⟨false,.bool false⟩,σ):=by
 have hda:=zep al
 have hon:=oneD al.2
 have hoS:=zba al.1.vars
 have ht:=W_tw (S:=SG9) rfl al.1.vars (by omega) n σ
 rw [h] at ht
 rw [W_fun (af:=a_157) rfl rfl rfl]
 simp only [a_157,sA,Nat.reduceAdd,Nat.reduceSub,Nat.reduceMul,Nat.reduceBEq,Nat.reduceLeDiff,Int.reduceBEq,Int.reduceBNe,Int.reduceLE,Int.reduceLT,Int.reduceGE,Int.reduceGT,Int.reduceNeg,kn,hda,hon,hoS,ht]
theorem zkqb {ns g:List Tx} {c:Co} (h:Good ns c) (hl:c.size < 100000000) (σ:Store):∀ n,c.al.length + 8≤n→W SG9 n n_187 [dCo c,dSs g] σ=some (.ret ⟨false,.bool true⟩,σ):=by
 have hse:=zci c
 have lA:=zfc c.al
 have lB:=zek c.bs
 have hdc:=zaw c
 have hon:=oneD c
 have hbt:zc5 (nms c)=false:=zd8b h
 obtain ⟨σ',hj',hw⟩:=zts (S:=SG9) rfl rfl c.al (.fn (.func n_188) [] []) n_188 [] rfl (by omega) (fun τ=>τ=σ) 2 (fun a ha τ hτ=>⟨τ,hτ,fun n hn=>by
  obtain ⟨n,rfl⟩:∃ k,n=k + 2:=⟨n - 2,by omega⟩
  have:=zdz c.al a ha
  exact zh2b (znb h a ha).2.1 (by omega) n τ⟩) σ rfl
 subst hj'
 intro n hn
 obtain ⟨n,rfl⟩:∃ k,n=k + 2:=⟨n - 2,by omega⟩
 rw [W_fun (af:=a_156) rfl rfl rfl]
 have hw:=hw (n + 1) (by omega)
 have hnm:=W_nmB (S:=SG9) rfl c.bs (by omega) n σ'
 have hnc:c.bs.map Prod.fst=nms c:=rfl
 rw [hnc] at hnm
 have ht:=W_tw (S:=SG9) rfl (nms c) (by simp [nms]; omega) n σ'
 rw [hbt] at ht
 have had:dAs' c.al=aD c:=rfl
 rw [had] at hw
 have hbd:dBl' c.bs=bD c:=rfl
 rw [hbd] at hnm
 simp only [bnF] at hnm
 simp only [a_156,sA,Nat.reduceAdd,Nat.reduceSub,Nat.reduceMul,Nat.reduceBEq,Nat.reduceLeDiff,Int.reduceBEq,Int.reduceBNe,Int.reduceLE,Int.reduceLT,Int.reduceGE,Int.reduceGT,Int.reduceNeg,kn,hdc,hon,hnm,ht,hw]
structure TB (σ:Store) (gl:List Tx) (gb cb fb:Nat):Prop where
 g:aget σ.objs gb=some [⟨false,dSs gl⟩]
 c:aget σ.objs cb=some [⟨false,.fn (.func n_46) [] [.ptr fb 0]⟩]
 f:aget σ.objs fb=some [⟨false,dFs FL⟩]
 n:gb < σ.next∧cb < σ.next∧fb < σ.next
theorem TB.fa {σ σ':Store} {gl:List Tx} {gb cb fb:Nat} (h:TB σ gl gb cb fb) (f:FrA σ σ'):TB σ' gl gb cb fb:=by
 have:=f.nx
 have:=h.n
 exact ⟨by rw [f.ob _ (by omega),h.g],by rw [f.ob _ (by omega),h.c],by rw [f.ob _ (by omega),h.f],by omega⟩
theorem zjtb (f:Fd) (s:Tx) (m:Int) (p q:Nat) (σ:Store) (hp:aget σ.objs p=some [⟨false,.str s⟩]) (hq:aget σ.objs q=some [⟨false,.int .i64 m⟩]) (n:Nat):W SG9 (n + 1) n_190 [dF f,.ptr p 0,.ptr q 0] σ=some (.ret ⟨false,.bool (fits1 s m f)⟩,σ):=by
 rw [W_fun (af:=a_82) rfl rfl rfl]
 unfold fits1
 cases e1:f.name == s with
 | false=>simp only [a_82,dF,sA,Nat.reduceAdd,Nat.reduceSub,Nat.reduceMul,Nat.reduceBEq,Nat.reduceLeDiff,Int.reduceBEq,Int.reduceBNe,Int.reduceLE,Int.reduceLT,Int.reduceGE,Int.reduceGT,Int.reduceNeg,kn,hp,hq,e1,Bool.false_and]
 | true =>
  by_cases e2:m < 0
  ·simp only [a_82,dF,sA,Nat.reduceAdd,Nat.reduceSub,Nat.reduceMul,Nat.reduceBEq,Nat.reduceLeDiff,Int.reduceBEq,Int.reduceBNe,Int.reduceLE,Int.reduceLT,Int.reduceGE,Int.reduceGT,Int.reduceNeg,kn,hp,hq,e1,e2,decide_true,Bool.true_or,Bool.and_self]
  ·simp only [a_82,dF,sA,Nat.reduceAdd,Nat.reduceSub,Nat.reduceMul,Nat.reduceBEq,Nat.reduceLeDiff,Int.reduceBEq,Int.reduceBNe,Int.reduceLE,Int.reduceLT,Int.reduceGE,Int.reduceGT,Int.reduceNeg,kn,hp,hq,e1,e2,decide_false,Bool.false_or,Bool.true_and]
theorem zceb (s:Tx) (m:Int) (fb:Nat) (σ:Store) (hf:aget σ.objs fb=some [⟨false,dFs FL⟩]) (hn:fb < σ.next):∃ σ',FrA σ σ'∧∀ n,12≤n→W SG9 n n_46 [.str s,.int .i64 m,.ptr fb 0] σ=some (.ret ⟨false,.bool (zho FL s m)⟩,σ'):=by
 obtain ⟨σ1,e1⟩:∃ σ1,σ1=GA σ t_128 [⟨false,.str s⟩]:=⟨_,rfl⟩
 obtain ⟨σ2,e2⟩:∃ σ2,σ2=GA σ1 t_int [⟨false,.int .i64 m⟩]:=⟨_,rfl⟩
 have n1:σ1.next=σ.next + 1:=by rw [e1,za3]
 have h1:aget σ2.objs σ.next=some [⟨false,.str s⟩]:=by rw [e2,GA_ne (by omega),e1,zbq]
 have h2:aget σ2.objs (σ.next + 1)=some [⟨false,.int .i64 m⟩]:=by rw [e2,← n1,zbq]
 have h3:aget σ2.objs fb=some [⟨false,dFs FL⟩]:=by rw [e2,GA_ne (by omega),e1,GA_ne (by omega),hf]
 refine ⟨σ2,by rw [e2]; refine FrA.trans ?_ FrA.ga; rw [e1]; exact FrA.ga,fun n hn=>?_⟩
 obtain ⟨n,rfl⟩:∃ k,n=k + 10:=⟨n - 10,by omega⟩
 rw [W_fun (af:=a_159) rfl rfl rfl]
 have hc:=zxg (S:=SG9) rfl rfl (n + 7) FL (.fn (.func n_190) [] [.ptr σ.next 0,.ptr (σ.next + 1) 0]) n_190 [.ptr σ.next 0,.ptr (σ.next + 1) 0] (fits1 s m) rfl (by decide) (by show 5 < _; omega) σ2 (fun i hi=>zjtb _ s m _ _ σ2 h1 h2 (n + 6))
 have hfm:FL.any (fits1 s m)=zho FL s m:=rfl
 rw [hfm] at hc
 generalize dFs FL=fl at *
 simp only [a_159,sA,Nat.reduceAdd,Nat.reduceSub,Nat.reduceMul,Nat.reduceBEq,Nat.reduceLeDiff,Int.reduceBEq,Int.reduceBNe,Int.reduceLE,Int.reduceLT,Int.reduceGE,Int.reduceGT,Int.reduceNeg,kn,memE,mB,← e1,n1,← e2,h3,hc]
theorem zfnb {al:Hd × Co} (h:HdOk al.1) {gl:List Tx} {gb cb fb:Nat} (σ:Store) (hT:TB σ gl gb cb fb):∃ σ',FrA σ σ'∧∀ n,13≤n→W SG9 n n_123 [dA al,.ptr cb 0] σ=some (.ret ⟨false,.bool false⟩,σ'):=by
 have hda:=zep al
 have hon:=oneD al.2
 have hoS:=zba al.1.vars
 have hlS:=len_S al.1.vars
 have hcb:=hT.c
 by_cases e:al.1.form=1
 ·have hfm:zho FL al.1.name al.1.vars.length=true:=by
   rcases h.2.2 with q | q | q
   ·exact q.2
   ·omega
   ·omega
  obtain ⟨σ',hF,hw⟩:=zceb al.1.name al.1.vars.length fb σ hT.f hT.n.2.2
  refine ⟨σ',hF,fun n hn=>?_⟩
  obtain ⟨n,rfl⟩:∃ k,n=k + 1:=⟨n - 1,by omega⟩
  rw [W_fun (af:=a_83) rfl rfl rfl]
  have hw:=hw n (by omega)
  rw [hfm] at hw
  have e1:(al.1.form == 1)=true:=by rw [e]; rfl
  have hfn:D.fn? (.fn (.func n_46) [] [.ptr fb 0])=some (n_46,[],[.ptr fb 0]):=rfl
  simp only [a_83,sA,Nat.reduceAdd,Nat.reduceSub,Nat.reduceMul,Nat.reduceBEq,Nat.reduceLeDiff,Int.reduceBEq,Int.reduceBNe,Int.reduceLE,Int.reduceLT,Int.reduceGE,Int.reduceGT,Int.reduceNeg,kn,hda,hon,hoS,e1,hcb,hlS,hfn,hw]
 ·refine ⟨σ,FrA.refl,fun n hn=>?_⟩
  obtain ⟨n,rfl⟩:∃ k,n=k + 1:=⟨n - 1,by omega⟩
  rw [W_fun (af:=a_83) rfl rfl rfl]
  have e1:(al.1.form == 1)=false:=beq_false_of_ne e
  simp only [a_83,sA,Nat.reduceAdd,Nat.reduceSub,Nat.reduceMul,Nat.reduceBEq,Nat.reduceLeDiff,Int.reduceBEq,Int.reduceBNe,Int.reduceLE,Int.reduceLT,Int.reduceGE,Int.reduceGT,Int.reduceNeg,kn,hda,hon,hoS,e1]
theorem zlyb (a b:List Tx) (s:Tx):(a ++ b).any (· == s)=(a.any (· == s) || b.any (· == s)):=List.any_append
theorem zitb {gl g:List Tx} {c:Co} (h:Good (gl ++ g) c) (hl:c.size < 100000000) (hg:g.length < 100000000) (hgl:gl.length < 100000000) {gb cb fb:Nat} (σb σ:Store) (hT:TB σb gl gb cb fb) (hJ:FrA σb σ) (g':List Tx) (hg':g'=ifB (c.f == 8) (g ++ nms c) g):∃ σ',FrA σb σ'∧∀ n,c.al.length + 30≤n→W SG9 n n_191 [dCo c,dSs g',.ptr gb 0,.ptr cb 0] σ=some (.ret ⟨false,.bool true⟩,σ'):=by
 have hse:=zci c
 have lA:=zfc c.al
 have hdc:=zaw c
 have hon:=oneD c
 have hTs:=hT.fa hJ
 have hcb:=hTs.c
 have hgb:=hTs.g
 have had:dAs' c.al=aD c:=rfl
 have hfn:D.fn? (.fn (.func n_46) [] [.ptr fb 0])=some (n_46,[],[.ptr fb 0]):=rfl
 have alts:∀ σ1,FrA σb σ1→∃ σ',FrA σb σ'∧∀ n,13 + c.al.length + 3≤n→W SG9 n n_107 [dAs' c.al,.fn (.func n_123) [] [.ptr cb 0]] σ1=some (.ret ⟨false,.bool false⟩,σ'):=fun σ1 h1=>zts (S:=SG9) rfl rfl c.al (.fn (.func n_123) [] [.ptr cb 0]) n_123 [.ptr cb 0] rfl (by omega) (FrA σb) 13 (fun a ha τ hτ=>by
  obtain ⟨τ',hf,hw⟩:=zfnb (znb h a ha) τ (hT.fa hτ)
  exact ⟨τ',hτ.trans hf,hw⟩) σ1 h1
 rcases zhcb h with ⟨e,hv⟩ | ⟨e,hv⟩ | ⟨e1,e2⟩
 ·obtain ⟨σ',hF,hw⟩:=alts σ hJ
  refine ⟨σ',hF,fun n hn=>?_⟩
  obtain ⟨n,rfl⟩:∃ k,n=k + 2:=⟨n - 2,by omega⟩
  rw [W_fun (af:=a_42) rfl rfl rfl]
  have e1:(c.f == 1)=true:=by rw [e]; rfl
  have e2:(c.f == 2)=false:=by rw [e]; rfl
  have e8:(c.f == 8)=false:=by rw [e]; rfl
  rw [e8,zad] at hg'
  subst hg'
  have hw:=hw (n + 1) (by omega)
  rw [had] at hw
  rw [zlyb] at hv
  have k1:=zhk (S:=SG9) rfl g' c.s (by omega) n σ
  have k2:=zhk (S:=SG9) rfl gl c.s (by omega) n σ
  cases hb:g'.any (· == c.s) with
  | true =>
   rw [hb] at k1
   simp only [a_42,sA,Nat.reduceAdd,Nat.reduceSub,Nat.reduceMul,Nat.reduceBEq,Nat.reduceLeDiff,Int.reduceBEq,Int.reduceBNe,Int.reduceLE,Int.reduceLT,Int.reduceGE,Int.reduceGT,Int.reduceNeg,kn,hdc,hon,e1,e2,k1,hgb,hw]
  | false =>
   rw [hb,Bool.or_false] at hv
   rw [hb] at k1
   rw [hv] at k2
   simp only [a_42,sA,Nat.reduceAdd,Nat.reduceSub,Nat.reduceMul,Nat.reduceBEq,Nat.reduceLeDiff,Int.reduceBEq,Int.reduceBNe,Int.reduceLE,Int.reduceLT,Int.reduceGE,Int.reduceGT,Int.reduceNeg,kn,hdc,hon,e1,e2,k1,k2,hgb,hw]
 ·obtain ⟨σ1,hF1,hw1⟩:=zceb c.s (-1) fb σ hTs.f hTs.n.2.2
  obtain ⟨σ',hF,hw⟩:=alts σ1 (hJ.trans hF1)
  refine ⟨σ',hF,fun n hn=>?_⟩
  obtain ⟨n,rfl⟩:∃ k,n=k + 1:=⟨n - 1,by omega⟩
  rw [W_fun (af:=a_42) rfl rfl rfl]
  have e1:(c.f == 1)=false:=by rw [e]; rfl
  have e2:(c.f == 2)=true:=by rw [e]; rfl
  have hw:=hw n (by omega)
  have hw1:=hw1 n (by omega)
  rw [had] at hw
  rw [hv] at hw1
  simp only [a_42,sA,Nat.reduceAdd,Nat.reduceSub,Nat.reduceMul,Nat.reduceBEq,Nat.reduceLeDiff,Int.reduceBEq,Int.reduceBNe,Int.reduceLE,Int.reduceLT,Int.reduceGE,Int.reduceGT,Int.reduceNeg,kn,hdc,hon,e1,e2,hcb,hfn,hw1,hw]
 ·obtain ⟨σ',hF,hw⟩:=alts σ hJ
  refine ⟨σ',hF,fun n hn=>?_⟩
  obtain ⟨n,rfl⟩:∃ k,n=k + 1:=⟨n - 1,by omega⟩
  rw [W_fun (af:=a_42) rfl rfl rfl]
  have hw:=hw n (by omega)
  rw [had] at hw
  simp only [a_42,sA,Nat.reduceAdd,Nat.reduceSub,Nat.reduceMul,Nat.reduceBEq,Nat.reduceLeDiff,Int.reduceBEq,Int.reduceBNe,Int.reduceLE,Int.reduceLT,Int.reduceGE,Int.reduceGT,Int.reduceNeg,kn,hdc,hon,e1,e2,hw]
end Go.Fu
namespace Go.Fu
open Go Go.Mx
set_option maxRecDepth 10000
set_option maxHeartbeats 4000000
theorem zra {gl g:List Tx} {c:Co} (h:Good (gl ++ g) c):(∀ b∈c.bs,Good (gl ++ ifB (c.f == 8) (g ++ nms c) g) b.2)∧(∀ x∈c.ks,Good (gl ++ ifB (c.f == 8) (g ++ nms c) g) x)∧(∀ a∈c.al,Good (gl ++ ((ifB (c.f == 8) (g ++ nms c) g) ++ a.1.vars)) a.2):=by
 generalize hns:gl ++ g=ns at h
 cases h with
 | int _=>exact ⟨fun _ h=>(by cases h),fun _ h=>(by cases h),fun _ h=>(by cases h)⟩
 | con _=>exact ⟨fun _ h=>(by cases h),fun _ h=>(by cases h),fun _ h=>(by cases h)⟩
 | var _=>exact ⟨fun _ h=>(by cases h),fun _ h=>(by cases h),fun _ h=>(by cases h)⟩
 | fail=>exact ⟨fun _ h=>(by cases h),fun _ h=>(by cases h),fun _ h=>(by cases h)⟩
 | @app _ a b ha hb =>
  subst hns
  refine ⟨fun _ h=>(by cases h),fun x hx=>?_,fun _ h=>(by cases h)⟩
  simp only [Co.ks,List.mem_cons,List.not_mem_nil,or_false] at hx
  rcases hx with rfl | rfl
  ·exact ha
  ·exact hb
 | @prim _ s a b hp ha hb =>
  subst hns
  refine ⟨fun _ h=>(by cases h),fun x hx=>?_,fun _ h=>(by cases h)⟩
  simp only [Co.ks,List.mem_cons,List.not_mem_nil,or_false] at hx
  rcases hx with rfl | rfl
  ·exact ha
  ·exact hb
 | @lt _ b bs h1 h2 h3 =>
  subst hns
  have e:gl ++ ifB ((Co.mk 8 0 [] [b] bs []).f == 8) (g ++ nms (Co.mk 8 0 [] [b] bs [])) g=gl ++ g ++ bs.map Prod.fst:=by
   rw [List.append_assoc]
   rfl
  refine ⟨fun x hx=>?_,fun x hx=>?_,fun _ h=>(by cases h)⟩
  ·rw [e]; exact h2 x hx
  ·simp only [Co.ks,List.mem_cons,List.not_mem_nil,or_false] at hx
   subst hx
   rw [e]
   exact h3
 | @cas _ x al h1 h2 h3 =>
  subst hns
  refine ⟨fun _ h=>(by cases h),fun y hy=>?_,fun a ha=>?_⟩
  ·simp only [Co.ks,List.mem_cons,List.not_mem_nil,or_false] at hy
   subst hy
   exact h1
  ·have:=h3 a ha
   rw [List.append_assoc] at this
   exact this
theorem zjfb {u:Su} {ab:Nat} {askD:D} (na:Nat) (σ σ':Store) (hb:aget σ.objs ab=some [⟨false,askD⟩]) (h:∀ n,na≤n→W SG9 n n_18 [dCo u.body,dSs u.ps,askD] σ=some (.ret ⟨false,.bool true⟩,σ')):∀ n,na + 1≤n→W SG9 n n_186 [dU u,.ptr ab 0] σ=some (.ret ⟨false,.bool false⟩,σ'):=fun n hn=>by
 obtain ⟨n,rfl⟩:∃ k,n=k + 1:=⟨n - 1,by omega⟩
 rw [W_fun (af:=a_155) rfl rfl rfl]
 have h:=h n (by omega)
 have hon:=oneD u.body
 have hoS:=zba u.ps
 rw [zaw] at h
 simp only [a_155,zl2,sA,Nat.reduceAdd,Nat.reduceSub,Nat.reduceMul,Nat.reduceBEq,Nat.reduceLeDiff,Int.reduceBEq,Int.reduceBNe,Int.reduceLE,Int.reduceLT,Int.reduceGE,Int.reduceGT,Int.reduceNeg,kn,hon,hoS,hb,h]
theorem ztn {us:List Su} (hus:us.length < 100000000) (σb:Store) (askD:D) (hok:askD.ok=true) (hce:askD.cells=[askD]) (na:Nat) (heach:∀ u∈us,∀ σ,FrA σb σ→∃ σ',FrA σ σ'∧∀ n,na≤n→W SG9 n n_18 [dCo u.body,dSs u.ps,askD] σ=some (.ret ⟨false,.bool true⟩,σ'))
  {lb:Nat} (hlb:aget σb.objs lb=some [⟨false,dUs us⟩]) (hln:lb < σb.next) (σ:Store) (hJ:FrA σb σ):∃ σ',FrA σb σ'∧∀ n,na + us.length + 10≤n→W SG9 n n_185 [askD,.ptr lb 0] σ=some (.ret ⟨false,.bool true⟩,σ'):=by
 obtain ⟨σ1,e1⟩:∃ σ1,σ1=GA σ t_256 [⟨false,askD⟩]:=⟨_,rfl⟩
 have f1:FrA σ σ1:=by rw [e1]; exact FrA.ga
 have j1:FrA σb σ1:=hJ.trans f1
 have a1:aget σ1.objs σ.next=some [⟨false,askD⟩]:=by rw [e1,zbq]
 have n1:σ1.next=σ.next + 1:=by rw [e1,za3]
 have l1:aget σ1.objs lb=some [⟨false,dUs us⟩]:=by rw [j1.ob _ hln,hlb]
 obtain ⟨σ',hj',hw⟩:=zu0 (S:=SG9) rfl rfl us (.fn (.func n_186) [] [.ptr σ.next 0]) n_186 [.ptr σ.next 0] rfl (by omega) (FrA σ1) (na + 1) (fun u hu τ hτ=>by
  obtain ⟨τ',hf,hw⟩:=heach u hu τ (j1.trans hτ)
  exact ⟨τ',hτ.trans hf,zjfb na τ τ' (by rw [hτ.ob _ (by omega),a1]) hw⟩) σ1 FrA.refl
 refine ⟨σ',j1.trans hj',fun n hn=>?_⟩
 obtain ⟨n,rfl⟩:∃ k,n=k + 1:=⟨n - 1,by omega⟩
 rw [W_fun (af:=a_154) rfl rfl rfl]
 have hw:=hw n (by omega)
 simp only [a_154,sA,Nat.reduceAdd,Nat.reduceSub,Nat.reduceMul,Nat.reduceBEq,Nat.reduceLeDiff,Int.reduceBEq,Int.reduceBNe,Int.reduceLE,Int.reduceLT,Int.reduceGE,Int.reduceGT,Int.reduceNeg,kn,memE,mB,hok,hce,← e1,l1,hw]
theorem zoz {gl:List Tx} {u:Su} (hG:Good (gl ++ u.ps) u.body) (hsz:u.ps.length + u.body.size≤50000000) (askD:D) (fid:FuncId) (caps:List D) (hask:D.fn? askD=some (fid,[],caps)) (σ:Store)
  (hrun:∀ τ,FrA σ τ→∀ c g,Good (gl ++ g) c→(ifB (c.f == 8) (g ++ nms c) g).length≤50000000→c.size≤50000000→g.length≤50000000→∃ τ',FrA σ τ'∧∀ n,60000000≤n→W SG9 n fid ([dCo c,dSs (ifB (c.f == 8) (g ++ nms c) g)] ++ caps) τ=some (.ret ⟨false,.bool true⟩,τ')) :
  ∃ σ',FrA σ σ'∧∀ n,120000000≤n→W SG9 n n_18 [dCo u.body,dSs u.ps,askD] σ=some (.ret ⟨false,.bool true⟩,σ'):=by
 obtain ⟨σ',h1,h2⟩:=zmeb (P:=SG9) rfl rfl rfl (FrA σ) askD fid caps hask 60000000 50000000 (by omega) (fun c g=>Good (gl ++ g) c) (fun c g h=>(zra h).1) (fun c g h=>(zra h).2.1) (fun c g h=>(zra h).2.2)
  (fun τ hτ c g h e1 e2=>hrun τ hτ c g h e1 e2 (by cases hb:c.f == 8 <;> rw [hb] at e1 <;> simp only [zab,zad,List.length_append] at e1 <;> omega)) u.body u.ps σ FrA.refl hG hsz
 exact ⟨σ',h1,fun n hn=>h2 n (by omega)⟩
theorem zexb {u:Su} (h:zc5 u.ps=false) (hl:u.ps.length < 100000000) (n:Nat) (σ:Store):W SG9 (n + 2) n_189 [dU u] σ=some (.ret ⟨false,.bool false⟩,σ):=by
 have hon:=oneD u.body
 have hoS:=zba u.ps
 have ht:=W_tw (S:=SG9) rfl u.ps (by omega) n σ
 rw [h] at ht
 rw [W_fun (af:=a_158) rfl rfl rfl]
 simp only [a_158,zl2,sA,Nat.reduceAdd,Nat.reduceSub,Nat.reduceMul,Nat.reduceBEq,Nat.reduceLeDiff,Int.reduceBEq,Int.reduceBNe,Int.reduceLE,Int.reduceLT,Int.reduceGE,Int.reduceGT,Int.reduceNeg,kn,hon,hoS,ht]
theorem zaeb (us:List Su) (hg:GoodP us):OkP n_184 [dFs FL,dUs us] ⟨false,.int .i64 0⟩:=by
 have hfew:=hg.few
 have hF:FL.length=5:=rfl
 obtain ⟨gl,hgl⟩:∃ gl,gl=us.map Su.name:=⟨_,rfl⟩
 have hgll:gl.length=us.length:=by rw [hgl,List.length_map]
 obtain ⟨σ1,e1⟩:∃ σ1,σ1=GA σ0 t_210 [⟨false,dFs FL⟩]:=⟨_,rfl⟩
 obtain ⟨σ2,e2⟩:∃ σ2,σ2=GA σ1 t_254 [⟨false,dUs us⟩]:=⟨_,rfl⟩
 obtain ⟨σ3,e3⟩:∃ σ3,σ3=GA σ2 t_8 [⟨false,.nils⟩]:=⟨_,rfl⟩
 obtain ⟨σ4,e4⟩:∃ σ4,σ4=SO σ3 2 [⟨false,dSs gl⟩]:=⟨_,rfl⟩
 obtain ⟨σ5,e5⟩:∃ σ5,σ5=GA σ4 t_257 [⟨false,.nilfn⟩]:=⟨_,rfl⟩
 obtain ⟨σ6,e6⟩:∃ σ6,σ6=SO σ5 3 [⟨false,.fn (.func n_46) [] [.ptr 0 0]⟩]:=⟨_,rfl⟩
 have n0:σ0.next=0:=rfl
 have n1:σ1.next=1:=by rw [e1,za3]; rfl
 have n2:σ2.next=2:=by rw [e2,za3,n1]
 have n3:σ3.next=3:=by rw [e3,za3,n2]
 have n4:σ4.next=3:=by rw [e4,zbe,n3]
 have n5:σ5.next=4:=by rw [e5,za3,n4]
 have n6:σ6.next=4:=by rw [e6,zbe,n5]
 have b0:aget σ1.objs 0=some [⟨false,dFs FL⟩]:=by rw [e1]; rfl
 have b1:aget σ2.objs 1=some [⟨false,dUs us⟩]:=by rw [e2,← n1,zbq]
 have b2:aget σ3.objs 2=some [⟨false,.nils⟩]:=by rw [e3,← n2,zbq]
 have b14:aget σ4.objs 1=some [⟨false,dUs us⟩]:=by rw [e4,SO_ne (by decide),e3,GA_ne (by omega),b1]
 have b3:aget σ5.objs 3=some [⟨false,.nilfn⟩]:=by rw [e5,← n4,zbq]
 have c0:aget σ6.objs 0=some [⟨false,dFs FL⟩]:=by rw [e6,SO_ne (by decide),e5,GA_ne (by omega),e4,SO_ne (by decide),e3,GA_ne (by omega),e2,GA_ne (by omega),b0]
 have c1:aget σ6.objs 1=some [⟨false,dUs us⟩]:=by rw [e6,SO_ne (by decide),e5,GA_ne (by omega),b14]
 have c2:aget σ6.objs 2=some [⟨false,dSs gl⟩]:=by rw [e6,SO_ne (by decide),e5,GA_ne (by omega),e4,zb9]
 have c3:aget σ6.objs 3=some [⟨false,.fn (.func n_46) [] [.ptr 0 0]⟩]:=by rw [e6,zb9]
 have hT:TB σ6 gl 2 3 0:=⟨c2,c3,c0,by omega⟩
 have hbody:∀ u∈us,Good (gl ++ u.ps) u.body∧u.ps.length + u.body.size≤50000000:=fun u hu=>by
  have h1:=hg.body u hu
  have h2:=hg.ps u hu
  rw [hgl]
  exact ⟨h1.1,by omega⟩
 obtain ⟨σ7,j7,w7⟩:=ztn (us:=us) (by omega) σ6 (.fn (.func n_122) [] []) rfl rfl 120000000 (fun u hu σ hσ=>by
  obtain ⟨h1,h2⟩:=hbody u hu
  exact zoz h1 h2 _ n_122 [] rfl σ fun τ hτ c g hG e1 e2 e3=>by
   obtain ⟨τ',h3,h4⟩:=ze8b (g:=ifB (c.f == 8) (g ++ nms c) g) hG (by omega) σ τ hτ
   have:=zci c
   have:=zfc c.al
   exact ⟨τ',h3,fun n hn=>h4 n (by omega)⟩) c1 (by omega) σ6 FrA.refl
 obtain ⟨σ8,j8,w8⟩:=ztn (us:=us) (by omega) σ6 (.fn (.func n_187) [] []) rfl rfl 120000000 (fun u hu σ hσ=>by
  obtain ⟨h1,h2⟩:=hbody u hu
  exact zoz h1 h2 _ n_187 [] rfl σ fun τ hτ c g hG e1 e2 e3=>by
   have:=zci c
   have:=zfc c.al
   exact ⟨τ,hτ,fun n hn=>zkqb hG (by omega) τ n (by omega)⟩) c1 (by omega) σ7 j7
 obtain ⟨σ9,j9,w9⟩:=ztn (us:=us) (by omega) σ6 (.fn (.func n_191) [] [.ptr 2 0,.ptr 3 0]) rfl rfl 120000000 (fun u hu σ hσ=>by
  obtain ⟨h1,h2⟩:=hbody u hu
  exact zoz h1 h2 _ n_191 [.ptr 2 0,.ptr 3 0] rfl σ fun τ hτ c g hG e1 e2 e3=>by
   obtain ⟨τ',h3,h4⟩:=zitb hG (by omega) (by omega) (by omega) σ τ (hT.fa hσ) hτ _ rfl
   have:=zci c
   have:=zfc c.al
   exact ⟨τ',h3,fun n hn=>h4 n (by omega)⟩) c1 (by omega) σ8 j8
 obtain ⟨σp,rfl,wp⟩:=zu0 (S:=SG9) rfl rfl us (.fn (.func n_189) [] []) n_189 [] rfl (by omega) (fun τ=>τ=σ4) 2 (fun u hu τ hτ=>⟨τ,hτ,fun n hn=>by
  obtain ⟨n,rfl⟩:∃ k,n=k + 2:=⟨n - 2,by omega⟩
  have:=hg.ps u hu
  exact zexb this.1 (by omega) n τ⟩) σ4 rfl
 obtain ⟨N,hN⟩:∃ N,N=200000000:=⟨_,rfl⟩
 have w7:=w7 (N + 1) (by omega)
 have w8:=w8 (N + 1) (by omega)
 have w9:=w9 (N + 1) (by omega)
 have wp:=wp (N + 1) (by omega)
 have wn:=zf3b (S:=SG9) rfl us (by omega) N σ2
 have wf:=zf2b (S:=SG9) rfl FL (by omega) N σ7
 have wc:=W_cat (S:=SG9) rfl (FL.map Fd.name) gl (by simp; omega) N σ7
 have wt:=W_tw (S:=SG9) rfl (FL.map Fd.name ++ gl) (by simp; omega) N σ7
 have ho:=hg.once
 rw [← hgl] at ho wn
 rw [ho] at wt
 have d0:aget σ7.objs 0=some [⟨false,dFs FL⟩]:=by rw [j7.ob _ (by omega),c0]
 have d2:aget σ7.objs 2=some [⟨false,dSs gl⟩]:=by rw [j7.ob _ (by omega),c2]
 have oF:(dFs FL).ok=true:=rfl
 have cF':(dFs FL).cells=[dFs FL]:=rfl
 have oU:(dUs us).ok=true:=zbo
 have cU':(dUs us).cells=[dUs us]:=zax
 have oG:(dSs gl).ok=true:=zbo
 have cG:(dSs gl).cells=[dSs gl]:=zax
 have oN:(dSs (FL.map Fd.name)).ok=true:=zbo
 have cN:(dSs (FL.map Fd.name)).cells=[dSs (FL.map Fd.name)]:=zax
 have onG:=zba gl
 have f1:D.fn? (.fn (.func n_185) [] [.ptr 1 0])=some (n_185,[],[.ptr 1 0]):=rfl
 simp only [zhb] at wn
 simp only [zha] at wf
 simp only [dd] at wc
 have hnp:zam [dFs FL,dUs us]=true:=by simp [zam,zpd,zhc]
 generalize dFs FL=fl at *
 generalize FL.map Fd.name=fnm at *
 refine zf2 (af:=a_153) (n:=1) (σ':=σ9) (ze2 SG9 (N + 1)) rfl rfl hnp rfl ?_
 simp only [a_153,sA,Nat.reduceAdd,Nat.reduceSub,Nat.reduceMul,Nat.reduceBEq,Nat.reduceLeDiff,Int.reduceBEq,Int.reduceBNe,Int.reduceLE,Int.reduceLT,Int.reduceGE,Int.reduceGT,Int.reduceNeg,kn,memE,mB,oF,cF',oU,cU',n0,← e1,n1,← e2,b1,wn,n2,← e3,b2,oG,cG,onG,putA0,← e4,b14,wp,n4,← e5,b3,← e6,f1,w7,d0,d2,zcp,wf,oN,cN,wc,wt,w8,w9]
end Go.Fu
namespace Go.Fu
open Go Go.Mx
set_option maxRecDepth 10000
set_option maxHeartbeats 4000000
def spGw (us:List Su):List D→Cell→Prop:=fun ds c=>ds=[dFs FL,dUs us]→c=⟨false,.int .i64 0⟩
def spGf:List D→Cell→Prop:=fun ds c=>∀ u,ds=[dU u]→c=⟨false,dUs (flatS u)⟩
def spGc:List D→Cell→Prop:=fun ds c=>∀ u,ds=[dU u]→c=⟨false,dD (codeS u)⟩
def SGC (us:List Su):Specs:=[(n_184,spGw us),(n_26,spGf),(n_58,spGc)]
def compS (us:List Su):List Cd:=FL.map zbk ++ us.flatMap fun u=>(flatS u).map codeS
def Ecf1 (us:List Su) (acc:List Cd) (o:Bool) (i:Nat):Env:={slots:=[(1,⟨false,dUs us⟩),(7,⟨o,dDs acc⟩),(23,⟨false,dFs FL⟩),(24,⟨false,.int .i64 5⟩),(25,⟨false,.int .i64 i⟩)],locs:=[],boxes:=[],defers:=[]}
def three:D:=.list k_0 [.str [85,80,68,65,84,69],.str [80,79,80],.str [85,78,87,73,78,68]]
def bxF (f:Fd):List Cell:=[⟨false,.str f.name⟩,⟨false,.int .i64 f.tag⟩,⟨false,.int .i64 f.many⟩,⟨false,.int .i64 f.arity⟩,⟨false,.int .i64 0⟩,⟨false,.int .i64 0⟩,⟨false,.str []⟩,⟨false,.nils⟩]
def Ecf0 (us:List Su) (acc:List Cd) (o:Bool) (i:Nat) (f:Fd) (p j:Nat):Env:={slots:=[(1,⟨false,dUs us⟩),(7,⟨o,dDs acc⟩),(10,⟨false,.ptr p 0⟩),(23,⟨false,dFs FL⟩),(24,⟨false,.int .i64 5⟩),(25,⟨false,.int .i64 i⟩),(39,⟨true,three⟩),(40,⟨false,.int .i64 3⟩),(41,⟨false,.int .i64 j⟩)],locs:=[(9,(9,0))],boxes:=[(9,bxF f)],defers:=[]}
section
variable {C:CallF} {n:Nat}
theorem ztx (us:List Su) (acc:List Cd) (o:Bool) (i:Nat) (f:Fd) (p j:Nat) (hj:j < 3) (s:Tx) (hx:zbj 1 three j=some (.eptr (.str s))) (σ σ':Store) (h:C n_6 [.ptr p 0,.str s,.int .i64 0] σ=some (.ret ⟨false,.tup []⟩,σ')):exec C n none zc9 (Ecf0 us acc o i f p j) σ=some (.normal,Ecf0 us acc o i f p (j + 1),σ'):=by
 have hlt:((j:Int) < 3):=by omega
 have w:=zak (i:=j) (by omega)
 simp only [zc9,Ecf0,sA,Nat.reduceAdd,Nat.reduceSub,Nat.reduceMul,Nat.reduceBEq,Nat.reduceLeDiff,Int.reduceBEq,Int.reduceBNe,Int.reduceLE,Int.reduceLT,Int.reduceGE,Int.reduceGT,Int.reduceNeg,kn,hlt,natI,hx,h,w]
theorem zo1b (us:List Su) (acc:List Cd) (o:Bool) (i:Nat) (f:Fd) (p:Nat) (σ:Store):exec C n none zc9 (Ecf0 us acc o i f p 3) σ=some (.exit 2,{Ecf0 us acc o i f p 3 with slots:=[(1,⟨false,dUs us⟩),(7,⟨o,dDs acc⟩),(10,⟨false,.ptr p 0⟩),(23,⟨false,dFs FL⟩),(24,⟨false,.int .i64 5⟩),(25,⟨false,.int .i64 i⟩),(39,⟨true,three⟩),(40,⟨false,.int .i64 3⟩),(41,⟨false,.int .i64 (3:Nat)⟩),(42,⟨false,.bool false⟩)]},σ):=by
 have hlt:¬ (((3:Nat):Int) < 3):=by omega
 simp only [zc9,Ecf0,sA,Nat.reduceAdd,Nat.reduceSub,Nat.reduceMul,Nat.reduceBEq,Nat.reduceLeDiff,Int.reduceBEq,Int.reduceBNe,Int.reduceLE,Int.reduceLT,Int.reduceGE,Int.reduceGT,Int.reduceNeg,kn,hlt]
end
theorem CA.frz {σ:Store} {p a:Nat} {L:List In} (h:CA σ p a .nilmap L):∃ os,zeh [⟨false,arrI a L⟩,⟨false,.nilmap⟩] (adel1 σ.objs p)=some ([⟨false,dIs L⟩,⟨false,.nilmap⟩],os):=by
 have hk:=zsj a L
 have hk2:Cell.keeps ⟨false,.nilmap⟩=false:=rfl
 have hn:∀ os,zau 40 .nilmap os=some (.nilmap,os):=fun _=>rfl
 have hpa:=h.pa
 by_cases hL:L=[]
 ·subst hL
  exact ⟨_,rfl⟩
 ·have hr:=zgr (k:=k_1) (id:=a) (n:=39) (ds:=L.map dI) (os:=adel1 σ.objs p) (os':=adel1 (adel1 σ.objs p) a) (by rw [agD _ _ (fun e=>hpa e.symm),(h.arr hL).1,cI_eq]) rfl rfl (zsi L) (fun d hd=>by
   obtain ⟨x,_,rfl⟩:=List.mem_map.1 hd
   rfl)
  rw [List.length_map] at hr
  have hd:dIs L=.list k_1 (L.map dI):=by
   cases L with
   | nil=>exact absurd rfl hL
   | cons a b=>rfl
  rw [← hd] at hr
  rw [zl0 _ _ hL] at hk ⊢
  exact ⟨adel1 (adel1 σ.objs p) a,by simp only [zeh,hr,hk,hk2,hn,bindO,zac]⟩
theorem zmjb (us:List Su) (acc:List Cd) (o:Bool) (ho:acc≠[]→o=true) (i:Nat) (hi:i < FL.length) (hacc:acc.length < 1000) (σ:Store) (N n:Nat) (hn:3 < n):∃ σ',exec (W (SGC us) (N + 1)) n none zda (Ecf1 us acc o i) σ=some (.normal,Ecf1 us (acc ++ [zbk FL[i]]) true (i + 1),σ'):=by
 have hF:FL.length=5:=rfl
 have hlt:((i:Int) < 5):=by omega
 have w:=zak (i:=i) (by omega)
 have hx:=idx_F FL i hi
 generalize FL[i]=f at hx ⊢
 obtain ⟨L0,hL0⟩:∃ L0:List In,L0=[⟨sPACK,f.arity,f.tag,f.name⟩]:=⟨_,rfl⟩
 obtain ⟨σ1,e1⟩:∃ σ1,σ1=zag σ k_1 (cI L0):=⟨_,rfl⟩
 have n1:σ1.next=σ.next + 2:=by rw [e1]; rfl
 obtain ⟨σ2,e2⟩:∃ σ2,σ2=GA σ1 t_109 [⟨false,.arr k_1 σ.next 0 1⟩,⟨false,.nilmap⟩]:=⟨_,rfl⟩
 have n2:σ2.next=σ.next + 3:=by rw [e2,za3,n1]
 have c2:CA σ2 (σ.next + 2) σ.next .nilmap L0:=by
  refine ⟨?_,fun _=>⟨?_,?_⟩,by omega,by omega,by omega⟩
  ·rw [e2,← n1,zbq,hL0]
   rfl
  ·rw [e2,GA_ne (by omega),e1]
   exact agS _ _ _
  ·rw [e2,GA_ty (by omega),e1]
   exact agS _ _ _
 obtain ⟨σ3,w3,c3,_,_⟩:=zjt (S:=SGC us) rfl c2 (by rw [hL0]; simp) [85,80,68,65,84,69] 0
 obtain ⟨σ4,w4,c4,_,_⟩:=zjt (S:=SGC us) rfl c3 (by rw [hL0]; simp) [80,79,80] 0
 obtain ⟨σ5,w5,c5,_,_⟩:=zjt (S:=SGC us) rfl c4 (by rw [hL0]; simp) [85,78,87,73,78,68] 0
 have hbody:L0 ++ [op1 [85,80,68,65,84,69] 0] ++ [op1 [80,79,80] 0] ++ [op1 [85,78,87,73,78,68] 0]=(zbk f).body:=by rw [hL0]; rfl
 rw [hbody] at c5
 have x0:zbj 1 three 0=some (.eptr (.str [85,80,68,65,84,69])):=rfl
 have x1:zbj 1 three 1=some (.eptr (.str [80,79,80])):=rfl
 have x2:zbj 1 three 2=some (.eptr (.str [85,78,87,73,78,68])):=rfl
 obtain ⟨m,rfl⟩:∃ m,n=m + 4:=⟨n - 4,by omega⟩
 have l0:loopN (exec (W (SGC us) (N + 1)) (m + 4) none zc9) (m + 4) (Ecf0 us acc o i f (σ.next + 2) 0) σ2=_:=(zbn (ztx us acc o i f (σ.next + 2) 0 (by omega) _ x0 σ2 σ3 (w3 N))).trans ((zbn (ztx us acc o i f (σ.next + 2) 1 (by omega) _ x1 σ3 σ4 (w4 N))).trans ((zbn (ztx us acc o i f (σ.next + 2) 2 (by omega) _ x2 σ4 σ5 (w5 N))).trans (zcr (zo1b us acc o i f (σ.next + 2) σ5))))
 have ho5:=c5.obj
 obtain ⟨os,hfz⟩:=c5.frz
 have hap:=appD1 acc (zbk f) o ho (by omega)
 have hdd:dD (zbk f)=.agg [.str f.name,.int .i64 f.arity,dIs (zbk f).body]:=rfl
 have hoI:(dIs (zbk f).body).one=true:=zaz
 have okI:(dIs (zbk f).body).ok=true:=zbo
 have ceI:(dIs (zbk f).body).cells=[dIs (zbk f).body]:=zax
 rw [hdd] at hap
 generalize (zbk f).body=B at *
 have hb0:[D.agg [.str sPACK,.int .i64 f.arity,.int .i64 f.tag,.str f.name]]=L0.map dI:=by rw [hL0]; rfl
 have hcl:cellsOf [D.agg [.str [80,65,67,75],.int .i64 f.arity,.int .i64 f.tag,.str f.name]]=cI L0:=by rw [hL0]; rfl
 have hos:aget (aset os (σ.next + 2) [⟨false,dIs B⟩,⟨false,.nilmap⟩]) (σ.next + 2)=some [⟨false,dIs B⟩,⟨false,.nilmap⟩]:=agA _ _ _
 have hln:lenOf three=some 3:=rfl
 have hthree:D.list k_0 [.str [85,80,68,65,84,69],.str [80,79,80],.str [85,78,87,73,78,68]]=three:=rfl
 refine ⟨{σ5 with objs:=aset os (σ.next + 2) [⟨false,dIs B⟩,⟨false,.nilmap⟩]},?_⟩
 simp only [dF] at hx
 have q3:((3:Nat):Int)=3:=rfl
 simp only [Ecf0,bxF,zeroI,q3] at l0
 have one3:(([.str [85,80,68,65,84,69],.str [80,79,80],.str [85,78,87,73,78,68]]:List D).length:Int)=3:=rfl
 simp only [zda,Ecf1,sA,Nat.reduceAdd,Nat.reduceSub,Nat.reduceMul,Nat.reduceBEq,Nat.reduceLeDiff,Int.reduceBEq,Int.reduceBNe,Int.reduceLE,Int.reduceLT,Int.reduceGE,Int.reduceGT,Int.reduceNeg,kn,memE,mB,hlt,natI,hx,hcl,← e1,n1,← e2,hthree,hln,q3,l0,zh2,zdu,zed,ho5,hfz,hos,hap,hoI,okI,ceI,w]
 done
end Go.Fu
