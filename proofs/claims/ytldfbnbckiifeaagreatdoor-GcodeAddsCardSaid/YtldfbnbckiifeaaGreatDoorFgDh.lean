/-
 The code of lazy places.
-/
import Derived.Test.YtldfbnbckiifeaaGreatDoorFgDg
set_option maxHeartbeats 4000000
set_option linter.unusedSimpArgs false
set_option linter.unusedVariables false
set_option linter.unusedSectionVars false
namespace Go.Fu
open Go Go.Mx
set_option maxRecDepth 10000
set_option maxHeartbeats 4000000
theorem Ae {lz go:Co→At→Int→List In→List In} (c:Co) (h1:∀ b∈c.bs,nN (lz b.2)) (h2:nN (go (kid c 0))):nN (Kz lz go c):=fun M d L=>by
 have m1:=h2 (cM M (nms c) d 0) (w64 (d + c.bs.length)) (sS (fun b L=>lz b (cM M (nms c) d 0) (w64 (d + c.bs.length)) L) c.bs.length c.bs 0 (L ++ [op1 oM c.bs.length]))
 have m2:=zV c.bs.length c.bs 0 (L ++ [op1 oM c.bs.length]) (lz:=fun b L=>lz b (cM M (nms c) d 0) (w64 (d + c.bs.length)) L) fun x hx L=>h1 x hx _ _ _
 simp only [List.length_append,List.length_cons,List.length_nil] at m2
 unfold Kz
 omega
theorem gP:∀ (n:Nat) (c:Co),nN (lzS n c)
 | 0,c=>fun M d L=>Nat.le_refl _
 | n + 1,c=>fun M d L=>by
  have h1:=Ae (lz:=lzS n) (go:=lzS n) c (fun b _=>gP n b.2) (gP n (kid c 0)) M d L
  have h2:=gP n (kid c 1) M d L
  have h3:=gP n (kid c 0) M (w64 (d + 1)) (lzS n (kid c 1) M d L)
  unfold lzS
  cases c.f == 1 <;> cases c.f == 2 <;> cases c.f == 3 <;> cases c.f == 4 <;> cases M c.s <;> simp only [aE,aG,cC,aF,List.length_append,List.length_cons,List.length_nil] <;> omega
theorem Ro {B:Nat} {z:Bool} {c:Co} (h:Fl B z c):(c.f=1∨c.f=2∨c.f=3)∨(c.f=4∧∃ a b,c.ks=[a,b]∧Fl B true a∧Fl B true b)∨(c.f=8∧∃ b,c.ks=[b]∧Fl B z b∧∀ p∈c.bs,Fl B true p.2) ∨
  (z=false∧(c.f=11∨(c.f=10∧∃ a b,c.ks=[a,b]∧Fl B false a∧Fl B false b)∨(c.f=9∧∃ x,c.ks=[x]∧Fl B false x∧∀ a∈c.al,Fl B false a.2))):=by
 cases h with
 | leaf h1=>exact .inl h1
 | app _ h1 h2=>exact .inr (.inl ⟨rfl,_,_,rfl,h1,h2⟩)
 | lt _ _ h1 h2=>exact .inr (.inr (.inl ⟨rfl,_,rfl,h2,h1⟩))
 | fail=>exact .inr (.inr (.inr ⟨rfl,.inl rfl⟩))
 | prim _ h1 h2=>exact .inr (.inr (.inr ⟨rfl,.inr (.inl ⟨rfl,_,_,rfl,h1,h2⟩)⟩))
 | cas _ _ h1 h2=>exact .inr (.inr (.inr ⟨rfl,.inr (.inr ⟨rfl,_,rfl,h1,h2⟩)⟩))
theorem fQ {σ:Store} {p a m:Nat} {L:List In} {M:At} (h:CS σ p a m L M) (hl:L.length < 1000000000) (op:Tx) (x:Int):∃ σ',(∀ n,W SD (n + 1) n_6 [.ptr p 0,.str op,.int .i64 x] σ=some (.ret ⟨false,.tup []⟩,σ'))∧CS σ' p σ.next m (L ++ [op1 op x]) M∧Frm p a m σ.next m σ σ':=by
 obtain ⟨σ',h1,h2,h3,h4⟩:=xT (S:=SD) rfl h.ca hl op x
 exact ⟨σ',h1,⟨h2,by rw [h4]; exact h.map,by have:=(h3 m).nx; have:=h.mn; omega⟩,h3 m⟩
theorem zfw {σ:Store} {p a m:Nat} {L:List In} {M:At} (h:CS σ p a m L M) (hl:L.length < 1000000000) (x:In):∃ σ1,bP σ k_1 48 (lC a L) [dI x]=some (.arr k_1 σ.next 0 (L.length + 1),σ1)∧aB σ1.objs p=some [⟨false,lC a L⟩,⟨false,.map m⟩] ∧
  CS (SO σ1 p [⟨false,.arr k_1 σ.next 0 (L.length + 1)⟩,⟨false,.map m⟩]) p σ.next m (L ++ [x]) M∧Frm p a m σ.next m σ (SO σ1 p [⟨false,.arr k_1 σ.next 0 (L.length + 1)⟩,⟨false,.map m⟩]):=by
 obtain ⟨σ1,h1,h2,h3,h4,h5,h6,_⟩:=h.ca.app x hl
 refine ⟨σ1,h1,h2,⟨h3,?_,by have:=(h4 m).nx; have:=h.mn; omega⟩,h4 m⟩
 rw [vB,h5]
 exact h.map
section
variable {B:Nat}
def kD (c:Co):D:=bE k_2 (c.ks.map dCo)
def bD (c:Co):D:=bE k_3 (c.bs.map dB)
def aD (c:Co):D:=bE k_4 (c.al.map dA)
theorem bY (c:Co):dCo c=.agg [.int .i64 c.f,.int .i64 c.n,.str c.s,.int .i64 0,.int .i64 0,.str [],.nils,kD c,bD c,aD c]:=cH c
theorem fF (c:Co):(kD c).one=true∧(bD c).one=true∧(aD c).one=true:=⟨bZ,bZ,bZ⟩
theorem Da {c:Co} {l:List Co} (h:c.ks=l) (i:Nat) (hi:i < l.length):dC 10 (kD c) i=some (.eptr (dCo l[i])):=by
 unfold kD
 subst h
 exact jU rfl dCo _ i hi
theorem Vp (c:Co):lenOf (bD c)=some c.bs.length:=jN _ _
theorem zgw (c:Co):lenOf (aD c)=some c.al.length:=jN _ _
theorem Gf:∀ (n:Nat) (c:Co) (z:Bool),c.size≤n→c.size < 100000000→Fl B z c→(z=true∨c.f=1∨c.f=2∨c.f=3∨c.f=4)→Okf pZ c (lzS n c):=by
 intro n
 induction n with
 | zero=>intro c z h; have:=iF c; omega
 | succ n ih =>
  intro c z hn hsz hf hz σ p a m L M d h hl
  have hse:=gZ c
  have hdc:=bY c
  have hon:=fF c
  obtain ⟨es,ck,r,hm1,hm2,hm3⟩:=h.look c.s
  have hmo:=zg9 hm1
  have ho:=h.ca.obj
  have hlL:L.length < 1000000000:=by have:=gP (n + 1) c M d L; omega
  rcases Ro hf with hff | ⟨hff,a1,b1,hks,hfa,hfb⟩ | ⟨hff,b1,hks,hfb,hbs⟩ | ⟨rfl,hff⟩
  ·rcases hff with hff | hff | hff
   ·unfold lzS at hl ⊢
    have e1:(c.f == 1)=true:=by rw [hff]; rfl
    rw [e1,aE] at hl ⊢
    cases r with
    | none =>
     have hM:M c.s=none:=hm3
     rw [hM,cC] at hl ⊢
     obtain ⟨σ1,h1,h2,h3,h4⟩:=zfw h hlL ⟨zE,0,0,c.s⟩
     refine ⟨_,_,_,Ev.of 0 fun k _=>?_,h3,h4⟩
     rw [bC (af:=bL) rfl rfl rfl]
     simp only [dI,zE] at h1
     have hone:=zA a L
     have ok1:bI k_1.sz [D.agg [.str [80,85,83,72,71],.int .i64 0,.int .i64 0,.str c.s]]=true:=rfl
     simp only [bL,sA,Nat.reduceAdd,Nat.reduceSub,Nat.reduceMul,Nat.reduceBEq,Nat.reduceLeDiff,Int.reduceBEq,Int.reduceBNe,Int.reduceLE,Int.reduceLT,Int.reduceGE,Int.reduceGT,Int.reduceNeg,kn,bF,mB,hdc,hon,ho,jB,hmo,pC,hm2,e1,h1,h2,mL,rW]
    | some v =>
     obtain ⟨x,hx1,hx2⟩:=hm3
     rw [hx2,aF] at hl ⊢
     obtain ⟨σ1,h1,h2,h3⟩:=fQ h hlL Xo (w64 (w64 (d - 1) - x))
     refine ⟨_,_,_,Ev.of 1 fun k hk=>?_,h2,h3⟩
     obtain ⟨k,rfl⟩:∃ j,k=j + 1:=⟨k - 1,by omega⟩
     rw [bC (af:=bL) rfl rfl rfl]
     have h1:=h1 k
     simp only [w64,Xo] at h1
     simp only [bL,sA,Nat.reduceAdd,Nat.reduceSub,Nat.reduceMul,Nat.reduceBEq,Nat.reduceLeDiff,Int.reduceBEq,Int.reduceBNe,Int.reduceLE,Int.reduceLT,Int.reduceGE,Int.reduceGT,Int.reduceNeg,kn,bF,mB,hdc,hon,ho,jB,hmo,pC,hm2,hx1,e1,h1]
   ·unfold lzS at hl ⊢
    have e1:(c.f == 1)=false:=by rw [hff]; rfl
    have e2:(c.f == 2)=true:=by rw [hff]; rfl
    rw [e1,e2,aG,aE] at hl ⊢
    obtain ⟨σ1,h1,h2,h3,h4⟩:=zfw h hlL ⟨zE,0,0,c.s⟩
    refine ⟨_,_,_,Ev.of 0 fun k _=>?_,h3,h4⟩
    rw [bC (af:=bL) rfl rfl rfl]
    simp only [dI,zE] at h1
    have hone:=zA a L
    have ok1:bI k_1.sz [D.agg [.str [80,85,83,72,71],.int .i64 0,.int .i64 0,.str c.s]]=true:=rfl
    cases r with
    | none=>simp only [bL,sA,Nat.reduceAdd,Nat.reduceSub,Nat.reduceMul,Nat.reduceBEq,Nat.reduceLeDiff,Int.reduceBEq,Int.reduceBNe,Int.reduceLE,Int.reduceLT,Int.reduceGE,Int.reduceGT,Int.reduceNeg,kn,bF,mB,hdc,hon,ho,jB,hmo,pC,hm2,e1,e2,h1,h2,mL,rW]
    | some v=>simp only [bL,sA,Nat.reduceAdd,Nat.reduceSub,Nat.reduceMul,Nat.reduceBEq,Nat.reduceLeDiff,Int.reduceBEq,Int.reduceBNe,Int.reduceLE,Int.reduceLT,Int.reduceGE,Int.reduceGT,Int.reduceNeg,kn,bF,mB,hdc,hon,ho,jB,hmo,pC,hm2,e1,e2,h1,h2,mL,rW]
   ·unfold lzS at hl ⊢
    have e1:(c.f == 1)=false:=by rw [hff]; rfl
    have e2:(c.f == 2)=false:=by rw [hff]; rfl
    have e3:(c.f == 3)=true:=by rw [hff]; rfl
    rw [e1,e2,e3,aG,aG,aE] at hl ⊢
    obtain ⟨σ1,h1,h2,h3⟩:=fQ h hlL zh2 c.n
    refine ⟨_,_,_,Ev.of 1 fun k hk=>?_,h2,h3⟩
    obtain ⟨k,rfl⟩:∃ j,k=j + 1:=⟨k - 1,by omega⟩
    rw [bC (af:=bL) rfl rfl rfl]
    have h1:=h1 k
    simp only [zh2] at h1
    cases r with
    | none=>simp only [bL,sA,Nat.reduceAdd,Nat.reduceSub,Nat.reduceMul,Nat.reduceBEq,Nat.reduceLeDiff,Int.reduceBEq,Int.reduceBNe,Int.reduceLE,Int.reduceLT,Int.reduceGE,Int.reduceGT,Int.reduceNeg,kn,bF,mB,hdc,hon,ho,jB,hmo,pC,hm2,e1,e2,e3,h1]
    | some v=>simp only [bL,sA,Nat.reduceAdd,Nat.reduceSub,Nat.reduceMul,Nat.reduceBEq,Nat.reduceLeDiff,Int.reduceBEq,Int.reduceBNe,Int.reduceLE,Int.reduceLT,Int.reduceGE,Int.reduceGT,Int.reduceNeg,kn,bF,mB,hdc,hon,ho,jB,hmo,pC,hm2,e1,e2,e3,h1]
  ·unfold lzS at hl ⊢
   have e1:(c.f == 1)=false:=by rw [hff]; rfl
   have e2:(c.f == 2)=false:=by rw [hff]; rfl
   have e3:(c.f == 3)=false:=by rw [hff]; rfl
   have e4:(c.f == 4)=true:=by rw [hff]; rfl
   have k0:kid c 0=a1:=by simp [kid,hks]
   have k1:kid c 1=b1:=by simp [kid,hks]
   rw [e1,e2,e3,e4,aG,aG,aG,aE,k0,k1] at hl ⊢
   have hz1:szK c.ks=a1.size + (b1.size + 0):=by rw [hks]; rfl
   have q1:=gP n b1 M d L
   have q2:=gP n a1 M (w64 (d + 1)) (lzS n b1 M d L)
   simp only [List.length_append,List.length_cons,List.length_nil] at hl
   obtain ⟨σ1,a2,m2,⟨x1,w1⟩,c1,f1⟩:=ih b1 true (by omega) (by omega) hfb (.inl rfl) σ p a m L M d h (by omega)
   obtain ⟨σ2,a3,m3,⟨x2,w2⟩,c2,f2⟩:=ih a1 true (by omega) (by omega) hfa (.inl rfl) σ1 p a2 m2 _ M (w64 (d + 1)) c1 (by omega)
   obtain ⟨σ3,h1,h2,h3⟩:=fQ c2 (by omega) zfi 0
   refine ⟨_,_,_,Ev.of (max x1 x2 + 1) fun k hk=>?_,h2,(f1.trans f2).trans h3⟩
   obtain ⟨k,rfl⟩:∃ j,k=j + 1:=⟨k - 1,by omega⟩
   rw [bC (af:=bL) rfl rfl rfl]
   have h1:=h1 k
   have w1:=w1 (k + 1) (by omega)
   have w2:=w2 (k + 1) (by omega)
   have i0:=Da hks 0 (by simp)
   have i1:=Da hks 1 (by simp)
   simp only [List.getElem_cons_zero,List.getElem_cons_succ] at i0 i1
   have g0:=agg?_dCo a1
   have g1:=agg?_dCo b1
   have l0:=xQ a1
   have l1:=xQ b1
   simp only [zfi] at h1
   simp only [w64] at w2
   cases r with
   | none=>simp only [bL,sA,Nat.reduceAdd,Nat.reduceSub,Nat.reduceMul,Nat.reduceBEq,Nat.reduceLeDiff,Int.reduceBEq,Int.reduceBNe,Int.reduceLE,Int.reduceLT,Int.reduceGE,Int.reduceGT,Int.reduceNeg,kn,bF,mB,hdc,hon,ho,jB,hmo,pC,hm2,e1,e2,e3,e4,i0,i1,g0,g1,l0,l1,w1,w2,h1]
   | some v=>simp only [bL,sA,Nat.reduceAdd,Nat.reduceSub,Nat.reduceMul,Nat.reduceBEq,Nat.reduceLeDiff,Int.reduceBEq,Int.reduceBNe,Int.reduceLE,Int.reduceLT,Int.reduceGE,Int.reduceGT,Int.reduceNeg,kn,bF,mB,hdc,hon,ho,jB,hmo,pC,hm2,e1,e2,e3,e4,i0,i1,g0,g1,l0,l1,w1,w2,h1]
  ·have hzt:z=true:=by
    rcases hz with hz | hz | hz | hz | hz
    ·exact hz
    all_goals omega
   subst hzt
   unfold lzS at hl ⊢
   have e1:(c.f == 1)=false:=by rw [hff]; rfl
   have e2:(c.f == 2)=false:=by rw [hff]; rfl
   have e3:(c.f == 3)=false:=by rw [hff]; rfl
   have e4:(c.f == 4)=false:=by rw [hff]; rfl
   have k0:kid c 0=b1:=by simp [kid,hks]
   rw [e1,e2,e3,e4,aG,aG,aG,aG] at hl ⊢
   have hz1:szK c.ks=b1.size + 0:=by rw [hks]; rfl
   have hbl:=lY c.bs
   have hml:=Ae (lz:=lzS n) (go:=lzS n) c (fun b _=>gP n b.2) (gP n (kid c 0)) M d L
   simp only [List.length_append,List.length_cons,List.length_nil] at hl
   obtain ⟨σ1,a2,m2,⟨x1,w1⟩,c1,f1⟩:=zaf (d:=d) (M:=M) (lz:=lzS n) (go:=lzS n) (g:=pZ) hks (by omega) (fun b hb=>by
    have:=oY c.bs b hb
    exact ih b.2 true (by omega) (by omega) (hbs b hb) (.inl rfl)) (fun b _=>gP n b.2) rfl (ih b1 true (by omega) (by omega) hfb (.inl rfl)) (gP n b1) h (by omega)
   obtain ⟨σ3,h1,h2,h3⟩:=fQ c1 (by omega) qC c.bs.length
   refine ⟨_,_,_,Ev.of (x1 + 1) fun k hk=>?_,h2,f1.trans h3⟩
   obtain ⟨k,rfl⟩:∃ j,k=j + 1:=⟨k - 1,by omega⟩
   rw [bC (af:=bL) rfl rfl rfl]
   have h1:=h1 k
   have w1:=w1 (k + 1) (by omega)
   have hln:=Vp c
   simp only [qC] at h1
   rw [hdc] at w1
   simp only [jV] at w1
   cases r with
   | none=>simp only [bL,sA,Nat.reduceAdd,Nat.reduceSub,Nat.reduceMul,Nat.reduceBEq,Nat.reduceLeDiff,Int.reduceBEq,Int.reduceBNe,Int.reduceLE,Int.reduceLT,Int.reduceGE,Int.reduceGT,Int.reduceNeg,kn,bF,mB,hdc,hon,ho,jB,hmo,pC,hm2,e1,e2,e3,e4,w1,hln,h1]
   | some v=>simp only [bL,sA,Nat.reduceAdd,Nat.reduceSub,Nat.reduceMul,Nat.reduceBEq,Nat.reduceLeDiff,Int.reduceBEq,Int.reduceBNe,Int.reduceLE,Int.reduceLT,Int.reduceGE,Int.reduceGT,Int.reduceNeg,kn,bF,mB,hdc,hon,ho,jB,hmo,pC,hm2,e1,e2,e3,e4,w1,hln,h1]
  ·rcases hz with hz | hz | hz | hz | hz
   ·cases hz
   all_goals rcases hff with hff | ⟨hff,_⟩ | ⟨hff,_⟩ <;> omega
end
end Go.Fu
