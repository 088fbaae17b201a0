/-
 The code of lazy places.
-/
import Derived.Test.YtldfbnbckiifeaaGreatDoorFgDg
set_option maxHeartbeats 4000000
set_option linter.unusedSimpArgs false
set_option linter.unusedVariables false
set_option linter.unusedSectionVars false
namespace Go.Fu
open Go Go.Mx
set_option maxRecDepth 10000
set_option maxHeartbeats 4000000
theorem Eb {lz go:Co→At→Int→List In→List In} (c:Co) (h1:∀ b∈c.bs,qQ (lz b.2)) (h2:qQ (go (kid c 0))):qQ (Bn lz go c):=fun M d L=>by
 have m1:=h2 (fE M (nms c) d 0) (w64 (d + c.bs.length)) (sK (fun b L=>lz b (fE M (nms c) d 0) (w64 (d + c.bs.length)) L) c.bs.length c.bs 0 (L ++ [op1 rH c.bs.length]))
 have m2:=Du c.bs.length c.bs 0 (L ++ [op1 rH c.bs.length]) (lz:=fun b L=>lz b (fE M (nms c) d 0) (w64 (d + c.bs.length)) L) fun x hx L=>h1 x hx _ _ _
 simp only [aF,aG,aH] at m2
 unfold Bn
 omega
theorem kM:∀ (n:Nat) (c:Co),qQ (lzS n c)
 | 0,c=>fun M d L=>aM _
 | n + 1,c=>fun M d L=>by
  have h1:=Eb (lz:=lzS n) (go:=lzS n) c (fun b _=>kM n b.2) (kM n (kid c 0)) M d L
  have h2:=kM n (kid c 1) M d L
  have h3:=kM n (kid c 0) M (w64 (d + 1)) (lzS n (kid c 1) M d L)
  unfold lzS
  cases c.f == 1 <;> cases c.f == 2 <;> cases c.f == 3 <;> cases c.f == 4 <;> cases M c.s <;> simp only [dJ,dH,fR,dK,aF,aG,aH] <;> omega
theorem Vr {B:Nat} {z:Bool} {c:Co} (h:Fl B z c):(c.f=1∨c.f=2∨c.f=3)∨(c.f=4∧∃ a b,c.ks=[a,b]∧Fl B true a∧Fl B true b)∨(c.f=8∧∃ b,c.ks=[b]∧Fl B z b∧∀ p∈c.bs,Fl B true p.2) ∨
  (z=false∧(c.f=11∨(c.f=10∧∃ a b,c.ks=[a,b]∧Fl B false a∧Fl B false b)∨(c.f=9∧∃ x,c.ks=[x]∧Fl B false x∧∀ a∈c.al,Fl B false a.2))):=by
 cases h with
 | leaf h1=>exact .inl h1
 | app _ h1 h2=>exact .inr (.inl ⟨rfl,_,_,rfl,h1,h2⟩)
 | lt _ _ h1 h2=>exact .inr (.inr (.inl ⟨rfl,_,rfl,h2,h1⟩))
 | fail=>exact .inr (.inr (.inr ⟨rfl,.inl rfl⟩))
 | prim _ h1 h2=>exact .inr (.inr (.inr ⟨rfl,.inr (.inl ⟨rfl,_,_,rfl,h1,h2⟩)⟩))
 | cas _ _ h1 h2=>exact .inr (.inr (.inr ⟨rfl,.inr (.inr ⟨rfl,_,rfl,h1,h2⟩)⟩))
theorem jZ {σ:Store} {p a m:Nat} {L:List In} {M:At} (h:CS σ p a m L M) (hl:L.length < 1000000000) (op:Tx) (x:Int):∃ σ',(∀ n,W SD (n + 1) n_6 [.ptr p 0,.str op,.int .i64 x] σ=some (.ret ⟨false,.tup []⟩,σ'))∧CS σ' p σ.next m (L ++ [op1 op x]) M∧Frm p a m σ.next m σ σ':=by
 obtain ⟨σ',h1,h2,h3,h4⟩:=Am (S:=SD) rfl h.ca hl op x
 exact ⟨σ',h1,⟨h2,by rw [h4]; exact h.map,by have:=(h3 m).nx; have:=h.mn; omega⟩,h3 m⟩
theorem zid {σ:Store} {p a m:Nat} {L:List In} {M:At} (h:CS σ p a m L M) (hl:L.length < 1000000000) (x:In):∃ σ1,eV σ k_1 48 (nT a L) [dI x]=some (.arr k_1 σ.next 0 (L.length + 1),σ1)∧dE σ1.objs p=some [⟨false,nT a L⟩,⟨false,.map m⟩] ∧
  CS (SO σ1 p [⟨false,.arr k_1 σ.next 0 (L.length + 1)⟩,⟨false,.map m⟩]) p σ.next m (L ++ [x]) M∧Frm p a m σ.next m σ (SO σ1 p [⟨false,.arr k_1 σ.next 0 (L.length + 1)⟩,⟨false,.map m⟩]):=by
 obtain ⟨σ1,h1,h2,h3,h4,h5,h6,_⟩:=h.ca.app x hl
 refine ⟨σ1,h1,h2,⟨h3,?_,by have:=(h4 m).nx; have:=h.mn; omega⟩,h4 m⟩
 rw [xT,h5]
 exact h.map
section
variable {B:Nat}
def kD (c:Co):D:=eJ k_2 (c.ks.map dCo)
def bD (c:Co):D:=eJ k_3 (c.bs.map dB)
def aD (c:Co):D:=eJ k_4 (c.al.map dA)
theorem fJ (c:Co):dCo c=.agg [.int .i64 c.f,.int .i64 c.n,.str c.s,.int .i64 0,.int .i64 0,.str [],.nils,kD c,bD c,aD c]:=fC c
theorem jO (c:Co):(kD c).one=true∧(bD c).one=true∧(aD c).one=true:=⟨fM,fM,fM⟩
theorem Gn {c:Co} {l:List Co} (h:c.ks=l) (i:Nat) (hi:i < l.length):iD 10 (kD c) i=some (.eptr (dCo l[i])):=by
 unfold kD
 subst h
 exact mL rfl dCo _ i hi
theorem Yz (c:Co):lenOf (bD c)=some c.bs.length:=mM _ _
theorem zjk (c:Co):lenOf (aD c)=some c.al.length:=mM _ _
theorem Jj:∀ (n:Nat) (c:Co) (z:Bool),c.size≤n→c.size < 100000000→Fl B z c→(z=true∨c.f=1∨c.f=2∨c.f=3∨c.f=4)→Okf sT c (lzS n c):=by
 intro n
 induction n with
 | zero=>intro c z h; have:=kO c; omega
 | succ n ih =>
  intro c z hn hsz hf hz σ p a m L M d h hl
  have hse:=iV c
  have hdc:=fJ c
  have hon:=jO c
  obtain ⟨es,ck,r,hm1,hm2,hm3⟩:=h.look c.s
  have hmo:=zjw hm1
  have ho:=h.ca.obj
  have hlL:L.length < 1000000000:=by have:=kM (n + 1) c M d L; omega
  rcases Vr hf with hff | ⟨hff,a1,b1,hks,hfa,hfb⟩ | ⟨hff,b1,hks,hfb,hbs⟩ | ⟨rfl,hff⟩
  ·rcases hff with hff | hff | hff
   ·unfold lzS at hl ⊢
    have e1:(c.f == 1)=true:=by rw [hff]; rfl
    rw [e1,dJ] at hl ⊢
    cases r with
    | none =>
     have hM:M c.s=none:=hm3
     rw [hM,fR] at hl ⊢
     obtain ⟨σ1,h1,h2,h3,h4⟩:=zid h hlL ⟨Cm,0,0,c.s⟩
     refine ⟨_,_,_,Ev.of 0 fun k _=>?_,h3,h4⟩
     rw [eH (af:=eO) rfl rfl rfl]
     simp only [dI,Cm] at h1
     have hone:=Cf a L
     have ok1:eM k_1.sz [D.agg [.str [80,85,83,72,71],.int .i64 0,.int .i64 0,.str c.s]]=true:=rfl
     simp only [eO,sA,Nat.reduceAdd,Nat.reduceSub,Nat.reduceMul,Nat.reduceBEq,Nat.reduceLeDiff,Int.reduceBEq,Int.reduceBNe,Int.reduceLE,Int.reduceLT,Int.reduceGE,Int.reduceGT,Int.reduceNeg,kn,eI,mB,hdc,hon,ho,lX,hmo,rR,hm2,e1,h1,h2,pN,uS]
    | some v =>
     obtain ⟨x,hx1,hx2⟩:=hm3
     rw [hx2,dK] at hl ⊢
     obtain ⟨σ1,h1,h2,h3⟩:=jZ h hlL zao (w64 (w64 (d - 1) - x))
     refine ⟨_,_,_,Ev.of 1 fun k hk=>?_,h2,h3⟩
     obtain ⟨k,rfl⟩:∃ j,k=j + 1:=⟨k - 1,by omega⟩
     rw [eH (af:=eO) rfl rfl rfl]
     have h1:=h1 k
     simp only [w64,zao] at h1
     simp only [eO,sA,Nat.reduceAdd,Nat.reduceSub,Nat.reduceMul,Nat.reduceBEq,Nat.reduceLeDiff,Int.reduceBEq,Int.reduceBNe,Int.reduceLE,Int.reduceLT,Int.reduceGE,Int.reduceGT,Int.reduceNeg,kn,eI,mB,hdc,hon,ho,lX,hmo,rR,hm2,hx1,e1,h1]
   ·unfold lzS at hl ⊢
    have e1:(c.f == 1)=false:=by rw [hff]; rfl
    have e2:(c.f == 2)=true:=by rw [hff]; rfl
    rw [e1,e2,dH,dJ] at hl ⊢
    obtain ⟨σ1,h1,h2,h3,h4⟩:=zid h hlL ⟨Cm,0,0,c.s⟩
    refine ⟨_,_,_,Ev.of 0 fun k _=>?_,h3,h4⟩
    rw [eH (af:=eO) rfl rfl rfl]
    simp only [dI,Cm] at h1
    have hone:=Cf a L
    have ok1:eM k_1.sz [D.agg [.str [80,85,83,72,71],.int .i64 0,.int .i64 0,.str c.s]]=true:=rfl
    cases r with
    | none=>simp only [eO,sA,Nat.reduceAdd,Nat.reduceSub,Nat.reduceMul,Nat.reduceBEq,Nat.reduceLeDiff,Int.reduceBEq,Int.reduceBNe,Int.reduceLE,Int.reduceLT,Int.reduceGE,Int.reduceGT,Int.reduceNeg,kn,eI,mB,hdc,hon,ho,lX,hmo,rR,hm2,e1,e2,h1,h2,pN,uS]
    | some v=>simp only [eO,sA,Nat.reduceAdd,Nat.reduceSub,Nat.reduceMul,Nat.reduceBEq,Nat.reduceLeDiff,Int.reduceBEq,Int.reduceBNe,Int.reduceLE,Int.reduceLT,Int.reduceGE,Int.reduceGT,Int.reduceNeg,kn,eI,mB,hdc,hon,ho,lX,hmo,rR,hm2,e1,e2,h1,h2,pN,uS]
   ·unfold lzS at hl ⊢
    have e1:(c.f == 1)=false:=by rw [hff]; rfl
    have e2:(c.f == 2)=false:=by rw [hff]; rfl
    have e3:(c.f == 3)=true:=by rw [hff]; rfl
    rw [e1,e2,e3,dH,dH,dJ] at hl ⊢
    obtain ⟨σ1,h1,h2,h3⟩:=jZ h hlL zkq c.n
    refine ⟨_,_,_,Ev.of 1 fun k hk=>?_,h2,h3⟩
    obtain ⟨k,rfl⟩:∃ j,k=j + 1:=⟨k - 1,by omega⟩
    rw [eH (af:=eO) rfl rfl rfl]
    have h1:=h1 k
    simp only [zkq] at h1
    cases r with
    | none=>simp only [eO,sA,Nat.reduceAdd,Nat.reduceSub,Nat.reduceMul,Nat.reduceBEq,Nat.reduceLeDiff,Int.reduceBEq,Int.reduceBNe,Int.reduceLE,Int.reduceLT,Int.reduceGE,Int.reduceGT,Int.reduceNeg,kn,eI,mB,hdc,hon,ho,lX,hmo,rR,hm2,e1,e2,e3,h1]
    | some v=>simp only [eO,sA,Nat.reduceAdd,Nat.reduceSub,Nat.reduceMul,Nat.reduceBEq,Nat.reduceLeDiff,Int.reduceBEq,Int.reduceBNe,Int.reduceLE,Int.reduceLT,Int.reduceGE,Int.reduceGT,Int.reduceNeg,kn,eI,mB,hdc,hon,ho,lX,hmo,rR,hm2,e1,e2,e3,h1]
  ·unfold lzS at hl ⊢
   have e1:(c.f == 1)=false:=by rw [hff]; rfl
   have e2:(c.f == 2)=false:=by rw [hff]; rfl
   have e3:(c.f == 3)=false:=by rw [hff]; rfl
   have e4:(c.f == 4)=true:=by rw [hff]; rfl
   have k0:kid c 0=a1:=by simp [kid,hks]
   have k1:kid c 1=b1:=by simp [kid,hks]
   rw [e1,e2,e3,e4,dH,dH,dH,dJ,k0,k1] at hl ⊢
   have hz1:szK c.ks=a1.size + (b1.size + 0):=by rw [hks]; rfl
   have q1:=kM n b1 M d L
   have q2:=kM n a1 M (w64 (d + 1)) (lzS n b1 M d L)
   simp only [aF,aG,aH] at hl
   obtain ⟨σ1,a2,m2,⟨x1,w1⟩,c1,f1⟩:=ih b1 true (by omega) (by omega) hfb (.inl rfl) σ p a m L M d h (by omega)
   obtain ⟨σ2,a3,m3,⟨x2,w2⟩,c2,f2⟩:=ih a1 true (by omega) (by omega) hfa (.inl rfl) σ1 p a2 m2 _ M (w64 (d + 1)) c1 (by omega)
   obtain ⟨σ3,h1,h2,h3⟩:=jZ c2 (by omega) zhy 0
   refine ⟨_,_,_,Ev.of (max x1 x2 + 1) fun k hk=>?_,h2,(f1.trans f2).trans h3⟩
   obtain ⟨k,rfl⟩:∃ j,k=j + 1:=⟨k - 1,by omega⟩
   rw [eH (af:=eO) rfl rfl rfl]
   have h1:=h1 k
   have w1:=w1 (k + 1) (by omega)
   have w2:=w2 (k + 1) (by omega)
   have i0:=Gn hks 0 (by simp)
   have i1:=Gn hks 1 (by simp)
   simp only [List.getElem_cons_zero,List.getElem_cons_succ] at i0 i1
   have g0:=agg?_dCo a1
   have g1:=agg?_dCo b1
   have l0:=Ak a1
   have l1:=Ak b1
   simp only [zhy] at h1
   simp only [w64] at w2
   cases r with
   | none=>simp only [eO,sA,Nat.reduceAdd,Nat.reduceSub,Nat.reduceMul,Nat.reduceBEq,Nat.reduceLeDiff,Int.reduceBEq,Int.reduceBNe,Int.reduceLE,Int.reduceLT,Int.reduceGE,Int.reduceGT,Int.reduceNeg,kn,eI,mB,hdc,hon,ho,lX,hmo,rR,hm2,e1,e2,e3,e4,i0,i1,g0,g1,l0,l1,w1,w2,h1]
   | some v=>simp only [eO,sA,Nat.reduceAdd,Nat.reduceSub,Nat.reduceMul,Nat.reduceBEq,Nat.reduceLeDiff,Int.reduceBEq,Int.reduceBNe,Int.reduceLE,Int.reduceLT,Int.reduceGE,Int.reduceGT,Int.reduceNeg,kn,eI,mB,hdc,hon,ho,lX,hmo,rR,hm2,e1,e2,e3,e4,i0,i1,g0,g1,l0,l1,w1,w2,h1]
  ·have hzt:z=true:=by
    rcases hz with hz | hz | hz | hz | hz
    ·exact hz
    all_goals omega
   subst hzt
   unfold lzS at hl ⊢
   have e1:(c.f == 1)=false:=by rw [hff]; rfl
   have e2:(c.f == 2)=false:=by rw [hff]; rfl
   have e3:(c.f == 3)=false:=by rw [hff]; rfl
   have e4:(c.f == 4)=false:=by rw [hff]; rfl
   have k0:kid c 0=b1:=by simp [kid,hks]
   rw [e1,e2,e3,e4,dH,dH,dH,dH] at hl ⊢
   have hz1:szK c.ks=b1.size + 0:=by rw [hks]; rfl
   have hbl:=mW c.bs
   have hml:=Eb (lz:=lzS n) (go:=lzS n) c (fun b _=>kM n b.2) (kM n (kid c 0)) M d L
   simp only [aF,aG,aH] at hl
   obtain ⟨σ1,a2,m2,⟨x1,w1⟩,c1,f1⟩:=zcq (d:=d) (M:=M) (lz:=lzS n) (go:=lzS n) (g:=sT) hks (by omega) (fun b hb=>by
    have:=qK c.bs b hb
    exact ih b.2 true (by omega) (by omega) (hbs b hb) (.inl rfl)) (fun b _=>kM n b.2) rfl (ih b1 true (by omega) (by omega) hfb (.inl rfl)) (kM n b1) h (by omega)
   obtain ⟨σ3,h1,h2,h3⟩:=jZ c1 (by omega) sW c.bs.length
   refine ⟨_,_,_,Ev.of (x1 + 1) fun k hk=>?_,h2,f1.trans h3⟩
   obtain ⟨k,rfl⟩:∃ j,k=j + 1:=⟨k - 1,by omega⟩
   rw [eH (af:=eO) rfl rfl rfl]
   have h1:=h1 k
   have w1:=w1 (k + 1) (by omega)
   have hln:=Yz c
   simp only [sW] at h1
   rw [hdc] at w1
   simp only [mT] at w1
   cases r with
   | none=>simp only [eO,sA,Nat.reduceAdd,Nat.reduceSub,Nat.reduceMul,Nat.reduceBEq,Nat.reduceLeDiff,Int.reduceBEq,Int.reduceBNe,Int.reduceLE,Int.reduceLT,Int.reduceGE,Int.reduceGT,Int.reduceNeg,kn,eI,mB,hdc,hon,ho,lX,hmo,rR,hm2,e1,e2,e3,e4,w1,hln,h1]
   | some v=>simp only [eO,sA,Nat.reduceAdd,Nat.reduceSub,Nat.reduceMul,Nat.reduceBEq,Nat.reduceLeDiff,Int.reduceBEq,Int.reduceBNe,Int.reduceLE,Int.reduceLT,Int.reduceGE,Int.reduceGT,Int.reduceNeg,kn,eI,mB,hdc,hon,ho,lX,hmo,rR,hm2,e1,e2,e3,e4,w1,hln,h1]
  ·rcases hz with hz | hz | hz | hz | hz
   ·cases hz
   all_goals rcases hff with hff | ⟨hff,_⟩ | ⟨hff,_⟩ <;> omega
end
end Go.Fu
