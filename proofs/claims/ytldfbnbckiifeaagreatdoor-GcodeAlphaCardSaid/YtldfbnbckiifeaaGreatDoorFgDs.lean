/-
 The code of tails; of a combinator.
-/
import Derived.Test.YtldfbnbckiifeaaGreatDoorFgDp
import Derived.Test.YtldfbnbckiifeaaGreatDoorFgDc
import Derived.Test.YtldfbnbckiifeaaGreatDoorFgO
set_option maxHeartbeats 4000000
set_option linter.unusedSimpArgs false
set_option linter.unusedVariables false
set_option linter.unusedSectionVars false
namespace Go.Fu
open Go Go.Mx
set_option maxRecDepth 10000
set_option maxHeartbeats 4000000
theorem Tt (d:Int) (L:List In):(tlE d L).length=L.length + 3:=by
 unfold tlE
 simp only [aF,aG,aH]
theorem Df:∀ (n:Nat) (c:Co),qQ (tlS n c)
 | 0,c=>fun M d L=>aM _
 | n + 1,c=>fun M d L=>by
  have h1:=Eb (lz:=fun b=>lzS b.size b) (go:=tlS n) c (fun b _=>kM _ b.2) (Df n (kid c 0)) M d L
  have h2:=nR n (kid c 0) M d L
  have h4:=xX false M d c.al (stS n (kid c 0) M d L,[]) (fun a _=>Df n a.2)
  have h5:=Ea false (iZ false (tlS n) M d c.al (stS n (kid c 0) M d L,[])).2 (iZ false (tlS n) M d c.al (stS n (kid c 0) M d L,[])).1.1
  have h6:=kM c.size c M d L
  have h7:=nR (n + 1) c M d L
  have h8:=Tt d (stS (n + 1) c M d L)
  have h9:=Tt d (lzS c.size c M d L)
  simp only at h4
  unfold tlS
  cases c.f == 8 <;> cases c.f == 10 <;> cases c.f == 11 <;> cases c.f == 9 <;> simp only [dJ,dH,aF,aG,aH] <;> omega
theorem zk6 {σ:Store} {p a m:Nat} {L:List In} {M:At} (h:CS σ p a m L M) (hl:L.length < 100000000) (d:Int):∃ σ1 σ2 σ3,(∀ n,W SD (n + 1) n_6 [.ptr p 0,.str nI,.int .i64 d] σ=some (.ret ⟨false,.tup []⟩,σ1))∧(∀ n,W SD (n + 1) n_6 [.ptr p 0,.str uO,.int .i64 d] σ1=some (.ret ⟨false,.tup []⟩,σ2)) ∧
  (∀ n,W SD (n + 1) n_6 [.ptr p 0,.str Ap,.int .i64 0] σ2=some (.ret ⟨false,.tup []⟩,σ3))∧∃ a1 a3,Frm p a m a1 m σ σ1∧(∃ a2,Frm p a m a2 m σ σ2)∧CS σ3 p a3 m (tlE d L) M∧Frm p a m a3 m σ σ3:=by
 obtain ⟨σ1,h1,c1,f1⟩:=jZ h (by omega) nI d
 obtain ⟨σ2,h2,c2,f2⟩:=jZ c1 (by simp; omega) uO d
 obtain ⟨σ3,h3,c3,f3⟩:=jZ c2 (by simp; omega) Ap 0
 exact ⟨σ1,σ2,σ3,h1,h2,h3,_,_,f1,⟨_,f1.trans f2⟩,c3,(f1.trans f2).trans f3⟩
theorem zy7 {B:Nat}:∀ (n:Nat) (c:Co),c.size≤n→c.size < 40000000→Fl B false c→Okf Wj c (tlS n c):=by
 intro n
 induction n with
 | zero=>intro c h; have:=kO c; omega
 | succ n ih =>
  intro c hn hsz hf σ p a m L M d h hl
  have hp:=h.ca.pn
  have ha:=h.ca.an
  have hse:=iV c
  have hdc:=fJ c
  have hon:=jO c
  have hlL:L.length < 100000000:=by have:=Df (n + 1) c M d L; omega
  obtain ⟨σ1,e1⟩:∃ σ1,σ1=GA σ xG [⟨false,.ptr p 0⟩]:=⟨_,rfl⟩
  have n1:σ1.next=σ.next + 1:=by rw [e1,fW]
  have fA:FrA σ σ1:=by rw [e1]; exact FrA.ga
  have h1:=h.fa fA
  have x1:dE σ1.objs σ.next=some [⟨false,.ptr p 0⟩]:=by rw [e1,iN]
  have hbx:Bx σ1 p a [(σ.next,[⟨false,.ptr p 0⟩])]:=fun q hq=>by
   rw [bO] at hq
   subst hq
   exact ⟨x1,by show σ.next < _; omega,by show σ.next≠p; omega,by show σ.next≠a; omega⟩
  have plain:(c.f=1∨c.f=2∨c.f=3∨c.f=4)→Nc Wj [.ptr p 0,dCo c,.int .i64 d] σ p a m (tlS (n + 1) c M d L) M:=fun hff=>by
   have e8:(c.f == 8)=false:=beq_false_of_ne (by omega)
   have e10:(c.f == 10)=false:=beq_false_of_ne (by omega)
   have e11:(c.f == 11)=false:=beq_false_of_ne (by omega)
   have e9:(c.f == 9)=false:=beq_false_of_ne (by omega)
   unfold tlS at hl ⊢
   rw [e8,e10,e11,e9,dH,dH,dH,dH] at hl ⊢
   rw [Tt] at hl
   obtain ⟨σ2,a2,m2,⟨k2,w2⟩,c2,f2⟩:=Jj c.size c false (aM _) (by omega) hf (.inr hff) σ1 p a m L M d h1 (by omega)
   obtain ⟨σ3,σ4,σ5,w3,w4,w5,a3,a5,f3,⟨a4,f4⟩,c5,f5⟩:=zk6 c2 (by omega) d
   refine ⟨σ5,_,_,Ev.of (k2 + 1) fun k hk=>?_,c5,fA.to (f2.trans f5)⟩
   obtain ⟨k,rfl⟩:∃ j,k=j + 1:=⟨k - 1,by omega⟩
   rw [eH (af:=yR) rfl rfl rfl]
   have w2:=w2 (k + 1) (by omega)
   have w3:=w3 k
   have w4:=w4 k
   have w5:=w5 k
   have b2:=hbx.keep f2
   have x2:=(b2 _ (bO.2 rfl)).1
   have x3:=(b2.keep f3 _ (bO.2 rfl)).1
   have x4:=(b2.keep f4 _ (bO.2 rfl)).1
   rw [hdc] at w2
   simp only [nI] at w3
   simp only [uO] at w4
   simp only [Ap] at w5
   simp only [yR,sA,Nat.reduceAdd,Nat.reduceSub,Nat.reduceMul,Nat.reduceBEq,Nat.reduceLeDiff,Int.reduceBEq,Int.reduceBNe,Int.reduceLE,Int.reduceLT,Int.reduceGE,Int.reduceGT,Int.reduceNeg,kn,eI,mB,hdc,hon,← e1,e8,e10,e11,e9,x1,w2,x2,w3,x3,w4,x4,w5]
  rcases Vr hf with hff | ⟨hff,_⟩ | ⟨hff,b1,hks,hfb,hbs⟩ | ⟨_,hff | ⟨hff,a1,b1,hks,hfa,hfb⟩ | ⟨hff,x,hks,hfx,hal⟩⟩
  ·exact plain (by omega)
  ·exact plain (by omega)
  ·have e8:(c.f == 8)=true:=by rw [hff]; rfl
   have hz1:szK c.ks=b1.size + 0:=by rw [hks]; rfl
   have hbl:=mW c.bs
   unfold tlS at hl ⊢
   rw [e8,dJ] at hl ⊢
   obtain ⟨σ2,a2,m2,⟨k2,w2⟩,c2,f2⟩:=zcq (d:=d) (M:=M) (lz:=fun b=>lzS b.size b) (go:=tlS n) (g:=Wj) hks (by omega) (fun b hb=>by
    have:=qK c.bs b hb
    exact Jj _ b.2 true (aM _) (by omega) (hbs b hb) (.inl rfl)) (fun b _=>kM _ b.2) rfl (ih b1 (by omega) (by omega) hfb) (Df n b1) h1 (by omega)
   refine ⟨σ2,_,_,Ev.of k2 fun k hk=>?_,c2,fA.to f2⟩
   rw [eH (af:=yR) rfl rfl rfl]
   have w2:=w2 k (by omega)
   rw [hdc] at w2
   simp only [mT] at w2
   simp only [yR,sA,Nat.reduceAdd,Nat.reduceSub,Nat.reduceMul,Nat.reduceBEq,Nat.reduceLeDiff,Int.reduceBEq,Int.reduceBNe,Int.reduceLE,Int.reduceLT,Int.reduceGE,Int.reduceGT,Int.reduceNeg,kn,eI,mB,hdc,hon,← e1,e8,x1,w2]
  ·have e8:(c.f == 8)=false:=by rw [hff]; rfl
   have e11:(c.f == 11)=true:=by rw [hff]; rfl
   unfold tlS at hl ⊢
   rw [e8,e11,dH,dJ] at hl ⊢
   obtain ⟨σ3,w3,c3,f3⟩:=jZ h1 (by omega) rA 0
   refine ⟨σ3,_,_,Ev.of 1 fun k hk=>?_,c3,fA.to f3⟩
   obtain ⟨k,rfl⟩:∃ j,k=j + 1:=⟨k - 1,by omega⟩
   rw [eH (af:=yR) rfl rfl rfl]
   have w3:=w3 k
   simp only [rA] at w3
   simp only [yR,sA,Nat.reduceAdd,Nat.reduceSub,Nat.reduceMul,Nat.reduceBEq,Nat.reduceLeDiff,Int.reduceBEq,Int.reduceBNe,Int.reduceLE,Int.reduceLT,Int.reduceGE,Int.reduceGT,Int.reduceNeg,kn,eI,mB,hdc,hon,← e1,e8,e11,x1,w3]
  ·have e8:(c.f == 8)=false:=by rw [hff]; rfl
   have e10:(c.f == 10)=true:=by rw [hff]; rfl
   have e11:(c.f == 11)=false:=by rw [hff]; rfl
   have e9:(c.f == 9)=false:=by rw [hff]; rfl
   unfold tlS at hl ⊢
   rw [e8,e11,e9,e10,dH,dH,dH,dJ] at hl ⊢
   rw [Tt] at hl
   obtain ⟨σ2,a2,m2,⟨k2,w2⟩,c2,f2⟩:=za2 (n + 1) c hn hsz hf σ1 p a m L M d h1 (by omega)
   obtain ⟨σ3,σ4,σ5,w3,w4,w5,a3,a5,f3,⟨a4,f4⟩,c5,f5⟩:=zk6 c2 (by omega) d
   refine ⟨σ5,_,_,Ev.of (k2 + 1) fun k hk=>?_,c5,fA.to (f2.trans f5)⟩
   obtain ⟨k,rfl⟩:∃ j,k=j + 1:=⟨k - 1,by omega⟩
   rw [eH (af:=yR) rfl rfl rfl]
   have w2:=w2 (k + 1) (by omega)
   have w3:=w3 k
   have w4:=w4 k
   have w5:=w5 k
   have b2:=hbx.keep f2
   have x2:=(b2 _ (bO.2 rfl)).1
   have x3:=(b2.keep f3 _ (bO.2 rfl)).1
   have x4:=(b2.keep f4 _ (bO.2 rfl)).1
   rw [hdc] at w2
   simp only [nI] at w3
   simp only [uO] at w4
   simp only [Ap] at w5
   simp only [yR,sA,Nat.reduceAdd,Nat.reduceSub,Nat.reduceMul,Nat.reduceBEq,Nat.reduceLeDiff,Int.reduceBEq,Int.reduceBNe,Int.reduceLE,Int.reduceLT,Int.reduceGE,Int.reduceGT,Int.reduceNeg,kn,eI,mB,hdc,hon,← e1,e8,e10,e11,e9,x1,w2,x2,w3,x3,w4,x4,w5]
  ·have e8:(c.f == 8)=false:=by rw [hff]; rfl
   have e11:(c.f == 11)=false:=by rw [hff]; rfl
   have e9:(c.f == 9)=true:=by rw [hff]; rfl
   have k0:kid c 0=x:=by simp [kid,hks]
   unfold tlS at hl ⊢
   rw [e8,e11,e9,dH,dH,dJ,k0] at hl ⊢
   have hz1:szK c.ks=x.size + 0:=by rw [hks]; rfl
   have hala:=oK c.al
   have hxb:BxV σ1 (VX false p σ.next a σ.next) [(σ.next,[⟨false,.ptr p 0⟩])]:=fun q hq=>by
    rw [bO] at hq
    subst hq
    exact ⟨x1,by show σ.next < _; omega,fun e=>by rcases e with e | e | ⟨e,_⟩ <;> first | (cases e; done) | (simp only at e; omega)⟩
   obtain ⟨σ3,a3,m3,ea3,es3,⟨k3,w3⟩,c3,k3',q3,f3⟩:=Dv' false (body:=tlS n) (g:=Wj) rfl c (by omega) (fun a ha=>by
     have:=lU c.al a ha
     exact ih a.2 (by omega) (by omega) (hal a ha)) (fun a _=>Df n a.2) (zny (by omega)) hks (za2 n x (by omega) (by omega) hfx) h1 ⟨fun e=>(by cases e),fun _=>rfl⟩ hxb hl
   have hfv:FrV (VX true p σ.next a σ.next) (VX true p σ.next a3 σ.next) m m3 σ1 σ3:=⟨f3.nx,fun j h1 h2=>f3.ob j h1 fun e=>h2 (by rcases e with e | e | ⟨e,_⟩ <;> first | (cases e; done) | exact .inl e | exact .inr (.inl e)),f3.ty,f3.ot,fun j hj=>by
    rcases hj with e | e | ⟨_,e⟩
    ·exact .inl (.inl e)
    ·rcases f3.fv j (.inr (.inl e)) with (e | e | ⟨e,_⟩) | e
     ·exact .inl (.inl e)
     ·exact .inl (.inr (.inl e))
     ·cases e
     ·exact .inr e
    ·exact .inl (.inr (.inr ⟨rfl,e⟩)),f3.fm⟩
   refine ⟨σ3,_,_,Ev.of k3 fun k hk=>?_,c3,hfv.frm fA c3.ca.pa ⟨aM _,aM _⟩⟩
   rw [eH (af:=yR) rfl rfl rfl]
   have w3:=w3 k (by omega)
   rw [hdc] at w3
   simp only [mT,oL,zcf,dH] at w3
   simp only [yR,sA,Nat.reduceAdd,Nat.reduceSub,Nat.reduceMul,Nat.reduceBEq,Nat.reduceLeDiff,Int.reduceBEq,Int.reduceBNe,Int.reduceLE,Int.reduceLT,Int.reduceGE,Int.reduceGT,Int.reduceNeg,kn,eI,mB,hdc,hon,← e1,e8,e11,e9,x1,w3]
end Go.Fu
namespace Go.Fu
open Go Go.Mx
set_option maxRecDepth 10000
set_option maxHeartbeats 4000000
theorem zt1 {B:Nat} (u:Su) (hf:Fl B false u.body) (hsz:u.body.size < 40000000) {σ:Store} {p a m:Nat} {L:List In} {M:At} (h:CS σ p a m L M) {xb sb ob:Nat} {own:D} {k:Nat} (hown:lenOf own=some k) (h1:own.one=true)
  (hb:Bx σ p a [(xb,[⟨false,.ptr p 0⟩]),(sb,(cU u).map Cell.of),(ob,[⟨false,own⟩])]) (hn:(tlS u.body.size u.body M k L).length < 50000000) :
  Nc Zd [.ptr xb 0,.ptr sb 0,.ptr ob 0] σ p a m (tlS u.body.size u.body M k L) M:=by
 obtain ⟨σ1,a1,m1,⟨n1,e1⟩,c1,f1⟩:=zy7 u.body.size u.body (aM _) hsz hf σ p a m L M k h hn
 refine ⟨σ1,a1,m1,Ev.of n1 fun n hN=>?_,c1,f1⟩
 rw [eH (af:=zfu) rfl rfl rfl]
 have q0:=(hb (xb,[⟨false,.ptr p 0⟩]) (by simp)).1
 have q1:=(hb (sb,(cU u).map Cell.of) (by simp)).1
 have q2:=(hb (ob,[⟨false,own⟩]) (by simp)).1
 have hev:=e1 n hN
 rw [fJ] at hev
 have hcu:cU u=[.str u.name,dSs u.ps,.int .i64 u.body.f,.int .i64 u.body.n,.str u.body.s,.int .i64 0,.int .i64 0,.str [],.nils,kD u.body,bD u.body,aD u.body]:=rfl
 rw [hcu] at q1
 simp only [aO,aZ,Cell.of] at q1
 simp only [zfu,sA,Nat.reduceAdd,Nat.reduceSub,Nat.reduceMul,Nat.reduceBEq,Nat.reduceLeDiff,Int.reduceBEq,Int.reduceBNe,Int.reduceLE,Int.reduceLT,Int.reduceGE,Int.reduceGT,Int.reduceNeg,kn,q0,q1,q2,hown,hev]
theorem zwx {σ:Store} {p a:Nat} {md:D} {L:List In} (h:CA σ p a md L):∃ os,eX 40 (nT a L) σ.objs=some (dIs L,os):=by
 by_cases hL:L=[]
 ·subst hL
  exact ⟨σ.objs,rfl⟩
 ·rw [Gj _ _ hL]
  have hr:=tP (k:=k_1) (id:=a) (n:=39) (ds:=L.map dI) (os:=σ.objs) (os':=eE σ.objs a) (by rw [(h.arr hL).1,xI]) rfl rfl (Yt L) (fun d hd=>by
   obtain ⟨x,_,rfl⟩:=bF.1 hd
   rfl)
  rw [aJ] at hr
  have hd:dIs L=.list k_1 (L.map dI):=by
   cases L with
   | nil=>exact absurd rfl hL
   | cons a b=>rfl
  exact ⟨_,by rw [hr,hd]⟩
theorem Yu (a:Nat) (L:List In):Cell.keeps ⟨false,nT a L⟩=false:=by cases L <;> rfl
theorem zt2 {B:Nat} (u:Su) (hf:Fl B false u.body) (hsz:u.body.size < 40000000) (hps:u.ps.length < 100000000) (hn:(iQ u).body.length < 50000000):OkP Pv [dU u] ⟨false,dD (iQ u)⟩:=by
 have hcu:cU u=[.str u.name,dSs u.ps,.int .i64 u.body.f,.int .i64 u.body.n,.str u.body.s,.int .i64 0,.int .i64 0,.str [],.nils,kD u.body,bD u.body,aD u.body]:=rfl
 obtain ⟨σ1,e1⟩:∃ σ1,σ1=GA σ0 zsr ((cU u).map Cell.of):=⟨_,rfl⟩
 obtain ⟨σ2,e2⟩:∃ σ2,σ2=GM σ1 (.map [] 0):=⟨_,rfl⟩
 obtain ⟨σ3,e3⟩:∃ σ3,σ3=GA σ2 To [⟨false,.nils⟩,⟨false,.map 1⟩]:=⟨_,rfl⟩
 obtain ⟨σ4,e4⟩:∃ σ4,σ4=GA σ3 xG [⟨false,.nilp⟩]:=⟨_,rfl⟩
 obtain ⟨σ5,e5⟩:∃ σ5,σ5=SO σ4 3 [⟨false,.ptr 2 0⟩]:=⟨_,rfl⟩
 have n0:σ0.next=0:=rfl
 have n1:σ1.next=1:=by rw [e1,fW]; rfl
 have n2:σ2.next=2:=by rw [e2,Af,n1]
 have n3:σ3.next=3:=by rw [e3,fW,n2]
 have n4:σ4.next=4:=by rw [e4,fW,n3]
 have n5:σ5.next=4:=by rw [e5,gQ,n4]
 have s1:dE σ1.objs 0=some ((cU u).map Cell.of):=by rw [e1]; exact iN (σ:=σ0)
 have s5:dE σ5.objs 0=some ((cU u).map Cell.of):=by rw [e5,iY (by decide),e4,jU (by omega),e3,jU (by omega),e2,znu,s1]
 have x4:dE σ4.objs 3=some [⟨false,.nilp⟩]:=by rw [e4,← n3,iN]
 have x5:dE σ5.objs 3=some [⟨false,.ptr 2 0⟩]:=by rw [e5,jS]
 have p5:dE σ5.objs 2=some [⟨false,.nils⟩,⟨false,.map 1⟩]:=by rw [e5,iY (by decide),e4,jU (by omega),e3,← n2,iN]
 have m5:dE σ5.oth 1=some (.map [] 0):=by rw [e5,xT,e4,Gi,e3,Gi,e2,← n1,Rk]
 have c5:CS σ5 2 1 1 [] zcu:=⟨⟨p5,fun e=>absurd rfl e,by decide,by omega,by omega⟩,⟨[],0,m5,fun _=>rfl⟩,by omega⟩
 obtain ⟨own,σd,σf,o1,o2,o3,o4,o5,o6,o7,o8,o9,o10⟩:=zkg σ5 2 1 (by omega) (by omega) u.ps hps
 have hlo:=o10.len
 rw [bU] at hlo
 have hbx5:Bx σ5 2 1 [(3,[⟨false,.ptr 2 0⟩]),(0,(cU u).map Cell.of)]:=fun q hq=>by
  simp only [aS,aK,or_false] at hq
  rcases hq with rfl | rfl
  ·exact ⟨x5,by show 3 < _; omega,by decide,by decide⟩
  ·exact ⟨s5,by show 0 < _; omega,by show (0:Nat)≠2; decide,by show (0:Nat)≠1; decide⟩
 have hbxf:=hbx5.keep (o6.frm 2 1 1)
 have hbx:Bx σf 2 1 [(3,[⟨false,.ptr 2 0⟩]),(0,(cU u).map Cell.of),(σd.next,[⟨false,own⟩])]:=fun q hq=>by
  simp only [aS,aK,or_false] at hq
  rcases hq with rfl | rfl | rfl
  ·exact hbxf _ (by simp)
  ·exact hbxf _ (by simp)
  ·exact ⟨o7,o9,by show σd.next≠2; omega,by show σd.next≠1; omega⟩
 obtain ⟨σ6,a6,m6,⟨k6,w6⟩,c6,f6⟩:=Xw (S:=SD) rfl rfl rfl (c5.fa o6) o10 (by rw [bU]; omega) 0 (.fn (.func Zd) [] [.ptr 3 0,.ptr 0 0,.ptr σd.next 0]) Zd [] [.ptr 3 0,.ptr 0 0,.ptr σd.next 0] rfl rfl (iQ u).body
  (fun τ cτ fτ=>by
   obtain ⟨σ',a',m',g1,g2,g3⟩:=zt1 u hf hsz cτ hlo o2 (hbx.keep fτ) hn
   exact ⟨σ',a',m',_,g1,g2,g3⟩)
 have hb6:=hbx.keep f6
 have s6:=(hb6 (0,(cU u).map Cell.of) (by simp)).1
 have y6:=(hb6 (3,[⟨false,.ptr 2 0⟩]) (by simp)).1
 have z6:=(hb6 (σd.next,[⟨false,own⟩]) (by simp)).1
 have p6:=c6.ca.obj
 obtain ⟨os,hfz⟩:=zwx c6.ca
 obtain ⟨N,hN⟩:∃ N,N=k6 + u.ps.length + 2:=⟨_,rfl⟩
 have w6:=w6 (N + 1) (by omega)
 have o1:=o1 N
 have o5:=o5 N (by omega)
 obtain ⟨σe,ee⟩:∃ σe,σe=GA σd t_8 [⟨false,.nils⟩]:=⟨_,rfl⟩
 obtain ⟨σg,eg⟩:∃ σg,σg=SO σe σd.next [⟨false,own⟩]:=⟨_,rfl⟩
 rw [← ee,← eg] at o5
 have be0:dE σe.objs σd.next=some [⟨false,.nils⟩]:=by rw [ee,iN]
 have bg0:dE σg.objs σd.next=some [⟨false,own⟩]:=by rw [eg,jS]
 have xf:=(hbx (3,[⟨false,.ptr 2 0⟩]) (by simp)).1
 have hdu:dU u=.agg (cU u):=rfl
 have hka:=Yu a6 (iQ u).body
 have hoa:=Cf a6 (iQ u).body
 have hca:=zp7 a6 (iQ u).body
 have hok:=zc8b a6 (iQ u).body
 have hoI:(dIs (iQ u).body).one=true:=fM
 refine sF (af:=vL) (n:=1) (σ':={σ6 with objs:=os}) (pY SD (N + 1)) rfl rfl (by simp [eB,Jw]) (zj4 _) ?_
 have hnm:(iQ u).name=u.name:=rfl
 have har:(iQ u).arity=(u.ps.length:Int):=rfl
 have hdD:dD (iQ u)=.agg [.str u.name,.int .i64 u.ps.length,dIs (iQ u).body]:=rfl
 rw [hcu] at hdu e1 s6 s5
 simp only [aO,aZ,Cell.of] at e1 s6 s5
 rw [hdD]
 have hfc:∀ (s:Tx) (k:Int),oS [⟨false,.str s⟩,⟨false,.int .i64 k⟩,⟨false,nT a6 (iQ u).body⟩] σ6.objs=some ([⟨false,.str s⟩,⟨false,.int .i64 k⟩,⟨false,dIs (iQ u).body⟩],os):=fun s k=>by
  have q1:eX 40 (.str s) σ6.objs=some (.str s,σ6.objs):=rfl
  have q2:eX 40 (.int .i64 k) σ6.objs=some (.int .i64 k,σ6.objs):=rfl
  have q3:Cell.keeps ⟨false,.str s⟩=false:=rfl
  have q4:Cell.keeps ⟨false,.int .i64 k⟩=false:=rfl
  simp only [oS,q1,q2,q3,q4,hfz,hka,dG,dK]
 generalize iQ u=cd at *
 have hon:=jO u.body
 have hoS:=gW u.ps
 simp only [vL,sA,Nat.reduceAdd,Nat.reduceSub,Nat.reduceMul,Nat.reduceBEq,Nat.reduceLeDiff,Int.reduceBEq,Int.reduceBNe,Int.reduceLE,Int.reduceLT,Int.reduceGE,Int.reduceGT,Int.reduceNeg,kn,eI,mB,hdu,hon,hoS,n0,← e1,n1,← e2,n2,← e3,n3,← e4,x4,vV,pN,← e5,s5,o1,← ee,be0,o2,o3,o4,← eg,bg0,o5,xf,o7,w6,s6,z6,hlo,y6,p6,lX,hoa,hok,hca,wO,nG,oH,hfc]
end Go.Fu
namespace Go.Fu
open Go Go.Mx
set_option maxRecDepth 10000
set_option maxHeartbeats 4000000
theorem Ba:∀ l:List Tx,cellsOf (l.map D.str)=eW l
 | []=>rfl
 | y :: r=>by rw [aO,cellsOf,Ba r]; rfl
theorem zww (l:List Tx):eM k_0.sz (l.map D.str)=true:=pQ fun d hd=>by
 obtain ⟨s,_,rfl⟩:=bF.1 hd
 exact ⟨rfl,rfl⟩
structure SA (σ:Store) (id:Nat) (l:List Tx) (r:Nat):Prop where
 a:∃ cs,dE σ.objs id=some (eW l ++ cs)∧cs.length=r
 t:dE σ.tys id=some ⟨k_0.el,k_0.sz⟩
theorem SA.app {σ:Store} {id r:Nat} {l:List Tx} (h:SA σ id l r) (m:List Tx) (hl:l.length + m.length < 1000000000):∃ σ1,eV σ k_0 16 (.arr k_0 id 0 l.length) (m.map D.str)=some (.arr k_0 σ.next 0 (l.length + m.length),σ1)∧SA σ1 σ.next (l ++ m) 0:=by
 obtain ⟨cs,h1,_⟩:=h.a
 have ek:k_0.same k_0=true:=rfl
 have e0:decide (l.length * k_0.sz≤(eW l ++ cs).length)=true:=by simp [k_0,qU]
 have e1:decide ((l.length + m.length) * 16≤eL)=true:=decide_eq_true (show (l.length + m.length) * 16≤1099511627776 by omega)
 have e2:decide (l.length + m.length≤eL)=true:=decide_eq_true (show l.length + m.length≤1099511627776 by omega)
 have ht:((eW l ++ cs).take (l.length * k_0.sz)).map (fun c=>Cell.of c.d) ++ cellsOf (m.map D.str)=eW (l ++ m):=by
  have:(eW l ++ cs).take (l.length * k_0.sz)=eW l:=by
   rw [show l.length * k_0.sz=(eW l).length by simp [k_0,qU]]
   exact List.take_left
  rw [this,Ba,eW,eW,eW,aU,cD]
  rfl
 refine ⟨dR {σ with objs:=eE σ.objs id} k_0 (eW (l ++ m)),?_,⟨⟨[],by simp only [dR,bP]; exact agS _ _ _,rfl⟩,agS _ _ _⟩⟩
 simp only [eV,zww,dJ,h1,h.t,dG,dK,ek,bW,aJ,e0,e1,e2,aY,ht]
theorem zak:∀ n:Nat,(uC [.str []] n).length=n
 | 0=>rfl
 | n + 1=>by simp only [uC,aO,aZ,aW,bG,aG,zak n]
theorem zxn (n k:Nat) (σ:Store) (hk:k < 1000000000):W SD (n + 1) zrj [.nils,.int .i64 k] σ=some (.ret ⟨false,ifB (k == 0) .nils (.arr k_0 σ.next 0 0)⟩,ifB (k == 0) σ (dR σ k_0 (uC [.str []] k))):=by
 rw [eH (af:=Yf) rfl rfl rfl]
 have g1:¬ ((k:Int) < 0):=by omega
 have w1:IntKind.i64.wrap (0 - 0)=0:=rfl
 have w2:IntKind.i64.wrap ((k:Int) - 0)=k:=by rw [lV (by omega) (by omega)]; omega
 cases k with
 | zero =>
  have e:((0:Nat) == 0)=true:=rfl
  rw [e]
  simp only [Yf,sA,Nat.reduceAdd,Nat.reduceSub,Nat.reduceMul,Nat.reduceBEq,Nat.reduceLeDiff,Int.reduceBEq,Int.reduceBNe,Int.reduceLE,Int.reduceLT,Int.reduceGE,Int.reduceGT,Int.reduceNeg,kn,eR,w1]
 | succ k =>
  have e:((k + 1:Nat) == 0)=false:=rfl
  have g2:(((k + 1:Nat):Int) > 0):=by omega
  have b1:decide (0 < k + 1)=true:=by simp
  have b2:decide ((k + 1) * 16≤eL)=true:=decide_eq_true (show (k + 1) * 16≤1099511627776 by omega)
  have b3:decide (k + 1≤eL)=true:=decide_eq_true (show k + 1≤1099511627776 by omega)
  rw [e]
  have hnat:D.int .i64 ((k + 1:Nat):Int)=.int .i64 (.ofNat (k + 1)):=rfl
  have hs:rI 1 D.nils 0 (some 0)=some .nils:=rfl
  have hs2:rI 1 (.arr k_0 σ.next 0 (k + 1)) 0 (some 0)=some (.arr k_0 σ.next 0 0):=rfl
  have b2':(k + 1) * 16≤eL:=of_decide_eq_true b2
  have b3':k + 1≤eL:=of_decide_eq_true b3
  have hp:(0 < k + 1):=by omega
  have g3:((k:Int) + 1 > 0):=by omega
  generalize hq:((k + 1:Nat):Int)=q at *
  have hq2:q=.ofNat (k + 1):=by rw [← hq]; rfl
  simp only [Yf,sA,Nat.reduceAdd,Nat.reduceSub,Nat.reduceMul,Nat.reduceBEq,Nat.reduceLeDiff,Int.reduceBEq,Int.reduceBNe,Int.reduceLE,Int.reduceLT,Int.reduceGE,Int.reduceGT,Int.reduceNeg,kn,g1,w1,w2,g2,eR,hs]
  subst hq2
  simp only [sA,Nat.reduceAdd,Nat.reduceSub,Nat.reduceMul,Nat.reduceBEq,Nat.reduceLeDiff,Int.reduceBEq,Int.reduceBNe,Int.reduceLE,Int.reduceLT,Int.reduceGE,Int.reduceGT,Int.reduceNeg,kn,b2',b3',hp,hs2,eR]
def dd (a b:List Tx):D:=.list yX [dSs a,dSs b]
section
variable {C:dQ} {n:Nat} {σ:Store}
def Ni (a b:List Tx) (acc i:Nat):Env:={slots:=[(0,⟨false,dd a b⟩),(3,⟨false,.int .i64 acc⟩),(9,⟨false,dd a b⟩),(10,⟨false,.int .i64 2⟩),(11,⟨false,.int .i64 i⟩)],locs:=[],boxes:=[],defers:=[]}
def Hw (a b:List Tx) (d:D) (i:Nat):Env:={slots:=[(6,⟨false,d⟩),(25,⟨false,dd a b⟩),(26,⟨false,.int .i64 2⟩),(27,⟨false,.int .i64 i⟩)],locs:=[],boxes:=[],defers:=[]}
theorem zis (a b x:List Tx) (acc i:Nat) (hi:i < 2) (hx:iD 1 (dd a b) i=some (.eptr (dSs x))) (hl:acc + x.length < 1000000000):exec C n none jD (Ni a b acc i) σ=some (.normal,Ni a b (acc + x.length) (i + 1),σ):=by
 have hlt:((i:Int) < 2):=by omega
 have w:=dV (i:=i) (by omega)
 have w2:IntKind.i64.wrap ((acc:Int) + x.length)=((acc + x.length:Nat):Int):=by rw [lV (by omega) (by omega)]; omega
 have g:¬ (((acc + x.length:Nat):Int) < 0):=by omega
 have h1:=gW x
 have h2:=mO x
 simp only [jD,Ni,sA,Nat.reduceAdd,Nat.reduceSub,Nat.reduceMul,Nat.reduceBEq,Nat.reduceLeDiff,Int.reduceBEq,Int.reduceBNe,Int.reduceLE,Int.reduceLT,Int.reduceGE,Int.reduceGT,Int.reduceNeg,kn,hlt,fL,hx,h1,h2,w,w2,g]
theorem zbtb (a b:List Tx) (acc:Nat):exec C n none jD (Ni a b acc 2) σ=some (.exit 0,{slots:=[(0,⟨false,dd a b⟩),(3,⟨false,.int .i64 acc⟩),(9,⟨false,dd a b⟩),(10,⟨false,.int .i64 2⟩),(11,⟨false,.int .i64 2⟩),(12,⟨false,.bool false⟩)],locs:=[],boxes:=[],defers:=[]},σ):=by
 have hlt:¬ (((2:Nat):Int) < 2):=by omega
 simp only [jD,Ni,sA,Nat.reduceAdd,Nat.reduceSub,Nat.reduceMul,Nat.reduceBEq,Nat.reduceLeDiff,Int.reduceBEq,Int.reduceBNe,Int.reduceLE,Int.reduceLT,Int.reduceGE,Int.reduceGT,Int.reduceNeg,kn,hlt]
 rfl
theorem Ij (a b x:List Tx) (d d':D) (σ':Store) (i:Nat) (hi:i < 2) (hx:iD 1 (dd a b) i=some (.eptr (dSs x))) (ha:eV σ k_0 16 d (x.map D.str)=some (d',σ')):exec C n none iI (Hw a b d i) σ=some (.normal,Hw a b d' (i + 1),σ'):=by
 have hlt:((i:Int) < 2):=by omega
 have w:=dV (i:=i) (by omega)
 have h1:=gW x
 have hli:iR σ.objs (dSs x)=some (x.map D.str):=by rw [dSs,qE]
 simp only [iI,Hw,sA,Nat.reduceAdd,Nat.reduceSub,Nat.reduceMul,Nat.reduceBEq,Nat.reduceLeDiff,Int.reduceBEq,Int.reduceBNe,Int.reduceLE,Int.reduceLT,Int.reduceGE,Int.reduceGT,Int.reduceNeg,kn,eI,mB,hlt,fL,hx,h1,hli,ha,w]
theorem zn2 (a b:List Tx) (d:D):exec C n none iI (Hw a b d 2) σ=some (.exit 2,{slots:=[(6,⟨false,d⟩),(25,⟨false,dd a b⟩),(26,⟨false,.int .i64 2⟩),(27,⟨false,.int .i64 2⟩),(28,⟨false,.bool false⟩)],locs:=[],boxes:=[],defers:=[]},σ):=by
 have hlt:¬ (((2:Nat):Int) < 2):=by omega
 simp only [iI,Hw,sA,Nat.reduceAdd,Nat.reduceSub,Nat.reduceMul,Nat.reduceBEq,Nat.reduceLeDiff,Int.reduceBEq,Int.reduceBNe,Int.reduceLE,Int.reduceLT,Int.reduceGE,Int.reduceGT,Int.reduceNeg,kn,hlt]
 rfl
end
theorem zlp (a b:List Tx) (hl:a.length + b.length < 100000000):OkP qY [dd a b] ⟨false,dSs (a ++ b)⟩:=by
 have x0:iD 1 (dd a b) 0=some (.eptr (dSs a)):=rfl
 have x1:iD 1 (dd a b) 1=some (.eptr (dSs b)):=rfl
 have hlen:lenOf (dd a b)=some 2:=rfl
 have l0:gU (exec (W SD 1) 3 none jD) 3 (Ni a b 0 0) σ0=_:=(iJ (zis a b a 0 0 (by omega) x0 (by omega))).trans ((iJ (zis a b b _ 1 (by omega) x1 (by omega))).trans (kT (zbtb a b _)))
 have hg:=zxn 0 (0 + a.length + b.length) σ0 (by omega)
 have hn2:eB [dd a b]=true:=by simp [eB,eT,dd,fQ]
 have z2:(((2:Nat):Int))=2:=rfl
 have two:(([dSs a,dSs b]:List D).length:Int)=2:=rfl
 by_cases hz:a.length + b.length=0
 ·have ha:a=[]:=aR.1 (by omega)
  have hb:b=[]:=aR.1 (by omega)
  subst ha hb
  have e:dSs []=.nils:=rfl
  have ap:eV σ0 k_0 16 .nils (([]:List Tx).map D.str)=some (.nils,σ0):=rfl
  have l1:gU (exec (W SD 1) 3 none iI) 3 (Hw [] [] .nils 0) σ0=_:=(iJ (Ij [] [] [] .nils .nils σ0 0 (by omega) x0 ap)).trans ((iJ (Ij [] [] [] .nils .nils σ0 1 (by omega) x1 ap)).trans (kT (zn2 [] [] .nils)))
  refine sF (af:=kJ) (n:=3) (σ':=Store.trunc σ0 0) (pY SD 1) rfl rfl hn2 rfl ?_
  simp only [aH,Nat.add_zero,aN] at l0 hg
  simp only [Ni,eR] at l0
  simp only [Hw,eR] at l1
  have hfz:eX 40 .nils σ0.objs=some (.nils,σ0.objs):=rfl
  have hkp:Cell.keeps ⟨false,.nils⟩=false:=rfl
  simp only [kJ,sA,Nat.reduceAdd,Nat.reduceSub,Nat.reduceMul,Nat.reduceBEq,Nat.reduceLeDiff,Int.reduceBEq,Int.reduceBNe,Int.reduceLE,Int.reduceLT,Int.reduceGE,Int.reduceGT,Int.reduceNeg,kn,hlen,z2,l0,eR,hg,l1,wO,nG,oH,hfz,hkp,bP,e]
  rfl
 ·have ez:((0 + a.length + b.length) == 0)=false:=beq_false_of_ne (by omega)
  rw [ez] at hg
  simp only [dH] at hg
  obtain ⟨σ1,e1⟩:∃ σ1,σ1=dR σ0 k_0 (uC [.str []] (0 + a.length + b.length)):=⟨_,rfl⟩
  have s0:SA σ1 0 [] (0 + a.length + b.length):=⟨⟨_,by rw [e1]; exact agS _ _ _,zak _⟩,by rw [e1]; exact agS _ _ _⟩
  obtain ⟨σ2,g2,s2⟩:=s0.app a (by simp; omega)
  obtain ⟨σ3,g3,s3⟩:=s2.app b (by simp; omega)
  simp only [aH,aN,bG] at g2 g3 s3 s2
  rw [← e1] at hg
  have l1:gU (exec (W SD 1) 3 none iI) 3 (Hw a b (.arr k_0 0 0 0) 0) σ1=_:=(iJ (Ij a b a _ _ σ2 0 (by omega) x0 g2)).trans ((iJ (Ij a b b _ _ σ3 1 (by omega) x1 g3)).trans (kT (zn2 a b _)))
  obtain ⟨cs,h3,hc⟩:=s3.a
  have hcs:cs=[]:=aR.1 hc
  subst hcs
  rw [bP] at h3
  have hfz:=tP (k:=k_0) (id:=σ2.next) (n:=39) (ds:=(a ++ b).map D.str) (os:=σ3.objs) (os':=eE σ3.objs σ2.next) (by rw [h3,Ba]) rfl rfl (fun d hd=>by
   obtain ⟨x,_,rfl⟩:=bF.1 hd
   exact ⟨rfl,rfl⟩) (fun d hd=>by
   obtain ⟨x,_,rfl⟩:=bF.1 hd
   rfl)
  rw [aJ,aF] at hfz
  have hne:a ++ b≠[]:=fun h=>hz (by have:=congrArg List.length h; simpa using this)
  have hds:dSs (a ++ b)=.list k_0 ((a ++ b).map D.str):=by
   cases hab:a ++ b with
   | nil=>exact absurd hab hne
   | cons x r=>rfl
  refine sF (af:=kJ) (n:=3) (σ':=Store.trunc {σ3 with objs:=eE σ3.objs σ2.next} 0) (pY SD 1) rfl rfl hn2 (fQ _) ?_
  rw [hds]
  simp only [aN] at l0 hg
  simp only [Ni,eR] at l0
  simp only [Hw,eR] at l1
  have hn0:σ0.next=0:=rfl
  rw [hn0] at hg
  generalize (a ++ b).map D.str=ab at *
  have hkp:Cell.keeps ⟨false,.arr k_0 σ2.next 0 (a.length + b.length)⟩=false:=rfl
  simp only [kJ,sA,Nat.reduceAdd,Nat.reduceSub,Nat.reduceMul,Nat.reduceBEq,Nat.reduceLeDiff,Int.reduceBEq,Int.reduceBNe,Int.reduceLE,Int.reduceLT,Int.reduceGE,Int.reduceGT,Int.reduceNeg,kn,hlen,z2,l0,eR,hg,l1,wO,nG,oH,hfz,hkp]
end Go.Fu
