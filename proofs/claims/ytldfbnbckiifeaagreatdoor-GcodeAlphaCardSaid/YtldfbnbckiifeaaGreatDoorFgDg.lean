/-
 A let: its names are laid,then something is done.
-/
import Derived.Test.YtldfbnbckiifeaaGreatDoorFgDf
set_option maxHeartbeats 4000000
set_option linter.unusedSimpArgs false
set_option linter.unusedVariables false
set_option linter.unusedSectionVars false
namespace Go.Fu
open Go Go.Mx
set_option maxRecDepth 10000
set_option maxHeartbeats 4000000
def SD:eD:=[(uL,Hr)]
def Nc (f:FuncId) (ds:List D) (σ:Store) (p a m:Nat) (L':List In) (M:At):Prop:=∃ σ' a' m',Ev SD f ds σ σ'∧CS σ' p a' m' L' M∧Frm p a m a' m' σ σ'
def Okf (f:FuncId) (c:Co) (F:At→Int→List In→List In):Prop:=∀ (σ:Store) (p a m:Nat) (L:List In) (M:At) (d:Int),CS σ p a m L M→(F M d L).length < 50000000→Nc f [.ptr p 0,dCo c,.int .i64 d] σ p a m (F M d L) M
theorem Ev.at {S:eD} {f:FuncId} {ds:List D} {σ σ':Store} (h:Ev S f ds σ σ'):∃ n0,∀ n,n0≤n→W S n f ds σ=some (.ret ⟨false,.tup []⟩,σ'):=h
section
variable {C:dQ} {n N:Nat} {τ:Store}
def Va (cb xb db kb fb:Nat) (bs:List (Tx × Co)) (i:Nat):Env:={slots:=[(0,⟨false,.ptr cb 0⟩),(1,⟨false,.ptr xb 0⟩),(2,⟨false,.ptr db 0⟩),(3,⟨false,.ptr kb 0⟩),(4,⟨false,.ptr fb 0⟩),(8,⟨false,dBl' bs⟩),(9,⟨false,.int .i64 bs.length⟩),(10,⟨false,.int .i64 i⟩)],locs:=[],boxes:=[],defers:=[]}
def zpk (cb xb db kb fb:Nat) (bs:List (Tx × Co)):Env:={slots:=[(0,⟨false,.ptr cb 0⟩),(1,⟨false,.ptr xb 0⟩),(2,⟨false,.ptr db 0⟩),(3,⟨false,.ptr kb 0⟩),(4,⟨false,.ptr fb 0⟩),(8,⟨false,dBl' bs⟩),(9,⟨false,.int .i64 bs.length⟩),(10,⟨false,.int .i64 bs.length⟩),(11,⟨false,.bool false⟩)],locs:=[],boxes:=[],defers:=[]}
theorem zfhb (C:dQ) (n:Nat) (τ:Store) (cb xb db kb fb:Nat) (bs:List (Tx × Co)):exec C n none zba (Va cb xb db kb fb bs bs.length) τ=some (.exit 0,zpk cb xb db kb fb bs,τ):=by
 have hlt:¬ ((bs.length:Int) < (bs.length:Int)):=by omega
 simp only [zba,Va,zpk,sA,Nat.reduceAdd,Nat.reduceSub,Nat.reduceMul,Nat.reduceBEq,Nat.reduceLeDiff,Int.reduceBEq,Int.reduceBNe,Int.reduceLE,Int.reduceLT,Int.reduceGE,Int.reduceGT,Int.reduceNeg,kn,hlt]
theorem zcwb {C:dQ} {n:Nat} {τ τ1 τ2:Store} {p:Nat} (cb xb db kb fb:Nat) (bs:List (Tx × Co)) (i:Nat) (hi:i < bs.length) (hl:bs.length < 1000000000) (d:Int)
  (hx:dE τ.objs xb=some [⟨false,.ptr p 0⟩]) (hd:dE τ.objs db=some [⟨false,.int .i64 d⟩]) (hk:dE τ.objs kb=some [⟨false,.int .i64 bs.length⟩])
  (hx1:dE τ1.objs xb=some [⟨false,.ptr p 0⟩]) (hk1:dE τ1.objs kb=some [⟨false,.int .i64 bs.length⟩])
  (h1:C sT [.ptr p 0,dCo bs[i].2,.int .i64 (w64 (d + bs.length))] τ=some (.ret ⟨false,.tup []⟩,τ1))
  (h2:C n_6 [.ptr p 0,.str nI,.int .i64 (Ri bs.length i)] τ1=some (.ret ⟨false,.tup []⟩,τ2)) :
  exec C n none zba (Va cb xb db kb fb bs i) τ=some (.normal,Va cb xb db kb fb bs (i + 1),τ2):=by
 have hlt:((i:Int) < (bs.length:Int)):=by omega
 have w:=dV (i:=i) (by omega)
 have hxx:=mL (k:=k_3) (sz:=15) rfl dB bs i hi
 generalize bs[i]=b at hxx h1
 have hdB:=tX b
 have hdC:=fC b.2
 rw [hdB] at hxx
 rw [hdC] at h1
 simp only [cCo] at hxx h1
 simp only [w64] at h1
 simp only [Ri,nI] at h2
 simp only [zba,Va,dBl',sA,Nat.reduceAdd,Nat.reduceSub,Nat.reduceMul,Nat.reduceBEq,Nat.reduceLeDiff,Int.reduceBEq,Int.reduceBNe,Int.reduceLE,Int.reduceLT,Int.reduceGE,Int.reduceGT,Int.reduceNeg,kn,hlt,fL,hxx,fM,hx,hd,hk,h1,hx1,hk1,h2,w]
end
def qQ (F:At→Int→List In→List In):Prop:=∀ M d L,L.length≤(F M d L).length
def Bx (σ:Store) (p a:Nat) (l:List (Nat × List Cell)):Prop:=∀ q∈l,dE σ.objs q.1=some q.2∧q.1 < σ.next∧q.1≠p∧q.1≠a
theorem Bx.keep {σ σ':Store} {p a m a' m':Nat} {l:List (Nat × List Cell)} (h:Bx σ p a l) (f:Frm p a m a' m' σ σ'):Bx σ' p a' l:=fun q hq=>by
 obtain ⟨h1,h2,h3,h4⟩:=h q hq
 exact ⟨f.get h1 h2 h3 h4,aP h2 f.nx,h3,by rcases f.fa with e | e <;> omega⟩
theorem Du {lz:Co→List In→List In} (k:Nat):∀ (l:List (Tx × Co)) (i:Nat) (L:List In),(∀ b∈l,∀ L,L.length≤(lz b.2 L).length)→L.length≤(sK lz k l i L).length
 | [],i,L,_=>aM _
 | b :: l,i,L,h=>by
  have h1:=Du k l (i + 1) (lz b.2 L ++ [op1 nI (Ri k i)]) fun x hx=>h x (aI _ hx)
  have h2:=h b (aQ ..) L
  simp only [sK,aF,aG,aH] at h1 ⊢
  omega
theorem zoo {lz:Co→At→Int→List In→List In} {bs:List (Tx × Co)} (hl:bs.length < 1000000000) (hlz:∀ b∈bs,Okf sT b.2 (lz b.2)) (hmo:∀ b∈bs,qQ (lz b.2)) {p:Nat} (cb xb db kb fb:Nat) (d:Int) (M:At) :
  ∀ (rest done:List (Tx × Co)) (L:List In) (σ:Store) (a m:Nat),bs=done ++ rest→CS σ p a m L M→Bx σ p a [(xb,[⟨false,.ptr p 0⟩]),(db,[⟨false,.int .i64 d⟩]),(kb,[⟨false,.int .i64 bs.length⟩])]→(sK (fun b L=>lz b M (w64 (d + bs.length)) L) bs.length rest done.length L).length < 50000000 →
  ∃ σ' a' m' n0,(∀ N n,n0≤N→rest.length < n→gU (exec (W SD N) N none zba) n (Va cb xb db kb fb bs done.length) σ=some (.exit 0,zpk cb xb db kb fb bs,σ'))∧CS σ' p a' m' (sK (fun b L=>lz b M (w64 (d + bs.length)) L) bs.length rest done.length L) M∧Frm p a m a' m' σ σ'
 | [],done,L,σ,a,m,hd,h,hb,hn=>by
  refine ⟨σ,a,m,0,fun N n _ hn=>?_,h,Frm.refl⟩
  obtain ⟨n,rfl⟩:∃ k,n=k + 1:=⟨n - 1,by omega⟩
  have e:done.length=bs.length:=by rw [hd]; simp
  rw [e]
  exact kT (zfhb (W SD N) N σ cb xb db kb fb bs)
 | b :: rest,done,L,σ,a,m,hd,h,hb,hn=>by
  have hi:done.length < bs.length:=by rw [hd]; simp
  have hs:bs[done.length]=b:=by
   subst hd
   simp
  have hbm:b∈bs:=by rw [hd]; simp
  have h1:=Du bs.length rest (done.length + 1) (lz b.2 M (w64 (d + bs.length)) L ++ [op1 nI (Ri bs.length done.length)]) (lz:=fun b L=>lz b M (w64 (d + bs.length)) L) (fun x hx L=>hmo x (by rw [hd]; simp [hx]) _ _ _)
  simp only [sK] at hn
  simp only [aF,aG,aH] at h1
  obtain ⟨σ1,a1,m1,⟨n1,e1⟩,c1,f1⟩:=hlz b hbm σ p a m L M (w64 (d + bs.length)) h (by omega)
  obtain ⟨σ2,e2,c2,f2,o2⟩:=Am (S:=SD) rfl c1.ca (by omega) nI (Ri bs.length done.length)
  have c2':CS σ2 p σ1.next m1 (lz b.2 M (w64 (d + bs.length)) L ++ [op1 nI (Ri bs.length done.length)]) M:=⟨c2,by rw [o2]; exact c1.map,by have:=c1.mn; have:=(f2 m1).nx; omega⟩
  have b1:=hb.keep f1
  have b2:=b1.keep (f2 m1)
  obtain ⟨σ3,a3,m3,n3,e3,c3,f3⟩:=zoo hl hlz hmo cb xb db kb fb d M rest (done ++ [b]) _ σ2 _ m1 (by rw [hd]; simp) c2' b2 (by simp only [aF,aG,aH,aN]; exact hn)
  simp only [aF,aG,aH,aN] at e3 c3
  refine ⟨σ3,a3,m3,max (max n1 n3) 1,fun N n hN hn=>?_,c3,(f1.trans (f2 m1)).trans f3⟩
  obtain ⟨n,rfl⟩:∃ k,n=k + 1:=⟨n - 1,by omega⟩
  obtain ⟨K,rfl⟩:∃ k,N=k + 1:=⟨N - 1,by omega⟩
  have x0:=hb (xb,[⟨false,.ptr p 0⟩]) (by simp)
  have d0:=hb (db,[⟨false,.int .i64 d⟩]) (by simp)
  have k0:=hb (kb,[⟨false,.int .i64 bs.length⟩]) (by simp)
  have x1:=b1 (xb,[⟨false,.ptr p 0⟩]) (by simp)
  have k1:=b1 (kb,[⟨false,.int .i64 bs.length⟩]) (by simp)
  rw [iJ (zcwb (τ:=σ) (τ1:=σ1) (τ2:=σ2) (p:=p) cb xb db kb fb bs done.length hi hl d x0.1 d0.1 k0.1 x1.1 k1.1 (by rw [hs]; exact e1 (K + 1) (by omega)) (e2 K))]
  exact e3 (K + 1) n (by omega) (by simp at hn; omega)
theorem zx0 {lz go:Co→At→Int→List In→List In} {c x:Co} (hk:c.ks=[x]) (hl:c.bs.length < 1000000000) (hlz:∀ b∈c.bs,Okf sT b.2 (lz b.2)) (hmo:∀ b∈c.bs,qQ (lz b.2)) {g:FuncId} (hg:isY g=false) (hgo:Okf g x (go x)) (hgm:qQ (go x))
  {σ:Store} {p a m:Nat} {L:List In} {M:At} {d:Int} (h:CS σ p a m L M) {cb xb db kb fb:Nat} (hb:Bx σ p a [(cb,(cCo c).map Cell.of),(xb,[⟨false,.ptr p 0⟩]),(db,[⟨false,.int .i64 d⟩]),(kb,[⟨false,.int .i64 c.bs.length⟩]),(fb,[⟨false,.fn (.func g) [.ptr p 0] []⟩])])
  (hn:(go x M (w64 (d + c.bs.length)) (sK (fun b L=>lz b M (w64 (d + c.bs.length)) L) c.bs.length c.bs 0 L)).length < 50000000) :
  Nc zhc [.ptr cb 0,.ptr xb 0,.ptr db 0,.ptr kb 0,.ptr fb 0] σ p a m (go x M (w64 (d + c.bs.length)) (sK (fun b L=>lz b M (w64 (d + c.bs.length)) L) c.bs.length c.bs 0 L)) M:=by
 have h2:=hgm M (w64 (d + c.bs.length)) (sK (fun b L=>lz b M (w64 (d + c.bs.length)) L) c.bs.length c.bs 0 L)
 obtain ⟨σ1,a1,m1,n1,e1,c1,f1⟩:=zoo hl hlz hmo cb xb db kb fb d M c.bs [] L σ a m rfl h (fun q hq=>hb q (by simp at hq ⊢; rcases hq with h | h | h <;> simp [h])) (by simp only [aH]; omega)
 simp only [aH] at e1 c1
 obtain ⟨σ2,a2,m2,⟨n2,e2⟩,c2,f2⟩:=hgo σ1 p a1 m1 _ M (w64 (d + c.bs.length)) c1 hn
 refine ⟨σ2,a2,m2,Ev.of (max (max n1 n2) (c.bs.length + 1)) fun n hN=>?_,c2,f1.trans f2⟩
 rw [eH (af:=zfy) rfl rfl rfl]
 have b1:=hb.keep f1
 have q0:=(hb (cb,(cCo c).map Cell.of) (by simp)).1
 have q1:=(b1 (cb,(cCo c).map Cell.of) (by simp)).1
 have q2:=(b1 (db,[⟨false,.int .i64 d⟩]) (by simp)).1
 have q3:=(b1 (kb,[⟨false,.int .i64 c.bs.length⟩]) (by simp)).1
 have q4:=(b1 (fb,[⟨false,.fn (.func g) [.ptr p 0] []⟩]) (by simp)).1
 have hlp:=e1 n n (by omega) (by omega)
 have hev:=e2 n (by omega)
 have hx:=mL (k:=k_2) (sz:=10) rfl dCo [x] 0 (by simp)
 have hln:lenOf (dBl' c.bs)=some c.bs.length:=mM _ _
 simp only [List.getElem_cons_zero] at hx
 have hdl:eJ k_3 (c.bs.map dB)=dBl' c.bs:=rfl
 have hfn:D.fn? (.fn (.func g) [.ptr p 0] [])=some (g,[.ptr p 0],[]):=fn?_fn hg
 simp only [cCo,hk] at q0 q1
 rw [hdl] at q0 q1
 have hag:=agg?_dCo x
 have hlx:=Ak x
 simp only [Va,zpk,eR] at hlp
 simp only [w64] at hev
 generalize eJ k_2 ([x].map dCo)=kd at *
 simp only [aO,aZ] at q0 q1
 simp only [zfy,sA,Nat.reduceAdd,Nat.reduceSub,Nat.reduceMul,Nat.reduceBEq,Nat.reduceLeDiff,Int.reduceBEq,Int.reduceBNe,Int.reduceLE,Int.reduceLT,Int.reduceGE,Int.reduceGT,Int.reduceNeg,kn,q0,hln,hlp,q1,q2,q3,q4,hx,hag,hlx,hfn,hev]
def mT (g:FuncId) (p:Nat):D:=.fn (.func g) [.ptr p 0] []
theorem zcq {lz go:Co→At→Int→List In→List In} {c x:Co} (hk:c.ks=[x]) (hl:c.bs.length < 300000000) (hlz:∀ b∈c.bs,Okf sT b.2 (lz b.2)) (hmo:∀ b∈c.bs,qQ (lz b.2)) {g:FuncId} (hg:isY g=false) (hgo:Okf g x (go x)) (hgm:qQ (go x))
  {σ:Store} {p a m:Nat} {L:List In} {M:At} {d:Int} (h:CS σ p a m L M) (hn:(Bn lz go c M d L).length < 50000000):Nc Ze [.ptr p 0,dCo c,.int .i64 d,mT g p] σ p a m (Bn lz go c M d L) M:=by
 have hp:=h.ca.pn
 have ha:=h.ca.an
 have hm:=h.mn
 have hkid:kid c 0=x:=by simp [kid,hk]
 unfold Bn at hn ⊢
 rw [hkid] at hn ⊢
 have m1:=hgm (fE M (nms c) d 0) (w64 (d + c.bs.length)) (sK (fun b L=>lz b (fE M (nms c) d 0) (w64 (d + c.bs.length)) L) c.bs.length c.bs 0 (L ++ [op1 rH c.bs.length]))
 have m2:=Du c.bs.length c.bs 0 (L ++ [op1 rH c.bs.length]) (lz:=fun b L=>lz b (fE M (nms c) d 0) (w64 (d + c.bs.length)) L) fun x hx L=>hmo x hx _ _ _
 simp only [aF,aG,aH] at m2
 obtain ⟨σ1,e1⟩:∃ σ1,σ1=GA σ xG [⟨false,.ptr p 0⟩]:=⟨_,rfl⟩
 obtain ⟨σ2,e2⟩:∃ σ2,σ2=GA σ1 zh2 ((cCo c).map Cell.of):=⟨_,rfl⟩
 obtain ⟨σ3,e3⟩:∃ σ3,σ3=GA σ2 wB [⟨false,.int .i64 d⟩]:=⟨_,rfl⟩
 obtain ⟨σ4,e4⟩:∃ σ4,σ4=GA σ3 zh3 [⟨false,mT g p⟩]:=⟨_,rfl⟩
 obtain ⟨σ5,e5⟩:∃ σ5,σ5=GA σ4 wB [⟨false,.int .i64 0⟩]:=⟨_,rfl⟩
 obtain ⟨σ6,e6⟩:∃ σ6,σ6=SO σ5 (σ.next + 4) [⟨false,.int .i64 c.bs.length⟩]:=⟨_,rfl⟩
 have n1:σ1.next=σ.next + 1:=by rw [e1,fW]
 have n2:σ2.next=σ.next + 2:=by rw [e2,fW,n1]
 have n3:σ3.next=σ.next + 3:=by rw [e3,fW,n2]
 have n4:σ4.next=σ.next + 4:=by rw [e4,fW,n3]
 have n5:σ5.next=σ.next + 5:=by rw [e5,fW,n4]
 have n6:σ6.next=σ.next + 5:=by rw [e6,gQ,n5]
 have c6:CS σ6 p a m L M:=by
  rw [e6]
  refine CS.so ?_ (by omega) (by omega)
  rw [e5]; refine CS.ga ?_
  rw [e4]; refine CS.ga ?_
  rw [e3]; refine CS.ga ?_
  rw [e2]; refine CS.ga ?_
  rw [e1]; exact h.ga
 have f6:Frm p a m a m σ σ6:=by
  rw [e6]
  refine Frm.so ?_ (.inl (by omega))
  rw [e5]; refine Frm.trans ?_ Frm.ga
  rw [e4]; refine Frm.trans ?_ Frm.ga
  rw [e3]; refine Frm.trans ?_ Frm.ga
  rw [e2]; refine Frm.trans ?_ Frm.ga
  rw [e1]; exact Frm.ga
 have b1:dE σ1.objs σ.next=some [⟨false,.ptr p 0⟩]:=by rw [e1,iN]
 have b2:dE σ2.objs (σ.next + 1)=some ((cCo c).map Cell.of):=by rw [e2,← n1,iN]
 have b3:dE σ3.objs (σ.next + 2)=some [⟨false,.int .i64 d⟩]:=by rw [e3,← n2,iN]
 have b4:dE σ4.objs (σ.next + 3)=some [⟨false,mT g p⟩]:=by rw [e4,← n3,iN]
 have b5:dE σ5.objs (σ.next + 4)=some [⟨false,.int .i64 0⟩]:=by rw [e5,← n4,iN]
 have k4:∀ j,j < σ.next + 4→dE σ6.objs j=dE σ4.objs j:=fun j hj=>by rw [e6,iY (by omega),e5,jU (by omega)]
 have d1:dE σ4.objs σ.next=some [⟨false,.ptr p 0⟩]:=by rw [e4,jU (by omega),e3,jU (by omega),e2,jU (by omega),b1]
 have d2:dE σ4.objs (σ.next + 1)=some ((cCo c).map Cell.of):=by rw [e4,jU (by omega),e3,jU (by omega),b2]
 have d3:dE σ4.objs (σ.next + 2)=some [⟨false,.int .i64 d⟩]:=by rw [e4,jU (by omega),b3]
 have g5:dE σ6.objs (σ.next + 4)=some [⟨false,.int .i64 c.bs.length⟩]:=by rw [e6,jS]
 have hbx:Bx σ6 p a [(σ.next + 1,(cCo c).map Cell.of),(σ.next,[⟨false,.ptr p 0⟩]),(σ.next + 2,[⟨false,.int .i64 d⟩]),(σ.next + 4,[⟨false,.int .i64 c.bs.length⟩]),(σ.next + 3,[⟨false,mT g p⟩])]:=by
  intro q hq
  simp only [aS,aK,or_false] at hq
  rcases hq with rfl | rfl | rfl | rfl | rfl
  ·exact ⟨by rw [k4 _ (by show σ.next + 1 < _; omega)]; exact d2,by show σ.next + 1 < _; omega,by show σ.next + 1≠_; omega,by show σ.next + 1≠_; omega⟩
  ·exact ⟨by rw [k4 _ (by show σ.next < _; omega)]; exact d1,by show σ.next < _; omega,by show σ.next≠_; omega,by show σ.next≠_; omega⟩
  ·exact ⟨by rw [k4 _ (by show σ.next + 2 < _; omega)]; exact d3,by show σ.next + 2 < _; omega,by show σ.next + 2≠_; omega,by show σ.next + 2≠_; omega⟩
  ·exact ⟨g5,by show σ.next + 4 < _; omega,by show σ.next + 4≠_; omega,by show σ.next + 4≠_; omega⟩
  ·exact ⟨by rw [k4 _ (by show σ.next + 3 < _; omega)]; exact b4,by show σ.next + 3 < _; omega,by show σ.next + 3≠_; omega,by show σ.next + 3≠_; omega⟩
 obtain ⟨σ7,p7,c7,f7,o7⟩:=Am (S:=SD) rfl c6.ca (by omega) rH c.bs.length
 have c7':CS σ7 p σ6.next m (L ++ [op1 rH c.bs.length]) M:=⟨c7,by rw [o7]; exact c6.map,by have:=(f7 m).nx; omega⟩
 have hb7:=hbx.keep (f7 m)
 have f67:=f6.trans (f7 m)
 obtain ⟨σ8,a8,m8,⟨n8,w8⟩,c8,f8⟩:=Xw (S:=SD) rfl rfl rfl c7' (dl:=dSs (nms c)) (l:=nms c) (.inl rfl) (by simp [nms]; omega) d (.fn (.func zhc) [] [.ptr (σ.next + 1) 0,.ptr σ.next 0,.ptr (σ.next + 2) 0,.ptr (σ.next + 4) 0,.ptr (σ.next + 3) 0]) zhc [] [.ptr (σ.next + 1) 0,.ptr σ.next 0,.ptr (σ.next + 2) 0,.ptr (σ.next + 4) 0,.ptr (σ.next + 3) 0] rfl rfl
  (go x (fE M (nms c) d 0) (w64 (d + c.bs.length)) (sK (fun b L=>lz b (fE M (nms c) d 0) (w64 (d + c.bs.length)) L) c.bs.length c.bs 0 (L ++ [op1 rH c.bs.length])))
  (fun τ cτ fτ=>by
   obtain ⟨σ',a',m',h1,h2,h3⟩:=zx0 (lz:=lz) (go:=go) hk (by omega) hlz hmo hg hgo hgm cτ (hb7.keep fτ) hn
   exact ⟨σ',a',m',_,h1,h2,h3⟩)
 refine ⟨σ8,a8,m8,Ev.of (n8 + 1) fun n hN=>?_,c8,f67.trans f8⟩
 rw [eH (af:=zfx) rfl rfl rfl]
 obtain ⟨k,rfl⟩:∃ k,n=k + 1:=⟨n - 1,by omega⟩
 have w8:=w8 (k + 1) (by omega)
 have p7:=p7 k
 have hnm:=zpo (S:=SD) rfl c.bs hl k σ7
 have hln:lenOf (dBl' c.bs)=some c.bs.length:=mM _ _
 have hdl:eJ k_3 (c.bs.map dB)=dBl' c.bs:=rfl
 have u1:=(hb7 (σ.next,[⟨false,.ptr p 0⟩]) (by simp)).1
 have u2:=(hb7 (σ.next + 1,(cCo c).map Cell.of) (by simp)).1
 have u3:=(hb7 (σ.next + 2,[⟨false,.int .i64 d⟩]) (by simp)).1
 have g1:dE σ6.objs σ.next=some [⟨false,.ptr p 0⟩]:=by rw [k4 _ (by omega),d1]
 have hdc:=fC c
 have hco:=yD c
 have hce:=nZ c
 simp only [cCo] at d2 u2
 rw [hdl] at d2 u2
 simp only [aO,aZ] at d2 u2
 generalize eJ k_2 (c.ks.map dCo)=kd at *
 generalize eJ k_4 (c.al.map dA)=ad at *
 simp only [rH] at p7
 simp only [nms] at w8
 simp only [bnF] at hnm
 have hlf:(mT g p).cells=[mT g p]:=rfl
 have hlo:(mT g p).ok=true:=rfl
 simp only [zfx,sA,Nat.reduceAdd,Nat.reduceSub,Nat.reduceMul,Nat.reduceBEq,Nat.reduceLeDiff,Int.reduceBEq,Int.reduceBNe,Int.reduceLE,Int.reduceLT,Int.reduceGE,Int.reduceGT,Int.reduceNeg,kn,eI,mB,← e1,n1,hco,hce,← e2,n2,← e3,n3,hlf,hlo,← e4,d2,hln,n4,← e5,b5,← e6,g1,g5,p7,u1,u2,u3,jW,hnm,w8]
end Go.Fu
