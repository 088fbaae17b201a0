/-
 A case's code.
-/
import Derived.Test.YtldfbnbckiifeaaGreatDoorFgDl
set_option maxHeartbeats 4000000
set_option linter.unusedSimpArgs false
set_option linter.unusedVariables false
set_option linter.unusedSectionVars false
namespace Go.Fu
open Go Go.Mx
set_option maxRecDepth 10000
set_option maxHeartbeats 4000000
theorem zih (st:Bool) (h:Hd) (L:List In):L.length≤(nU st h L).length:=by
 unfold nU
 cases st <;> cases h.form == 1 <;> simp only [dJ,dH,aF,aG,aH] <;> omega
theorem zuj (h:Hd):1≤(nH h).length:=by
 unfold nH
 cases h.form == 1 <;> cases h.form == 2 <;> simp only [dJ,dH,aG,aH] <;> omega
theorem Vl (st:Bool) (body:Co→At→Int→List In→List In) (M:At) (d:Int) (a:Hd × Co) (s:List In × List Nat):(mD st body M d a s).1.length=(nU st a.1 (body a.2 (fE M a.1.vars.reverse d 0) (w64 (d + a.1.vars.length)) (s.1 ++ nH a.1))).length:=by
 unfold mD
 cases (a.1.form == 1 || a.1.form == 2) <;> simp only [dJ,dH,yL]
theorem zdl (st:Bool) {body:Co→At→Int→List In→List In} (M:At) (d:Int) (a:Hd × Co) (s:List In × List Nat) (h:qQ (body a.2)):s.1.length≤(mD st body M d a s).1.length:=by
 have h1:=h (fE M a.1.vars.reverse d 0) (w64 (d + a.1.vars.length)) (s.1 ++ nH a.1)
 have h2:=zih st a.1 (body a.2 (fE M a.1.vars.reverse d 0) (w64 (d + a.1.vars.length)) (s.1 ++ nH a.1))
 rw [Vl]
 rw [aF] at h1
 omega
theorem xX (st:Bool) {body:Co→At→Int→List In→List In} (M:At) (d:Int):∀ (l:List (Hd × Co)) (s:List In × List Nat),(∀ a∈l,qQ (body a.2))→s.1.length≤(iZ st body M d l s).1.1.length
 | [],s,_=>aM _
 | a :: l,s,h=>by
  have h1:=zdl st M d a s (h a (aQ ..))
  have h2:=xX st M d l (mD st body M d a s) fun x hx=>h x (aI _ hx)
  unfold iZ
  cases a.1.form == 3 <;> simp only [dJ,dH] <;> omega
theorem Ea (st b:Bool) (L:List In):L.length≤(wM st b L).length:=by
 unfold wM
 cases st <;> cases b <;> simp only [dJ,dH,aF,aG,aH] <;> omega
def zcf (st:Bool) (xb:Nat):D:=.fn (.func (ifB st Zf Zg)) [] [.ptr xb 0]
def Ecle (p:Nat) (be en:D) (db gb:Nat) (c:Co):Env:={slots:=[(0,⟨false,.ptr p 0⟩),(4,⟨false,be⟩),(5,⟨false,en⟩),(8,⟨false,.ptr db 0⟩),(9,⟨false,.ptr gb 0⟩),(24,⟨false,aD c⟩),(25,⟨false,.int .i64 c.al.length⟩),(26,⟨false,.int .i64 c.al.length⟩),(27,⟨false,.bool false⟩)],locs:=[],boxes:=[],defers:=[]}
theorem zcob {C:dQ} {n:Nat} (p:Nat) (be en:D) (db gb:Nat) (c:Co) (i:Nat) (hi:i < 1000000000) (σ:Store):exec C n none (mV (mV (mV K0))) (Ekr p be en db gb c i false) σ=some (.normal,Ecl p be en db gb c (i + 1),σ):=by
 have w:=dV (i:=i) (by omega)
 simp only [K0,yP,mV,Ekr,Ecl,sA,Nat.reduceAdd,Nat.reduceSub,Nat.reduceMul,Nat.reduceBEq,Nat.reduceLeDiff,Int.reduceBEq,Int.reduceBNe,Int.reduceLE,Int.reduceLT,Int.reduceGE,Int.reduceGT,Int.reduceNeg,kn,w]
theorem zbub (st:Bool) {body:Co→At→Int→List In→List In} {g:FuncId} (hg:isY g=false) (c:Co) (i:Nat) (hi:i < c.al.length) (hil:c.al.length < 100000000) (hgo:Okf g c.al[i].2 (body c.al[i].2)) (hgm:qQ (body c.al[i].2)) {σ:Store} {p a m eb ea:Nat} {L:List In} {M:At} {es:List (Nat × Nat × Nat)} (h:CS σ p a m L M) (hk:KX st σ p a eb ea es) {d:Int} {xb db gb:Nat}
  (hb:BxV σ (VX st p eb a ea) [(xb,[⟨false,.ptr p 0⟩]),(db,[⟨false,.int .i64 d⟩]),(gb,[⟨false,mT g p⟩])]) (hv:c.al[i].1.vars.length < 100000000) (he:es.length < 100000000) (hlen:(mD st body M d c.al[i] (L,es.map Prod.fst)).1.length < 50000000) (en:D) :
  ∃ σ' a' m' ea' es' n0,(∀ N n,n0≤N→exec (W SD N) n none K0 (Ecl p (oL st xb eb) en db gb c i) σ=ifB (c.al[i].1.form == 3) (some (.ret,Ekr p (oL st xb eb) en db gb c i true,σ')) (some (.normal,Ecl p (oL st xb eb) en db gb c (i + 1),σ'))) ∧
   CS σ' p a' m' (mD st body M d c.al[i] (L,es.map Prod.fst)).1 M∧KX st σ' p a' eb ea' es'∧es'.map Prod.fst=(mD st body M d c.al[i] (L,es.map Prod.fst)).2∧FrV (VX st p eb a ea) (VX st p eb a' ea') m m' σ σ':=by
 have hp:=h.ca.pn
 have ha:=h.ca.an
 obtain ⟨zs,hz⟩:∃ zs:List Cell,zs=([.int .i64 0,.int .i64 0,.str [],.nils,.int .i64 0,.int .i64 0,.str [],.int .i64 0,.int .i64 0,.str [],.nils,.nils,.nils,.nils]:List D).map Cell.of:=⟨_,rfl⟩
 obtain ⟨σ1,e1⟩:∃ σ1,σ1=GA σ zsq zs:=⟨_,rfl⟩
 obtain ⟨σ2,e2⟩:∃ σ2,σ2=SO σ1 σ.next (cAl c.al[i]):=⟨_,rfl⟩
 have n2:σ2.next=σ.next + 1:=by rw [e2,gQ,e1,fW]
 have f2:FrA σ σ2:=by
  rw [e2,e1]
  exact FrA.ga.so (aM _)
 have hv2:∀ j,σ.next≤j→¬ VX st p eb a ea j:=fun j hj e=>by
  rcases e with e | e | ⟨e,e3⟩
  ·omega
  ·omega
  ·have:=(hk.1 e).ne
   omega
 have b2:BxV σ2 (VX st p eb a ea) [(xb,[⟨false,.ptr p 0⟩]),(db,[⟨false,.int .i64 d⟩]),(gb,[⟨false,mT g p⟩]),(σ.next,cAl c.al[i])]:=fun q hq=>by
  simp only [aS,aK,or_false] at hq
  have hbk:=hb.keep (f2.v (VX st p eb a ea) m)
  rcases hq with rfl | rfl | rfl | rfl
  ·exact hbk _ (by simp)
  ·exact hbk _ (by simp)
  ·exact hbk _ (by simp)
  ·exact ⟨by rw [e2,jS],by show σ.next < _; omega,hv2 _ (aM _)⟩
 have hab:=b2 (σ.next,cAl c.al[i]) (by simp)
 have hal:=Vl st body M d c.al[i] (L,es.map Prod.fst)
 simp only at hal
 rw [hal] at hlen
 have hmb:=hgm (fE M c.al[i].1.vars.reverse d 0) (w64 (d + c.al[i].1.vars.length)) (L ++ nH c.al[i].1)
 have hmc:=zih st c.al[i].1 (body c.al[i].2 (fE M c.al[i].1.vars.reverse d 0) (w64 (d + c.al[i].1.vars.length)) (L ++ nH c.al[i].1))
 have hhl:=zuj c.al[i].1
 rw [aF] at hmb
 have fin3:∀ (fin:List In→List In) (σ':Store) (n0:Nat) (σ3:Store) (nx:D),(∀ n N,1≤N→exec (W SD N) n none KF (Eca' p (oL st xb eb) en db gb σ.next wJ c i) σ2=some (.normal,Eca' p (oL st xb eb) en db gb σ.next nx c i,σ3)) →
   (∀ N n,n0≤N→exec (W SD N) n none KR (Eca' p (oL st xb eb) en db gb σ.next nx c i) σ3=some (ifB (c.al[i].1.form == 3) .ret .normal,Ekr p (oL st xb eb) en db gb c i (c.al[i].1.form == 3),σ')) →
   ∀ N n,max n0 1≤N→exec (W SD N) n none K0 (Ecl p (oL st xb eb) en db gb c i) σ=ifB (c.al[i].1.form == 3) (some (.ret,Ekr p (oL st xb eb) en db gb c i true,σ')) (some (.normal,Ecl p (oL st xb eb) en db gb c (i + 1),σ')):=by
  intro fin σ' n0 σ3 nx hKF hKR N n hN
  have hKF:=hKF n N (by omega)
  have hKR:=hKR N n (by omega)
  have hin:=zcob (C:=W SD N) (n:=n) p (oL st xb eb) en db gb c i (by omega) σ'
  have hk2:=kw2 (C:=W SD N) (n:=n) (.seq KF KR) p (oL st xb eb) en db gb c i hi σ σ1 σ2 zs e1 hz e2
  rw [← zg1b] at hk2
  rw [zg0b,kw1 _ _ _ _ _ _ _ _ hi,Vp,Yq,hk2,Vp,hKF,Dc,hKR]
  cases hf:c.al[i].1.form == 3 with
  | true=>rfl
  | false =>
   rw [hf] at hKR
   simp only [dH,Lo,Dc]
   exact hin
 rcases zuk (h.fa f2) c.al[i] hab.1 ⟨hab.2.1,by omega,by omega⟩ (by omega) (oL st xb eb) en db gb c i with ⟨σ3,a3,nx,g1,g2,g3,g4,bx,bk,rfl,g5,g6,g7⟩ | ⟨σ3,a3,g1,g2,g3,g4⟩
 ·have k3:=(hk.keep (f2.frm p a m)).keep g3
  have b3:=b2.keep (g3.v st eb ea)
  have bl:BxV σ3 (VX st p eb a3 ea) [(bx,[⟨false,.ptr p 0⟩]),(bk,[⟨false,.int .i64 L.length⟩])]:=fun q hq=>by
   simp only [aS,aK,or_false] at hq
   have hnv:∀ j,σ2.next≤j→j≠a3→¬ VX st p eb a3 ea j:=fun j hj hja e=>by
    rcases e with e | e | ⟨e,e3⟩
    ·omega
    ·exact hja e
    ·have:=(hk.1 e).ne
     omega
   rcases hq with rfl | rfl
   ·exact ⟨g5.x,g5.xn,hnv _ g6 g5.xp.2⟩
   ·exact ⟨g5.k,g5.kn,hnv _ g7 g5.kp.2⟩
  obtain ⟨σ',a',m',ea',es',n0,r1,r2,r3,r4,r5⟩:=zuu st hg hgo hgm g2 k3 (d:=d) (xb:=xb) (db:=db) (gb:=gb) (ab:=σ.next) (bl:=[(bx,[⟨false,.ptr p 0⟩]),(bk,[⟨false,.int .i64 L.length⟩])]) (fun q hq=>by
    simp only [aS,aK,or_false] at hq
    rcases hq with rfl | rfl | rfl | rfl | rfl | rfl
    ·exact b3 _ (by simp)
    ·exact b3 _ (by simp)
    ·exact b3 _ (by simp)
    ·exact b3 _ (by simp)
    ·exact bl _ (by simp)
    ·exact bl _ (by simp)) (mG bx bk) (fun L'=>uE L' L.length L'.length)
   (fun τ a' m' ea' L' cτ bτ hL=>by
    have x1:=bτ (bx,[⟨false,.ptr p 0⟩]) (by simp)
    have x2:=bτ (bk,[⟨false,.int .i64 L.length⟩]) (by simp)
    rw [aF] at hL
    obtain ⟨τ',y1,y2,y3⟩:=zdw (S:=SD) rfl cτ (k:=L.length) (bx:=bx) (bk:=bk) ⟨x1.1,x2.1,x1.2.1,x2.2.1,⟨fun e=>x1.2.2 (.inl e),fun e=>x1.2.2 (.inr (.inl e))⟩,⟨fun e=>x2.2.2 (.inl e),fun e=>x2.2.2 (.inr (.inl e))⟩⟩ (by omega)
    exact ⟨τ',Sr,[.ptr bx 0,.ptr bk 0],rfl,y1,y2,y3⟩) hv he hlen en c i
  refine ⟨σ',a',m',ea',es',_,fin3 id σ' n0 σ3 _ g1 r1,?_,r3,?_,((f2.v _ m).trans (g3.v st eb ea)).trans r5⟩
  ·unfold mD
   rw [g4]
   exact r2
  ·unfold mD
   exact r4
 ·have k3:=(hk.keep (f2.frm p a m)).keep g3
  have b3:=b2.keep (g3.v st eb ea)
  obtain ⟨σ',a',m',ea',es',n0,r1,r2,r3,r4,r5⟩:=zuu st hg hgo hgm g2 k3 (d:=d) (xb:=xb) (db:=db) (gb:=gb) (ab:=σ.next) (bl:=[]) b3 wJ id
   (fun τ a' m' ea' L' cτ bτ hL=>⟨τ,zha,[],rfl,fun n=>zp5 n,cτ,Frm.refl⟩) hv he hlen en c i
  refine ⟨σ',a',m',ea',es',_,fin3 id σ' n0 σ3 _ g1 r1,?_,r3,?_,((f2.v _ m).trans (g3.v st eb ea)).trans r5⟩
  ·unfold mD
   rw [g4]
   exact r2
  ·unfold mD
   exact r4
end Go.Fu
namespace Go.Fu
open Go Go.Mx
set_option maxRecDepth 10000
set_option maxHeartbeats 4000000
theorem zn3 (st:Bool) {body:Co→At→Int→List In→List In} {g:FuncId} (hg:isY g=false) (c:Co) (hil:c.al.length < 50000000) (hgo:∀ a∈c.al,Okf g a.2 (body a.2)) (hgm:∀ a∈c.al,qQ (body a.2)) (hv:∀ a∈c.al,a.1.vars.length < 100000000) {p eb:Nat} {M:At} {d:Int} {xb db gb:Nat} (en:D) :
  ∀ (rest done:List (Hd × Co)) (L:List In) (es:List (Nat × Nat × Nat)) (σ:Store) (a m ea:Nat),c.al=done ++ rest→CS σ p a m L M→KX st σ p a eb ea es→BxV σ (VX st p eb a ea) [(xb,[⟨false,.ptr p 0⟩]),(db,[⟨false,.int .i64 d⟩]),(gb,[⟨false,mT g p⟩])]→es.length≤done.length→(iZ st body M d rest (L,es.map Prod.fst)).1.1.length < 50000000 →
  ∃ σ' a' m' ea' es' n0,(∀ N n,n0≤N→rest.length < n→∃ e,gU (exec (W SD N) N none K0) n (Ecl p (oL st xb eb) en db gb c done.length) σ=some (ifB (iZ st body M d rest (L,es.map Prod.fst)).2 (.exit 0) .ret,e,σ')∧e.defers=[]∧((iZ st body M d rest (L,es.map Prod.fst)).2=true→e=Ecle p (oL st xb eb) en db gb c)) ∧
   CS σ' p a' m' (iZ st body M d rest (L,es.map Prod.fst)).1.1 M∧KX st σ' p a' eb ea' es'∧es'.map Prod.fst=(iZ st body M d rest (L,es.map Prod.fst)).1.2∧FrV (VX st p eb a ea) (VX st p eb a' ea') m m' σ σ'
 | [],done,L,es,σ,a,m,ea,hd,h,hk,hb,he,hn=>by
  refine ⟨σ,a,m,ea,es,0,fun N n _ hn=>?_,h,hk,rfl,FrA.refl.v _ _⟩
  obtain ⟨n,rfl⟩:∃ k,n=k + 1:=⟨n - 1,by omega⟩
  have e:done.length=c.al.length:=by rw [hd]; simp
  obtain ⟨e2,h1,h2⟩:=kw1e (C:=W SD N) (n:=N) p (oL st xb eb) en db gb c σ
  rw [e]
  exact ⟨e2,kT h1,by rw [h2],fun _=>h2⟩
 | al :: rest,done,L,es,σ,a,m,ea,hd,h,hk,hb,he,hn=>by
  have hi:done.length < c.al.length:=by rw [hd]; simp
  have hs:c.al[done.length]=al:=by
   have:∀ (l:List (Hd × Co)) (hl:l=done ++ al :: rest) (hi:done.length < l.length),l[done.length]=al:=fun l hl hi=>by subst hl; simp
   exact this _ hd hi
  have hm:al∈c.al:=by rw [hd]; simp
  have hmo:∀ x∈rest,qQ (body x.2):=fun x hx=>hgm x (by rw [hd]; simp [hx])
  have h2:=xX st M d rest (mD st body M d al (L,es.map Prod.fst)) hmo
  have hal:(mD st body M d al (L,es.map Prod.fst)).1.length < 50000000:=by
   unfold iZ at hn
   cases hf:al.1.form == 3 with
   | true=>rw [hf] at hn; exact hn
   | false=>rw [hf,dH] at hn; omega
  obtain ⟨σ1,a1,m1,ea1,es1,n1,r1,r2,r3,r4,r5⟩:=zbub st hg c done.length hi (by omega) (by rw [hs]; exact hgo al hm) (by rw [hs]; exact hgm al hm) h hk hb (by rw [hs]; exact hv al hm) (by omega) (by rw [hs]; exact hal) en
  rw [hs] at r1 r2 r4
  unfold iZ at hn ⊢
  cases hf:al.1.form == 3 with
  | true =>
   rw [hf] at r1
   simp only [hf,dJ] at r1 hn ⊢
   refine ⟨σ1,a1,m1,ea1,es1,n1,fun N n hN hn=>?_,r2,r3,r4,r5⟩
   obtain ⟨n,rfl⟩:∃ k,n=k + 1:=⟨n - 1,by omega⟩
   exact ⟨_,zd2 (r1 N N hN),rfl,fun e=>by cases e⟩
  | false =>
   rw [hf] at r1
   simp only [hf,dH] at r1 hn ⊢
   have hes:es1.length≤(done ++ [al]).length:=by
    have:=congrArg List.length r4
    rw [aJ] at this
    rw [this]
    unfold mD
    cases st <;> simp only [dJ,dH,aF,aJ,aG,aH] <;> omega
   have hpair:mD st body M d al (L,es.map Prod.fst)=((mD st body M d al (L,es.map Prod.fst)).1,es1.map Prod.fst):=by rw [r4]
   rw [hpair] at hn ⊢
   obtain ⟨σ2,a2,m2,ea2,es2,n2,q1,q2,q3,q4,q5⟩:=zn3 st hg c hil hgo hgm hv en rest (done ++ [al]) _ es1 σ1 a1 m1 ea1 (by rw [hd]; simp) r2 r3 (hb.keep r5) hes hn
   refine ⟨σ2,a2,m2,ea2,es2,max n1 n2,fun N n hN hn=>?_,q2,q3,q4,r5.trans q5⟩
   obtain ⟨n,rfl⟩:∃ k,n=k + 1:=⟨n - 1,by omega⟩
   rw [iJ (r1 N N (by omega))]
   have:=q1 N n (by omega) (by simp at hn; omega)
   simpa only [aF,aG,aH,aN] using this
theorem Dv' (st:Bool) {body:Co→At→Int→List In→List In} {g:FuncId} (hg:isY g=false) (c:Co) (hil:c.al.length < 50000000) (hgo:∀ a∈c.al,Okf g a.2 (body a.2)) (hgm:∀ a∈c.al,qQ (body a.2)) (hv:∀ a∈c.al,a.1.vars.length < 100000000) {x:Co} (hks:c.ks=[x]) {F0:At→Int→List In→List In} (hF:Okf Bo x F0)
  {σ:Store} {p a m eb ea xb:Nat} {L:List In} {M:At} {d:Int} (h:CS σ p a m L M) (hk:KX st σ p a eb ea []) (hxb:BxV σ (VX st p eb a ea) [(xb,[⟨false,.ptr p 0⟩])]) (hn:(wM st (iZ st body M d c.al (F0 M d L,[])).2 (iZ st body M d c.al (F0 M d L,[])).1.1).length < 50000000) :
  ∃ σ' a' m' ea' es',Ev SD zrh [.ptr p 0,dCo c,.int .i64 d,mT g p,oL st xb eb,zcf st xb] σ σ'∧CS σ' p a' m' (wM st (iZ st body M d c.al (F0 M d L,[])).2 (iZ st body M d c.al (F0 M d L,[])).1.1) M∧KX st σ' p a' eb ea' es'∧es'.map Prod.fst=(iZ st body M d c.al (F0 M d L,[])).1.2∧FrV (VX st p eb a ea) (VX st p eb a' ea') m m' σ σ':=by
 have hp:=h.ca.pn
 have ha:=h.ca.an
 have hm1:=Ea st (iZ st body M d c.al (F0 M d L,[])).2 (iZ st body M d c.al (F0 M d L,[])).1.1
 have hm2:=xX st M d c.al (F0 M d L,[]) hgm
 obtain ⟨σ1,e1⟩:∃ σ1,σ1=GA σ wB [⟨false,.int .i64 d⟩]:=⟨_,rfl⟩
 obtain ⟨σ2,e2⟩:∃ σ2,σ2=GA σ1 zh3 [⟨false,mT g p⟩]:=⟨_,rfl⟩
 have n1:σ1.next=σ.next + 1:=by rw [e1,fW]
 have n2:σ2.next=σ.next + 2:=by rw [e2,fW,n1]
 have f2:FrA σ σ2:=by
  rw [e2]
  refine FrA.trans ?_ FrA.ga
  rw [e1]
  exact FrA.ga
 have d2:dE σ2.objs σ.next=some [⟨false,.int .i64 d⟩]:=by rw [e2,jU (by omega),e1,iN]
 have g2:dE σ2.objs (σ.next + 1)=some [⟨false,mT g p⟩]:=by rw [e2,← n1,iN]
 have hv2:∀ j,σ.next≤j→¬ VX st p eb a ea j:=fun j hj e=>by
  rcases e with e | e | ⟨e,e3⟩
  ·omega
  ·omega
  ·have:=(hk.1 e).ne
   omega
 have b2:BxV σ2 (VX st p eb a ea) [(xb,[⟨false,.ptr p 0⟩]),(σ.next,[⟨false,.int .i64 d⟩]),(σ.next + 1,[⟨false,mT g p⟩])]:=fun q hq=>by
  simp only [aS,aK,or_false] at hq
  rcases hq with rfl | rfl | rfl
  ·exact hxb.keep (f2.v (VX st p eb a ea) m) _ (by simp)
  ·exact ⟨d2,by show σ.next < _; omega,hv2 _ (aM _)⟩
  ·exact ⟨g2,by show σ.next + 1 < _; omega,hv2 _ (by show σ.next≤σ.next + 1; omega)⟩
 obtain ⟨σ3,a3,m3,⟨x3,w3⟩,c3,f3⟩:=hF σ2 p a m L M d (h.fa f2) (by simp only at hm2; omega)
 have b3:=b2.keep (f3.v st eb ea)
 have k3:=(hk.keep (f2.frm p a m)).keep f3
 obtain ⟨σ4,a4,m4,ea4,es4,x4,w4,c4,k4,q4,f4⟩:=zn3 st hg c hil hgo hgm hv (zcf st xb) c.al [] _ [] σ3 a3 m3 ea rfl c3 k3 b3 (Nat.zero_le _) (by simp only [aZ]; omega)
 simp only [aH,aZ] at w4 c4 q4
 have fall:=((f2.v (VX st p eb a ea) m).trans (f3.v st eb ea)).trans f4
 have hdc:=fJ c
 have hon:=jO c
 have i0:=Gn hks 0 (by simp)
 simp only [List.getElem_cons_zero] at i0
 have ga:=agg?_dCo x
 have gl:=Ak x
 have hln:=zjk c
 have hlf:(mT g p).cells=[mT g p]:=rfl
 have hlo:(mT g p).ok=true:=rfl
 have hK:ACode.loop yP=ACode.loop K0:=rfl
 cases hr:(iZ st body M d c.al (F0 M d L,[])).2 with
 | false =>
  refine ⟨σ4,a4,m4,ea4,es4,Ev.of (max (max x3 x4) (c.al.length + 1)) fun n hN=>?_,by rw [wM,dH]; exact c4,k4,q4,fall⟩
  rw [eH (af:=za9) rfl rfl rfl]
  obtain ⟨e,y1,y2,_⟩:=w4 n n (by omega) (by omega)
  have w3:=w3 n (by omega)
  simp only [hr,dH,Ecl,eR] at y1
  simp only [za9,hK,sA,Nat.reduceAdd,Nat.reduceSub,Nat.reduceMul,Nat.reduceBEq,Nat.reduceLeDiff,Int.reduceBEq,Int.reduceBNe,Int.reduceLE,Int.reduceLT,Int.reduceGE,Int.reduceGT,Int.reduceNeg,kn,eI,mB,hdc,hon,← e1,hlf,hlo,n1,← e2,i0,ga,gl,d2,w3,hln,y1,y2]
 | true =>
  rw [hr] at hn hm1
  have hx4:=(b3.keep f4) (xb,[⟨false,.ptr p 0⟩]) (by simp)
  obtain ⟨σ5,a5,m5,⟨x5,w5⟩,c5,f5⟩:=zb7b st c4 hx4.1 ⟨hx4.2.1,fun e=>hx4.2.2 (.inl e),fun e=>hx4.2.2 (.inr (.inl e))⟩ (by omega)
  refine ⟨σ5,a5,m5,ea4,es4,Ev.of (max (max x3 x4) (max x5 (c.al.length + 1))) fun n hN=>?_,c5,k4.keep f5,q4,fall.trans (f5.v st eb ea4)⟩
  rw [eH (af:=za9) rfl rfl rfl]
  obtain ⟨e,y1,y2,y3⟩:=w4 n n (by omega) (by omega)
  have w3:=w3 n (by omega)
  have w5:=w5 n (by omega)
  have y3:=y3 hr
  subst y3
  have hfe:D.fn? (zcf st xb)=some (ifB st Zf Zg,[],[.ptr xb 0]):=by cases st <;> rfl
  simp only [hr,dJ,Ecl,Ecle,eR] at y1
  generalize ifB st Zf Zg=fe at hfe w5
  generalize zcf st xb=en at *
  simp only [za9,hK,sA,Nat.reduceAdd,Nat.reduceSub,Nat.reduceMul,Nat.reduceBEq,Nat.reduceLeDiff,Int.reduceBEq,Int.reduceBNe,Int.reduceLE,Int.reduceLT,Int.reduceGE,Int.reduceGT,Int.reduceNeg,kn,eI,mB,hdc,hon,← e1,hlf,hlo,n1,← e2,i0,ga,gl,d2,w3,hln,y1,hfe,w5]
end Go.Fu
namespace Go.Fu
open Go Go.Mx
set_option maxRecDepth 10000
set_option maxHeartbeats 4000000
theorem zzk {σ:Store} {x y:Oth}:SM (GM σ x) σ.next y=GM σ y:=by
 unfold SM GM
 have h:(σ.next == σ.next)=true:=by simp
 simp only [dZ,h,dJ]
theorem zjr {σ:Store} {es:List (D × D × Nat)} {c:Nat}:rZ (GM σ (.map es c)).oth (.map σ.next)=some (σ.next,es,c):=zjs Rk
theorem zjv {σ:Store} {es:List (D × D × Nat)} {c:Nat}:tZ (GM σ (.map es c)).oth (.map σ.next)=some es:=zjw Rk
def Qq:List (D × D × Nat):=[(.str [97,100,100],.str [65,68,68],0),(.str [115,117,98],.str [83,85,66],1),(.str [109,117,108],.str [77,85,76],2),(.str [100,105,118],.str [68,73,86],3),(.str [101,113],.str [69,81],4),(.str [108,116],.str [76,84],5)]
theorem zdkb (n:Nat) (σ:Store):W SD (n + 1) Zj [] σ=some (.ret ⟨false,.map σ.next⟩,GM σ (.map Qq 6)):=by
 rw [eH (af:=zbe) rfl rfl rfl]
 have f0:jX (.str [97,100,100]) []=some none:=rfl
 have f1:jX (.str [115,117,98]) [(.str [97,100,100],.str [65,68,68],0)]=some none:=rfl
 have f2:jX (.str [109,117,108]) [(.str [97,100,100],.str [65,68,68],0),(.str [115,117,98],.str [83,85,66],1)]=some none:=rfl
 have f3:jX (.str [100,105,118]) [(.str [97,100,100],.str [65,68,68],0),(.str [115,117,98],.str [83,85,66],1),(.str [109,117,108],.str [77,85,76],2)]=some none:=rfl
 have f4:jX (.str [101,113]) [(.str [97,100,100],.str [65,68,68],0),(.str [115,117,98],.str [83,85,66],1),(.str [109,117,108],.str [77,85,76],2),(.str [100,105,118],.str [68,73,86],3)]=some none:=rfl
 have f5:jX (.str [108,116]) [(.str [97,100,100],.str [65,68,68],0),(.str [115,117,98],.str [83,85,66],1),(.str [109,117,108],.str [77,85,76],2),(.str [100,105,118],.str [68,73,86],3),(.str [101,113],.str [69,81],4)]=some none:=rfl
 simp only [zbe,sA,Nat.reduceAdd,Nat.reduceSub,Nat.reduceMul,Nat.reduceBEq,Nat.reduceLeDiff,Int.reduceBEq,Int.reduceBNe,Int.reduceLE,Int.reduceLT,Int.reduceGE,Int.reduceGT,Int.reduceNeg,kn,eI,mB,zjr,rR,f0,f1,f2,f3,f4,f5,zzk,fR,bG,aW,aN,Nat.reduceAdd]
 rfl
theorem zkd (s:Tx):∃ r,jX (.str s) Qq=some r∧eZ r (D.str []) (fun v=>v.1)=.str (Aa s):=by
 unfold Aa Qq
 simp only [jX,zaq,dG,dK]
 cases s == [97,100,100] <;> cases s == [115,117,98] <;> cases s == [109,117,108] <;> cases s == [100,105,118] <;> cases s == [101,113] <;> cases s == [108,116] <;> exact ⟨_,rfl,rfl⟩
theorem zdq (body:Co→At→Int→List In→List In) (M:At) (d:Int):∀ (l:List (Hd × Co)) (s:List In × List Nat),(∀ a∈l,qQ (body a.2))→(∀ e∈s.2,e < s.1.length)→∀ e∈(iZ true body M d l s).1.2,e < (iZ true body M d l s).1.1.length
 | [],s,_,h=>h
 | a :: l,s,hm,h=>by
  have h0:∀ e∈(mD true body M d a s).2,e < (mD true body M d a s).1.length:=by
   intro e he
   have h1:=Vl true body M d a s
   have h2:=zdl true M d a s (hm a (aQ ..))
   have h3:1≤(nU true a.1 (body a.2 (fE M a.1.vars.reverse d 0) (w64 (d + a.1.vars.length)) (s.1 ++ nH a.1))).length:=by
    unfold nU
    simp only [dJ,aF,aG,aH]
    omega
   unfold mD at he
   simp only [dJ,bJ,bO] at he
   rcases he with he | he
   ·have:=h e he; omega
   ·omega
  unfold iZ
  cases a.1.form == 3 with
  | true=>exact h0
  | false=>exact zdq body M d l _ (fun x hx=>hm x (aI _ hx)) h0
theorem zq4 (l:List Nat) (L:List In):L.length≤(Ji l L).length:=by rw [Pi]; exact aM _
theorem nR:∀ (n:Nat) (c:Co),qQ (stS n c)
 | 0,c=>fun M d L=>aM _
 | n + 1,c=>fun M d L=>by
  have h1:=Eb (lz:=fun b=>lzS b.size b) (go:=stS n) c (fun b _=>kM _ b.2) (nR n (kid c 0)) M d L
  have h2:=nR n (kid c 0) M d L
  have h3:=nR n (kid c 1) M (w64 (d + 1)) (stS n (kid c 0) M d L)
  have h4:=xX true M d c.al (stS n (kid c 0) M d L,[]) (fun a _=>nR n a.2)
  have h5:=Ea true (iZ true (stS n) M d c.al (stS n (kid c 0) M d L,[])).2 (iZ true (stS n) M d c.al (stS n (kid c 0) M d L,[])).1.1
  have h6:=kM c.size c M d L
  have h7:=zq4 (iZ true (stS n) M d c.al (stS n (kid c 0) M d L,[])).1.2 (wM true (iZ true (stS n) M d c.al (stS n (kid c 0) M d L,[])).2 (iZ true (stS n) M d c.al (stS n (kid c 0) M d L,[])).1.1)
  simp only at h4
  unfold stS
  cases c.f == 8 <;> cases c.f == 10 <;> cases c.f == 11 <;> cases c.f == 9 <;> simp only [dJ,dH,aF,aG,aH] <;> omega
def Eln (ea:Nat) (es:List (Nat × Nat × Nat)) (i:Nat):Env:={slots:=[(67,⟨false,sG ea es⟩),(68,⟨false,.int .i64 es.length⟩),(69,⟨false,.int .i64 i⟩)],locs:=[],boxes:=[],defers:=[]}
theorem zfkb (C:dQ) (n:Nat) (ea:Nat) (es:List (Nat × Nat × Nat)) (σ:Store):exec C n none Yb (Eln ea es es.length) σ=some (.exit 1,{Eln ea es es.length with slots:=[(67,⟨false,sG ea es⟩),(68,⟨false,.int .i64 es.length⟩),(69,⟨false,.int .i64 es.length⟩),(70,⟨false,.bool false⟩)]},σ):=by
 have hlt:¬ ((es.length:Int) < (es.length:Int)):=by omega
 simp only [Yb,Eln,sA,Nat.reduceAdd,Nat.reduceSub,Nat.reduceMul,Nat.reduceBEq,Nat.reduceLeDiff,Int.reduceBEq,Int.reduceBNe,Int.reduceLE,Int.reduceLT,Int.reduceGE,Int.reduceGT,Int.reduceNeg,kn,hlt]
theorem zfqb (es:List (Nat × Nat × Nat)) (i:Nat) (h:i < es.length):nth (cF es) (i * 1)=some ⟨false,mG es[i].2.1 es[i].2.2⟩:=by
 rw [Nat.mul_one,cF,Gq,Gp _ _ h]
 rfl
theorem zop {p eb ea a m:Nat} {M:At} {es:List (Nat × Nat × Nat)} (hl:es.length < 1000000000):∀ (rest done:List (Nat × Nat × Nat)) (L:List In) (σ:Store),es=done ++ rest→CS σ p a m L M→KE σ p a eb ea es→(∀ q∈es,q.1 < L.length) →
  ∃ σ',(∀ N n,1≤N→rest.length < n→gU (exec (W SD N) N none Yb) n (Eln ea es done.length) σ=some (.exit 1,{Eln ea es es.length with slots:=[(67,⟨false,sG ea es⟩),(68,⟨false,.int .i64 es.length⟩),(69,⟨false,.int .i64 es.length⟩),(70,⟨false,.bool false⟩)]},σ'))∧CS σ' p a m (Ji (rest.map Prod.fst) L) M∧Frm p a m a m σ σ'
 | [],done,L,σ,hd,h,hk,hq=>by
  refine ⟨σ,fun N n _ hn=>?_,h,Frm.refl⟩
  obtain ⟨n,rfl⟩:∃ k,n=k + 1:=⟨n - 1,by omega⟩
  have e:done.length=es.length:=by rw [hd]; simp
  rw [e]
  exact kT (zfkb (W SD N) N ea es σ)
 | q :: rest,done,L,σ,hd,h,hk,hq=>by
  have hi:done.length < es.length:=by rw [hd]; simp
  have hs:es[done.length]=q:=by
   have:∀ (l:List (Nat × Nat × Nat)) (hl:l=done ++ q :: rest) (hi:done.length < l.length),l[done.length]=q:=fun l hl hi=>by subst hl; simp
   exact this _ hd hi
  have hm:q∈es:=by rw [hd]; simp
  have hne:es≠[]:=fun e=>by rw [e] at hm; cases hm
  obtain ⟨g1,g2,g3,g4,g5⟩:=hk.hf q hm
  obtain ⟨σ1,h1,h2,h3⟩:=zdw (S:=SD) rfl h g1 (hq q hm)
  obtain ⟨σ2,r1,r2,r3⟩:=zop hl rest (done ++ [q]) _ σ1 (by rw [hd]; simp) h2 (hk.keep h3) (fun x hx=>by rw [yL]; exact hq x hx)
  simp only [aF,aG,aH,aN] at r1
  refine ⟨σ2,fun N n hN hn=>?_,r2,h3.trans r3⟩
  obtain ⟨n,rfl⟩:∃ k,n=k + 1:=⟨n - 1,by omega⟩
  obtain ⟨N,rfl⟩:∃ k,N=k + 1:=⟨N - 1,by omega⟩
  rw [iJ ?_]
  ·exact r1 (N + 1) n hN (by simp at hn; omega)
  ·have hlt:((done.length:Int) < (es.length:Int)):=by omega
   have w:=dV (i:=done.length) (by omega)
   have hla:sG ea es=.arr gR ea 0 es.length:=by
    cases es with
    | nil=>exact absurd rfl hne
    | cons x l=>rfl
   have ha:=(hk.arr hne).1
   have hn:=zfqb es done.length hi
   rw [hs] at hn
   have es1:(gR.sz == 1)=true:=rfl
   have h1:=h1 N
   have hfn:D.fn? (mG q.2.1 q.2.2)=some (Sr,[],[.ptr q.2.1 0,.ptr q.2.2 0]):=rfl
   simp only [Yb,Eln,hla,sA,Nat.reduceAdd,Nat.reduceSub,Nat.reduceMul,Nat.reduceBEq,Nat.reduceLeDiff,Int.reduceBEq,Int.reduceBNe,Int.reduceLE,Int.reduceLT,Int.reduceGE,Int.reduceGT,Int.reduceNeg,kn,hlt,fL,mH,es1,hi,aN,ha,hn,hfn,h1,w]
end Go.Fu
namespace Go.Fu
open Go Go.Mx
set_option maxRecDepth 10000
set_option maxHeartbeats 4000000
theorem FrA.to {σ σ1 σ':Store} {p a m a' m':Nat} (h:FrA σ σ1) (k:Frm p a m a' m' σ1 σ'):Frm p a m a' m' σ σ':=(h.frm p a m).trans k
theorem zny {c:Co} (h:c.size < 100000000):∀ a∈c.al,a.1.vars.length < 100000000:=fun a ha=>by
 have:=lU c.al a ha
 have:=iV c
 omega
theorem FrV.frm {st:Bool} {p a eb ea m a' m' ea':Nat} {σ σ':Store} (h:FrV (VX st p eb a ea) (VX st p eb a' ea') m m' σ σ') {σ0:Store} (h0:FrA σ0 σ) (hpa:p≠a') (he:σ0.next≤eb∧σ0.next≤ea):Frm p a m a' m' σ0 σ':=by
 have hn:=h0.nx
 refine ⟨Nat.le_trans h0.nx h.nx,fun j hj h1 h2=>?_,fun j hj=>?_,fun j hj hm=>?_,?_,?_⟩
 ·rw [h.ob j (by omega) (fun e=>by rcases e with e | e | ⟨_,e | e⟩ <;> omega),h0.ob j hj]
 ·rw [h.ty j (by omega),h0.ty j hj]
 ·rw [h.ot j (by omega) hm,h0.ot j hj]
 ·rcases h.fv a' (.inr (.inl rfl)) with (e | e | ⟨_,e | e⟩) | e
  ·exact absurd e.symm hpa
  ·exact .inl e
  ·exact .inr (by omega)
  ·exact .inr (by omega)
  ·exact .inr (by omega)
 ·rcases h.fm with e | e
  ·exact .inl e
  ·exact .inr (by omega)
theorem zio (st:Bool) (body:Co→At→Int→List In→List In) (M:At) (d:Int):∀ (l:List (Hd × Co)) (s:List In × List Nat),(iZ st body M d l s).1.2.length≤s.2.length + l.length
 | [],s=>aM _
 | a :: l,s=>by
  have h0:(mD st body M d a s).2.length≤s.2.length + 1:=by
   unfold mD
   cases st <;> simp only [dJ,dH,aF,aG,aH] <;> omega
  have h1:=zio st body M d l (mD st body M d a s)
  unfold iZ
  cases a.1.form == 3 <;> simp only [dJ,dH,aG] <;> omega
theorem zxy (ea:Nat) (es:List (Nat × Nat × Nat)):lenOf (sG ea es)=some es.length:=by cases es <;> rfl
theorem za2 {B:Nat}:∀ (n:Nat) (c:Co),c.size≤n→c.size < 40000000→Fl B false c→Okf Bo c (stS n c):=by
 intro n
 induction n with
 | zero=>intro c h; have:=kO c; omega
 | succ n ih =>
  intro c hn hsz hf σ p a m L M d h hl
  have hp:=h.ca.pn
  have ha:=h.ca.an
  have hse:=iV c
  have hdc:=fJ c
  have hon:=jO c
  have hlL:L.length < 100000000:=by have:=nR (n + 1) c M d L; omega
  obtain ⟨σ1,e1⟩:∃ σ1,σ1=GA σ xG [⟨false,.ptr p 0⟩]:=⟨_,rfl⟩
  have n1:σ1.next=σ.next + 1:=by rw [e1,fW]
  have fA:FrA σ σ1:=by rw [e1]; exact FrA.ga
  have h1:=h.fa fA
  have x1:dE σ1.objs σ.next=some [⟨false,.ptr p 0⟩]:=by rw [e1,iN]
  have hbx:Bx σ1 p a [(σ.next,[⟨false,.ptr p 0⟩])]:=fun q hq=>by
   rw [bO] at hq
   subst hq
   exact ⟨x1,by show σ.next < _; omega,by show σ.next≠p; omega,by show σ.next≠a; omega⟩
  have plain:(c.f=1∨c.f=2∨c.f=3∨c.f=4)→Nc Bo [.ptr p 0,dCo c,.int .i64 d] σ p a m (stS (n + 1) c M d L) M:=fun hff=>by
   have e8:(c.f == 8)=false:=beq_false_of_ne (by omega)
   have e10:(c.f == 10)=false:=beq_false_of_ne (by omega)
   have e11:(c.f == 11)=false:=beq_false_of_ne (by omega)
   have e9:(c.f == 9)=false:=beq_false_of_ne (by omega)
   unfold stS at hl ⊢
   rw [e8,e10,e11,e9,dH,dH,dH,dH] at hl ⊢
   have hm:=kM c.size c M d L
   simp only [aF,aG,aH] at hl
   obtain ⟨σ2,a2,m2,⟨k2,w2⟩,c2,f2⟩:=Jj c.size c false (aM _) (by omega) hf (.inr hff) σ1 p a m L M d h1 (by omega)
   obtain ⟨σ3,w3,c3,f3⟩:=jZ c2 (by omega) zan 0
   refine ⟨σ3,_,_,Ev.of (k2 + 1) fun k hk=>?_,c3,fA.to (f2.trans f3)⟩
   obtain ⟨k,rfl⟩:∃ j,k=j + 1:=⟨k - 1,by omega⟩
   rw [eH (af:=yQ) rfl rfl rfl]
   have w2:=w2 (k + 1) (by omega)
   have w3:=w3 k
   have x2:=(hbx.keep f2 _ (bO.2 rfl)).1
   rw [hdc] at w2
   simp only [zan] at w3
   simp only [yQ,sA,Nat.reduceAdd,Nat.reduceSub,Nat.reduceMul,Nat.reduceBEq,Nat.reduceLeDiff,Int.reduceBEq,Int.reduceBNe,Int.reduceLE,Int.reduceLT,Int.reduceGE,Int.reduceGT,Int.reduceNeg,kn,eI,mB,hdc,hon,← e1,e8,e10,e11,e9,x1,w2,x2,w3]
  rcases Vr hf with hff | ⟨hff,_⟩ | ⟨hff,b1,hks,hfb,hbs⟩ | ⟨_,hff | ⟨hff,a1,b1,hks,hfa,hfb⟩ | ⟨hff,x,hks,hfx,hal⟩⟩
  ·exact plain (by omega)
  ·exact plain (by omega)
  ·have e8:(c.f == 8)=true:=by rw [hff]; rfl
   have hz1:szK c.ks=b1.size + 0:=by rw [hks]; rfl
   have hbl:=mW c.bs
   unfold stS at hl ⊢
   rw [e8,dJ] at hl ⊢
   simp only [aF,aG,aH] at hl
   obtain ⟨σ2,a2,m2,⟨k2,w2⟩,c2,f2⟩:=zcq (d:=d) (M:=M) (lz:=fun b=>lzS b.size b) (go:=stS n) (g:=Bo) hks (by omega) (fun b hb=>by
    have:=qK c.bs b hb
    exact Jj _ b.2 true (aM _) (by omega) (hbs b hb) (.inl rfl)) (fun b _=>kM _ b.2) rfl (ih b1 (by omega) (by omega) hfb) (nR n b1) h1 (by omega)
   obtain ⟨σ3,w3,c3,f3⟩:=jZ c2 (by omega) sW c.bs.length
   refine ⟨σ3,_,_,Ev.of (k2 + 1) fun k hk=>?_,c3,fA.to (f2.trans f3)⟩
   obtain ⟨k,rfl⟩:∃ j,k=j + 1:=⟨k - 1,by omega⟩
   rw [eH (af:=yQ) rfl rfl rfl]
   have w2:=w2 (k + 1) (by omega)
   have w3:=w3 k
   have x2:=(hbx.keep f2 _ (bO.2 rfl)).1
   have hln:=Yz c
   rw [hdc] at w2
   simp only [mT] at w2
   simp only [sW] at w3
   simp only [yQ,sA,Nat.reduceAdd,Nat.reduceSub,Nat.reduceMul,Nat.reduceBEq,Nat.reduceLeDiff,Int.reduceBEq,Int.reduceBNe,Int.reduceLE,Int.reduceLT,Int.reduceGE,Int.reduceGT,Int.reduceNeg,kn,eI,mB,hdc,hon,← e1,e8,x1,w2,x2,hln,w3]
  ·have e8:(c.f == 8)=false:=by rw [hff]; rfl
   have e10:(c.f == 10)=false:=by rw [hff]; rfl
   have e11:(c.f == 11)=true:=by rw [hff]; rfl
   unfold stS at hl ⊢
   rw [e8,e10,e11,dH,dH,dJ] at hl ⊢
   obtain ⟨σ3,w3,c3,f3⟩:=jZ h1 (by omega) rA 0
   refine ⟨σ3,_,_,Ev.of 1 fun k hk=>?_,c3,fA.to f3⟩
   obtain ⟨k,rfl⟩:∃ j,k=j + 1:=⟨k - 1,by omega⟩
   rw [eH (af:=yQ) rfl rfl rfl]
   have w3:=w3 k
   simp only [rA] at w3
   simp only [yQ,sA,Nat.reduceAdd,Nat.reduceSub,Nat.reduceMul,Nat.reduceBEq,Nat.reduceLeDiff,Int.reduceBEq,Int.reduceBNe,Int.reduceLE,Int.reduceLT,Int.reduceGE,Int.reduceGT,Int.reduceNeg,kn,eI,mB,hdc,hon,← e1,e8,e10,e11,x1,w3]
  ·have e8:(c.f == 8)=false:=by rw [hff]; rfl
   have e10:(c.f == 10)=true:=by rw [hff]; rfl
   have k0:kid c 0=a1:=by simp [kid,hks]
   have k1:kid c 1=b1:=by simp [kid,hks]
   unfold stS at hl ⊢
   rw [e8,e10,dH,dJ,k0,k1] at hl ⊢
   have hz1:szK c.ks=a1.size + (b1.size + 0):=by rw [hks]; rfl
   have q1:=nR n a1 M d L
   have q2:=nR n b1 M (w64 (d + 1)) (stS n a1 M d L)
   simp only [aF,aG,aH] at hl
   obtain ⟨σ2,a2,m2,⟨k2,w2⟩,c2,f2⟩:=ih a1 (by omega) (by omega) hfa σ1 p a m L M d h1 (by omega)
   obtain ⟨σ3,a3,m3,⟨k3,w3⟩,c3,f3⟩:=ih b1 (by omega) (by omega) hfb σ2 p a2 m2 _ M (w64 (d + 1)) c2 (by omega)
   obtain ⟨σ4,e4⟩:∃ σ4,σ4=GM σ3 (.map Qq 6):=⟨_,rfl⟩
   have c4:CS σ4 p a3 m3 (stS n b1 M (w64 (d + 1)) (stS n a1 M d L)) M:=by rw [e4]; exact c3.gm
   have f4:Frm p a3 m3 a3 m3 σ3 σ4:=by rw [e4]; exact Frm.gm
   obtain ⟨σ5,w5,c5,f5⟩:=jZ c4 (by omega) (Aa c.s) 0
   refine ⟨σ5,_,_,Ev.of (max k2 k3 + 1) fun k hk=>?_,c5,fA.to (((f2.trans f3).trans f4).trans f5)⟩
   obtain ⟨k,rfl⟩:∃ j,k=j + 1:=⟨k - 1,by omega⟩
   rw [eH (af:=yQ) rfl rfl rfl]
   have w2:=w2 (k + 1) (by omega)
   have w3:=w3 (k + 1) (by omega)
   have w5:=w5 k
   have b2:=hbx.keep f2
   have b3:=b2.keep f3
   have x2:=(b2 _ (bO.2 rfl)).1
   have x3:=(b3 _ (bO.2 rfl)).1
   have x4:=((b3.keep f4) _ (bO.2 rfl)).1
   have i0:=Gn hks 0 (by simp)
   have i1:=Gn hks 1 (by simp)
   simp only [List.getElem_cons_zero,List.getElem_cons_succ] at i0 i1
   have g0:=agg?_dCo a1
   have g1:=agg?_dCo b1
   have l0:=Ak a1
   have l1:=Ak b1
   have ho:=zdkb k σ3
   rw [← e4] at ho
   have hmo:tZ σ4.oth (.map σ3.next)=some Qq:=by rw [e4]; exact zjv
   obtain ⟨r,hr1,hr2⟩:=zkd c.s
   simp only [w64] at w3
   simp only [yQ,sA,Nat.reduceAdd,Nat.reduceSub,Nat.reduceMul,Nat.reduceBEq,Nat.reduceLeDiff,Int.reduceBEq,Int.reduceBNe,Int.reduceLE,Int.reduceLT,Int.reduceGE,Int.reduceGT,Int.reduceNeg,kn,eI,mB,hdc,hon,← e1,e8,e10,x1,i0,i1,g0,g1,l0,l1,w2,x2,w3,x3,ho,Ii,List.all_cons,List.all_nil,lI,x4,vX,hmo,rR,hr1,hr2,w5]
  ·have e8:(c.f == 8)=false:=by rw [hff]; rfl
   have e10:(c.f == 10)=false:=by rw [hff]; rfl
   have e11:(c.f == 11)=false:=by rw [hff]; rfl
   have e9:(c.f == 9)=true:=by rw [hff]; rfl
   have k0:kid c 0=x:=by simp [kid,hks]
   unfold stS at hl ⊢
   rw [e8,e10,e11,e9,dH,dH,dH,dJ,k0] at hl ⊢
   rw [Pi] at hl
   have hz1:szK c.ks=x.size + 0:=by rw [hks]; rfl
   have hala:=oK c.al
   obtain ⟨σ2,e2⟩:∃ σ2,σ2=GA σ1 zbbb [⟨false,.nils⟩]:=⟨_,rfl⟩
   have n2:σ2.next=σ.next + 2:=by rw [e2,fW,n1]
   have f12:FrA σ1 σ2:=by rw [e2]; exact FrA.ga
   have x2:dE σ2.objs σ.next=some [⟨false,.ptr p 0⟩]:=by rw [e2,jU (by omega),x1]
   have b2:dE σ2.objs (σ.next + 1)=some [⟨false,.nils⟩]:=by rw [e2,← n1,iN]
   have hke:KE σ2 p a (σ.next + 1) (σ.next + 1) []:=⟨b2,fun e=>absurd rfl e,fun q hq=>(by cases hq),⟨by omega,by omega,by omega,by omega,fun e=>absurd rfl e,by omega,by omega⟩⟩
   have hxb:BxV σ2 (VX true p (σ.next + 1) a (σ.next + 1)) [(σ.next,[⟨false,.ptr p 0⟩])]:=fun q hq=>by
    rw [bO] at hq
    subst hq
    exact ⟨x2,by show σ.next < _; omega,fun e=>by rcases e with e | e | ⟨_,e | e⟩ <;> simp only at e <;> omega⟩
   have hcs:=zdq (stS n) M d c.al (stS n x M d L,[]) (fun a _=>nR n a.2) (fun e he=>(by cases he))
   have hcc:=zio true (stS n) M d c.al (stS n x M d L,[])
   obtain ⟨σ3,a3,m3,ea3,es3,⟨k3,w3⟩,c3,k3',q3,f3⟩:=Dv' true (body:=stS n) (g:=Bo) rfl c (by omega) (fun a ha=>by
     have:=lU c.al a ha
     exact ih a.2 (by omega) (by omega) (hal a ha)) (fun a _=>nR n a.2) (zny (by omega)) hks (ih x (by omega) (by omega) hfx) (h1.fa f12) ⟨fun _=>hke,fun _=>rfl⟩ hxb hl
   have hKE:=k3'.1 rfl
   rw [← q3] at hcs hcc
   rw [← q3]
   generalize hres:wM true (iZ true (stS n) M d c.al (stS n x M d L,[])).2 (iZ true (stS n) M d c.al (stS n x M d L,[])).1.1=R at *
   have hmo:=Ea true (iZ true (stS n) M d c.al (stS n x M d L,[])).2 (iZ true (stS n) M d c.al (stS n x M d L,[])).1.1
   rw [hres] at hmo
   rw [aJ] at hcc
   simp only [aH,aN] at hcc
   obtain ⟨σ4,w4,c4,f4⟩:=zop (es:=es3) (by omega) es3 [] R σ3 rfl c3 hKE (fun q hq=>aP (hcs q.1 (List.mem_map_of_mem hq)) hmo)
   have fall:=(f3.trans (f4.v true (σ.next + 1) ea3)).frm (fA.trans f12) c4.ca.pa ⟨by omega,by omega⟩
   refine ⟨σ4,_,_,Ev.of (k3 + es3.length + 1) fun k hk=>?_,c4,fall⟩
   rw [eH (af:=yQ) rfl rfl rfl]
   have w3:=w3 k (by omega)
   have w4:=w4 k k (by omega) (by omega)
   have hb3:=hKE.box
   have hlf:=zxy ea3 es3
   rw [hdc] at w3
   simp only [mT,oL,zcf,dJ] at w3
   simp only [Eln,aH,eR] at w4
   simp only [yQ,sA,Nat.reduceAdd,Nat.reduceSub,Nat.reduceMul,Nat.reduceBEq,Nat.reduceLeDiff,Int.reduceBEq,Int.reduceBNe,Int.reduceLE,Int.reduceLT,Int.reduceGE,Int.reduceGT,Int.reduceNeg,kn,eI,mB,hdc,hon,← e1,n1,← e2,e8,e10,e11,e9,x2,w3,hb3,hlf,w4]
end Go.Fu
