/-
 A case's code.
-/
import Derived.Test.YtldfbnbckiifeaaGreatDoorFgDl
set_option maxHeartbeats 4000000
set_option linter.unusedSimpArgs false
set_option linter.unusedVariables false
set_option linter.unusedSectionVars false
namespace Go.Fu
open Go Go.Mx
set_option maxRecDepth 10000
set_option maxHeartbeats 4000000
theorem zf0 (st:Bool) (h:Hd) (L:List In):L.length≤(mQ st h L).length:=by
 unfold mQ
 cases st <;> cases h.form == 1 <;> simp only [aE,aG,List.length_append,List.length_cons,List.length_nil] <;> omega
theorem zre (h:Hd):1≤(mG h).length:=by
 unfold mG
 cases h.form == 1 <;> cases h.form == 2 <;> simp only [aE,aG,List.length_cons,List.length_nil] <;> omega
theorem Ri (st:Bool) (body:Co→At→Int→List In→List In) (M:At) (d:Int) (a:Hd × Co) (s:List In × List Nat):(kC st body M d a s).1.length=(mQ st a.1 (body a.2 (cM M a.1.vars.reverse d 0) (w64 (d + a.1.vars.length)) (s.1 ++ mG a.1))).length:=by
 unfold kC
 cases (a.1.form == 1 || a.1.form == 2) <;> simp only [aE,aG,vR]
theorem za7 (st:Bool) {body:Co→At→Int→List In→List In} (M:At) (d:Int) (a:Hd × Co) (s:List In × List Nat) (h:nN (body a.2)):s.1.length≤(kC st body M d a s).1.length:=by
 have h1:=h (cM M a.1.vars.reverse d 0) (w64 (d + a.1.vars.length)) (s.1 ++ mG a.1)
 have h2:=zf0 st a.1 (body a.2 (cM M a.1.vars.reverse d 0) (w64 (d + a.1.vars.length)) (s.1 ++ mG a.1))
 rw [Ri]
 rw [List.length_append] at h1
 omega
theorem vE (st:Bool) {body:Co→At→Int→List In→List In} (M:At) (d:Int):∀ (l:List (Hd × Co)) (s:List In × List Nat),(∀ a∈l,nN (body a.2))→s.1.length≤(fC st body M d l s).1.1.length
 | [],s,_=>Nat.le_refl _
 | a :: l,s,h=>by
  have h1:=za7 st M d a s (h a (List.mem_cons_self ..))
  have h2:=vE st M d l (kC st body M d a s) fun x hx=>h x (List.mem_cons_of_mem _ hx)
  unfold fC
  cases a.1.form == 3 <;> simp only [aE,aG] <;> omega
theorem Ab (st b:Bool) (L:List In):L.length≤(tY st b L).length:=by
 unfold tY
 cases st <;> cases b <;> simp only [aE,aG,List.length_append,List.length_cons,List.length_nil] <;> omega
def Zs (st:Bool) (xb:Nat):D:=.fn (.func (ifB st Vx Vy)) [] [.ptr xb 0]
def Ecle (p:Nat) (be en:D) (db gb:Nat) (c:Co):Env:={slots:=[(0,⟨false,.ptr p 0⟩),(4,⟨false,be⟩),(5,⟨false,en⟩),(8,⟨false,.ptr db 0⟩),(9,⟨false,.ptr gb 0⟩),(24,⟨false,aD c⟩),(25,⟨false,.int .i64 c.al.length⟩),(26,⟨false,.int .i64 c.al.length⟩),(27,⟨false,.bool false⟩)],locs:=[],boxes:=[],defers:=[]}
theorem zy2 {C:aM} {n:Nat} (p:Nat) (be en:D) (db gb:Nat) (c:Co) (i:Nat) (hi:i < 1000000000) (σ:Store):exec C n none (jX (jX (jX K0))) (Ekr p be en db gb c i false) σ=some (.normal,Ecl p be en db gb c (i + 1),σ):=by
 have w:=aR (i:=i) (by omega)
 simp only [K0,vV,jX,Ekr,Ecl,sA,Nat.reduceAdd,Nat.reduceSub,Nat.reduceMul,Nat.reduceBEq,Nat.reduceLeDiff,Int.reduceBEq,Int.reduceBNe,Int.reduceLE,Int.reduceLT,Int.reduceGE,Int.reduceGT,Int.reduceNeg,kn,w]
theorem zyc (st:Bool) {body:Co→At→Int→List In→List In} {g:FuncId} (hg:isY g=false) (c:Co) (i:Nat) (hi:i < c.al.length) (hil:c.al.length < 100000000) (hgo:Okf g c.al[i].2 (body c.al[i].2)) (hgm:nN (body c.al[i].2)) {σ:Store} {p a m eb ea:Nat} {L:List In} {M:At} {es:List (Nat × Nat × Nat)} (h:CS σ p a m L M) (hk:KX st σ p a eb ea es) {d:Int} {xb db gb:Nat}
  (hb:BxV σ (VX st p eb a ea) [(xb,[⟨false,.ptr p 0⟩]),(db,[⟨false,.int .i64 d⟩]),(gb,[⟨false,jV g p⟩])]) (hv:c.al[i].1.vars.length < 100000000) (he:es.length < 100000000) (hlen:(kC st body M d c.al[i] (L,es.map Prod.fst)).1.length < 50000000) (en:D) :
  ∃ σ' a' m' ea' es' n0,(∀ N n,n0≤N→exec (W SD N) n none K0 (Ecl p (lO st xb eb) en db gb c i) σ=ifB (c.al[i].1.form == 3) (some (.ret,Ekr p (lO st xb eb) en db gb c i true,σ')) (some (.normal,Ecl p (lO st xb eb) en db gb c (i + 1),σ'))) ∧
   CS σ' p a' m' (kC st body M d c.al[i] (L,es.map Prod.fst)).1 M∧KX st σ' p a' eb ea' es'∧es'.map Prod.fst=(kC st body M d c.al[i] (L,es.map Prod.fst)).2∧FrV (VX st p eb a ea) (VX st p eb a' ea') m m' σ σ':=by
 have hp:=h.ca.pn
 have ha:=h.ca.an
 obtain ⟨zs,hz⟩:∃ zs:List Cell,zs=([.int .i64 0,.int .i64 0,.str [],.nils,.int .i64 0,.int .i64 0,.str [],.int .i64 0,.int .i64 0,.str [],.nils,.nils,.nils,.nils]:List D).map Cell.of:=⟨_,rfl⟩
 obtain ⟨σ1,e1⟩:∃ σ1,σ1=GA σ zpk zs:=⟨_,rfl⟩
 obtain ⟨σ2,e2⟩:∃ σ2,σ2=SO σ1 σ.next (cAl c.al[i]):=⟨_,rfl⟩
 have n2:σ2.next=σ.next + 1:=by rw [e2,dJ,e1,cS]
 have f2:FrA σ σ2:=by
  rw [e2,e1]
  exact FrA.ga.so (Nat.le_refl _)
 have hv2:∀ j,σ.next≤j→¬ VX st p eb a ea j:=fun j hj e=>by
  rcases e with e | e | ⟨e,e3⟩
  ·omega
  ·omega
  ·have:=(hk.1 e).ne
   omega
 have b2:BxV σ2 (VX st p eb a ea) [(xb,[⟨false,.ptr p 0⟩]),(db,[⟨false,.int .i64 d⟩]),(gb,[⟨false,jV g p⟩]),(σ.next,cAl c.al[i])]:=fun q hq=>by
  simp only [List.mem_cons,List.not_mem_nil,or_false] at hq
  have hbk:=hb.keep (f2.v (VX st p eb a ea) m)
  rcases hq with rfl | rfl | rfl | rfl
  ·exact hbk _ (by simp)
  ·exact hbk _ (by simp)
  ·exact hbk _ (by simp)
  ·exact ⟨by rw [e2,fM],by show σ.next < _; omega,hv2 _ (Nat.le_refl _)⟩
 have hab:=b2 (σ.next,cAl c.al[i]) (by simp)
 have hal:=Ri st body M d c.al[i] (L,es.map Prod.fst)
 simp only at hal
 rw [hal] at hlen
 have hmb:=hgm (cM M c.al[i].1.vars.reverse d 0) (w64 (d + c.al[i].1.vars.length)) (L ++ mG c.al[i].1)
 have hmc:=zf0 st c.al[i].1 (body c.al[i].2 (cM M c.al[i].1.vars.reverse d 0) (w64 (d + c.al[i].1.vars.length)) (L ++ mG c.al[i].1))
 have hhl:=zre c.al[i].1
 rw [List.length_append] at hmb
 have fin3:∀ (fin:List In→List In) (σ':Store) (n0:Nat) (σ3:Store) (nx:D),(∀ n N,1≤N→exec (W SD N) n none KF (Eca' p (lO st xb eb) en db gb σ.next tV c i) σ2=some (.normal,Eca' p (lO st xb eb) en db gb σ.next nx c i,σ3)) →
   (∀ N n,n0≤N→exec (W SD N) n none KR (Eca' p (lO st xb eb) en db gb σ.next nx c i) σ3=some (ifB (c.al[i].1.form == 3) .ret .normal,Ekr p (lO st xb eb) en db gb c i (c.al[i].1.form == 3),σ')) →
   ∀ N n,max n0 1≤N→exec (W SD N) n none K0 (Ecl p (lO st xb eb) en db gb c i) σ=ifB (c.al[i].1.form == 3) (some (.ret,Ekr p (lO st xb eb) en db gb c i true,σ')) (some (.normal,Ecl p (lO st xb eb) en db gb c (i + 1),σ')):=by
  intro fin σ' n0 σ3 nx hKF hKR N n hN
  have hKF:=hKF n N (by omega)
  have hKR:=hKR N n (by omega)
  have hin:=zy2 (C:=W SD N) (n:=n) p (lO st xb eb) en db gb c i (by omega) σ'
  have hk2:=kw2 (C:=W SD N) (n:=n) (.seq KF KR) p (lO st xb eb) en db gb c i hi σ σ1 σ2 zs e1 hz e2
  rw [← zc4b] at hk2
  rw [zc3b,kw1 _ _ _ _ _ _ _ _ hi,Rm,Vi,hk2,Rm,hKF,zH,hKR]
  cases hf:c.al[i].1.form == 3 with
  | true=>rfl
  | false =>
   rw [hf] at hKR
   simp only [aG,Ib,zH]
   exact hin
 rcases zrf (h.fa f2) c.al[i] hab.1 ⟨hab.2.1,by omega,by omega⟩ (by omega) (lO st xb eb) en db gb c i with ⟨σ3,a3,nx,g1,g2,g3,g4,bx,bk,rfl,g5,g6,g7⟩ | ⟨σ3,a3,g1,g2,g3,g4⟩
 ·have k3:=(hk.keep (f2.frm p a m)).keep g3
  have b3:=b2.keep (g3.v st eb ea)
  have bl:BxV σ3 (VX st p eb a3 ea) [(bx,[⟨false,.ptr p 0⟩]),(bk,[⟨false,.int .i64 L.length⟩])]:=fun q hq=>by
   simp only [List.mem_cons,List.not_mem_nil,or_false] at hq
   have hnv:∀ j,σ2.next≤j→j≠a3→¬ VX st p eb a3 ea j:=fun j hj hja e=>by
    rcases e with e | e | ⟨e,e3⟩
    ·omega
    ·exact hja e
    ·have:=(hk.1 e).ne
     omega
   rcases hq with rfl | rfl
   ·exact ⟨g5.x,g5.xn,hnv _ g6 g5.xp.2⟩
   ·exact ⟨g5.k,g5.kn,hnv _ g7 g5.kp.2⟩
  obtain ⟨σ',a',m',ea',es',n0,r1,r2,r3,r4,r5⟩:=zrm st hg hgo hgm g2 k3 (d:=d) (xb:=xb) (db:=db) (gb:=gb) (ab:=σ.next) (bl:=[(bx,[⟨false,.ptr p 0⟩]),(bk,[⟨false,.int .i64 L.length⟩])]) (fun q hq=>by
    simp only [List.mem_cons,List.not_mem_nil,or_false] at hq
    rcases hq with rfl | rfl | rfl | rfl | rfl | rfl
    ·exact b3 _ (by simp)
    ·exact b3 _ (by simp)
    ·exact b3 _ (by simp)
    ·exact b3 _ (by simp)
    ·exact bl _ (by simp)
    ·exact bl _ (by simp)) (jI bx bk) (fun L'=>rI L' L.length L'.length)
   (fun τ a' m' ea' L' cτ bτ hL=>by
    have x1:=bτ (bx,[⟨false,.ptr p 0⟩]) (by simp)
    have x2:=bτ (bk,[⟨false,.int .i64 L.length⟩]) (by simp)
    rw [List.length_append] at hL
    obtain ⟨τ',y1,y2,y3⟩:=zbg (S:=SD) rfl cτ (k:=L.length) (bx:=bx) (bk:=bk) ⟨x1.1,x2.1,x1.2.1,x2.2.1,⟨fun e=>x1.2.2 (.inl e),fun e=>x1.2.2 (.inr (.inl e))⟩,⟨fun e=>x2.2.2 (.inl e),fun e=>x2.2.2 (.inr (.inl e))⟩⟩ (by omega)
    exact ⟨τ',Om,[.ptr bx 0,.ptr bk 0],rfl,y1,y2,y3⟩) hv he hlen en c i
  refine ⟨σ',a',m',ea',es',_,fin3 id σ' n0 σ3 _ g1 r1,?_,r3,?_,((f2.v _ m).trans (g3.v st eb ea)).trans r5⟩
  ·unfold kC
   rw [g4]
   exact r2
  ·unfold kC
   exact r4
 ·have k3:=(hk.keep (f2.frm p a m)).keep g3
  have b3:=b2.keep (g3.v st eb ea)
  obtain ⟨σ',a',m',ea',es',n0,r1,r2,r3,r4,r5⟩:=zrm st hg hgo hgm g2 k3 (d:=d) (xb:=xb) (db:=db) (gb:=gb) (ab:=σ.next) (bl:=[]) b3 tV id
   (fun τ a' m' ea' L' cτ bτ hL=>⟨τ,zet,[],rfl,fun n=>zm1 n,cτ,Frm.refl⟩) hv he hlen en c i
  refine ⟨σ',a',m',ea',es',_,fin3 id σ' n0 σ3 _ g1 r1,?_,r3,?_,((f2.v _ m).trans (g3.v st eb ea)).trans r5⟩
  ·unfold kC
   rw [g4]
   exact r2
  ·unfold kC
   exact r4
end Go.Fu
namespace Go.Fu
open Go Go.Mx
set_option maxRecDepth 10000
set_option maxHeartbeats 4000000
theorem zld (st:Bool) {body:Co→At→Int→List In→List In} {g:FuncId} (hg:isY g=false) (c:Co) (hil:c.al.length < 50000000) (hgo:∀ a∈c.al,Okf g a.2 (body a.2)) (hgm:∀ a∈c.al,nN (body a.2)) (hv:∀ a∈c.al,a.1.vars.length < 100000000) {p eb:Nat} {M:At} {d:Int} {xb db gb:Nat} (en:D) :
  ∀ (rest done:List (Hd × Co)) (L:List In) (es:List (Nat × Nat × Nat)) (σ:Store) (a m ea:Nat),c.al=done ++ rest→CS σ p a m L M→KX st σ p a eb ea es→BxV σ (VX st p eb a ea) [(xb,[⟨false,.ptr p 0⟩]),(db,[⟨false,.int .i64 d⟩]),(gb,[⟨false,jV g p⟩])]→es.length≤done.length→(fC st body M d rest (L,es.map Prod.fst)).1.1.length < 50000000 →
  ∃ σ' a' m' ea' es' n0,(∀ N n,n0≤N→rest.length < n→∃ e,dL (exec (W SD N) N none K0) n (Ecl p (lO st xb eb) en db gb c done.length) σ=some (ifB (fC st body M d rest (L,es.map Prod.fst)).2 (.exit 0) .ret,e,σ')∧e.defers=[]∧((fC st body M d rest (L,es.map Prod.fst)).2=true→e=Ecle p (lO st xb eb) en db gb c)) ∧
   CS σ' p a' m' (fC st body M d rest (L,es.map Prod.fst)).1.1 M∧KX st σ' p a' eb ea' es'∧es'.map Prod.fst=(fC st body M d rest (L,es.map Prod.fst)).1.2∧FrV (VX st p eb a ea) (VX st p eb a' ea') m m' σ σ'
 | [],done,L,es,σ,a,m,ea,hd,h,hk,hb,he,hn=>by
  refine ⟨σ,a,m,ea,es,0,fun N n _ hn=>?_,h,hk,rfl,FrA.refl.v _ _⟩
  obtain ⟨n,rfl⟩:∃ k,n=k + 1:=⟨n - 1,by omega⟩
  have e:done.length=c.al.length:=by rw [hd]; simp
  obtain ⟨e2,h1,h2⟩:=kw1e (C:=W SD N) (n:=N) p (lO st xb eb) en db gb c σ
  rw [e]
  exact ⟨e2,gX h1,by rw [h2],fun _=>h2⟩
 | al :: rest,done,L,es,σ,a,m,ea,hd,h,hk,hb,he,hn=>by
  have hi:done.length < c.al.length:=by rw [hd]; simp
  have hs:c.al[done.length]=al:=by
   have:∀ (l:List (Hd × Co)) (hl:l=done ++ al :: rest) (hi:done.length < l.length),l[done.length]=al:=fun l hl hi=>by subst hl; simp
   exact this _ hd hi
  have hm:al∈c.al:=by rw [hd]; simp
  have hmo:∀ x∈rest,nN (body x.2):=fun x hx=>hgm x (by rw [hd]; simp [hx])
  have h2:=vE st M d rest (kC st body M d al (L,es.map Prod.fst)) hmo
  have hal:(kC st body M d al (L,es.map Prod.fst)).1.length < 50000000:=by
   unfold fC at hn
   cases hf:al.1.form == 3 with
   | true=>rw [hf] at hn; exact hn
   | false=>rw [hf,aG] at hn; omega
  obtain ⟨σ1,a1,m1,ea1,es1,n1,r1,r2,r3,r4,r5⟩:=zyc st hg c done.length hi (by omega) (by rw [hs]; exact hgo al hm) (by rw [hs]; exact hgm al hm) h hk hb (by rw [hs]; exact hv al hm) (by omega) (by rw [hs]; exact hal) en
  rw [hs] at r1 r2 r4
  unfold fC at hn ⊢
  cases hf:al.1.form == 3 with
  | true =>
   rw [hf] at r1
   simp only [hf,aE] at r1 hn ⊢
   refine ⟨σ1,a1,m1,ea1,es1,n1,fun N n hN hn=>?_,r2,r3,r4,r5⟩
   obtain ⟨n,rfl⟩:∃ k,n=k + 1:=⟨n - 1,by omega⟩
   exact ⟨_,zbl (r1 N N hN),rfl,fun e=>by cases e⟩
  | false =>
   rw [hf] at r1
   simp only [hf,aG] at r1 hn ⊢
   have hes:es1.length≤(done ++ [al]).length:=by
    have:=congrArg List.length r4
    rw [List.length_map] at this
    rw [this]
    unfold kC
    cases st <;> simp only [aE,aG,List.length_append,List.length_map,List.length_cons,List.length_nil] <;> omega
   have hpair:kC st body M d al (L,es.map Prod.fst)=((kC st body M d al (L,es.map Prod.fst)).1,es1.map Prod.fst):=by rw [r4]
   rw [hpair] at hn ⊢
   obtain ⟨σ2,a2,m2,ea2,es2,n2,q1,q2,q3,q4,q5⟩:=zld st hg c hil hgo hgm hv en rest (done ++ [al]) _ es1 σ1 a1 m1 ea1 (by rw [hd]; simp) r2 r3 (hb.keep r5) hes hn
   refine ⟨σ2,a2,m2,ea2,es2,max n1 n2,fun N n hN hn=>?_,q2,q3,q4,r5.trans q5⟩
   obtain ⟨n,rfl⟩:∃ k,n=k + 1:=⟨n - 1,by omega⟩
   rw [dW (r1 N N (by omega))]
   have:=q1 N n (by omega) (by simp at hn; omega)
   simpa only [List.length_append,List.length_cons,List.length_nil,Nat.zero_add] using this
theorem zW' (st:Bool) {body:Co→At→Int→List In→List In} {g:FuncId} (hg:isY g=false) (c:Co) (hil:c.al.length < 50000000) (hgo:∀ a∈c.al,Okf g a.2 (body a.2)) (hgm:∀ a∈c.al,nN (body a.2)) (hv:∀ a∈c.al,a.1.vars.length < 100000000) {x:Co} (hks:c.ks=[x]) {F0:At→Int→List In→List In} (hF:Okf yR x F0)
  {σ:Store} {p a m eb ea xb:Nat} {L:List In} {M:At} {d:Int} (h:CS σ p a m L M) (hk:KX st σ p a eb ea []) (hxb:BxV σ (VX st p eb a ea) [(xb,[⟨false,.ptr p 0⟩])]) (hn:(tY st (fC st body M d c.al (F0 M d L,[])).2 (fC st body M d c.al (F0 M d L,[])).1.1).length < 50000000) :
  ∃ σ' a' m' ea' es',Ev SD zoc [.ptr p 0,dCo c,.int .i64 d,jV g p,lO st xb eb,Zs st xb] σ σ'∧CS σ' p a' m' (tY st (fC st body M d c.al (F0 M d L,[])).2 (fC st body M d c.al (F0 M d L,[])).1.1) M∧KX st σ' p a' eb ea' es'∧es'.map Prod.fst=(fC st body M d c.al (F0 M d L,[])).1.2∧FrV (VX st p eb a ea) (VX st p eb a' ea') m m' σ σ':=by
 have hp:=h.ca.pn
 have ha:=h.ca.an
 have hm1:=Ab st (fC st body M d c.al (F0 M d L,[])).2 (fC st body M d c.al (F0 M d L,[])).1.1
 have hm2:=vE st M d c.al (F0 M d L,[]) hgm
 obtain ⟨σ1,e1⟩:∃ σ1,σ1=GA σ tL [⟨false,.int .i64 d⟩]:=⟨_,rfl⟩
 obtain ⟨σ2,e2⟩:∃ σ2,σ2=GA σ1 zfn [⟨false,jV g p⟩]:=⟨_,rfl⟩
 have n1:σ1.next=σ.next + 1:=by rw [e1,cS]
 have n2:σ2.next=σ.next + 2:=by rw [e2,cS,n1]
 have f2:FrA σ σ2:=by
  rw [e2]
  refine FrA.trans ?_ FrA.ga
  rw [e1]
  exact FrA.ga
 have d2:aB σ2.objs σ.next=some [⟨false,.int .i64 d⟩]:=by rw [e2,fN (by omega),e1,dY]
 have g2:aB σ2.objs (σ.next + 1)=some [⟨false,jV g p⟩]:=by rw [e2,← n1,dY]
 have hv2:∀ j,σ.next≤j→¬ VX st p eb a ea j:=fun j hj e=>by
  rcases e with e | e | ⟨e,e3⟩
  ·omega
  ·omega
  ·have:=(hk.1 e).ne
   omega
 have b2:BxV σ2 (VX st p eb a ea) [(xb,[⟨false,.ptr p 0⟩]),(σ.next,[⟨false,.int .i64 d⟩]),(σ.next + 1,[⟨false,jV g p⟩])]:=fun q hq=>by
  simp only [List.mem_cons,List.not_mem_nil,or_false] at hq
  rcases hq with rfl | rfl | rfl
  ·exact hxb.keep (f2.v (VX st p eb a ea) m) _ (by simp)
  ·exact ⟨d2,by show σ.next < _; omega,hv2 _ (Nat.le_refl _)⟩
  ·exact ⟨g2,by show σ.next + 1 < _; omega,hv2 _ (by show σ.next≤σ.next + 1; omega)⟩
 obtain ⟨σ3,a3,m3,⟨x3,w3⟩,c3,f3⟩:=hF σ2 p a m L M d (h.fa f2) (by simp only at hm2; omega)
 have b3:=b2.keep (f3.v st eb ea)
 have k3:=(hk.keep (f2.frm p a m)).keep f3
 obtain ⟨σ4,a4,m4,ea4,es4,x4,w4,c4,k4,q4,f4⟩:=zld st hg c hil hgo hgm hv (Zs st xb) c.al [] _ [] σ3 a3 m3 ea rfl c3 k3 b3 (Nat.zero_le _) (by simp only [List.map_nil]; omega)
 simp only [List.length_nil,List.map_nil] at w4 c4 q4
 have fall:=((f2.v (VX st p eb a ea) m).trans (f3.v st eb ea)).trans f4
 have hdc:=bY c
 have hon:=fF c
 have i0:=Da hks 0 (by simp)
 simp only [List.getElem_cons_zero] at i0
 have ga:=agg?_dCo x
 have gl:=xQ x
 have hln:=zgw c
 have hlf:(jV g p).cells=[jV g p]:=rfl
 have hlo:(jV g p).ok=true:=rfl
 have hK:ACode.loop vV=ACode.loop K0:=rfl
 cases hr:(fC st body M d c.al (F0 M d L,[])).2 with
 | false =>
  refine ⟨σ4,a4,m4,ea4,es4,Ev.of (max (max x3 x4) (c.al.length + 1)) fun n hN=>?_,by rw [tY,aG]; exact c4,k4,q4,fall⟩
  rw [bC (af:=Yj) rfl rfl rfl]
  obtain ⟨e,y1,y2,_⟩:=w4 n n (by omega) (by omega)
  have w3:=w3 n (by omega)
  simp only [hr,aG,Ecl,bV] at y1
  simp only [Yj,hK,sA,Nat.reduceAdd,Nat.reduceSub,Nat.reduceMul,Nat.reduceBEq,Nat.reduceLeDiff,Int.reduceBEq,Int.reduceBNe,Int.reduceLE,Int.reduceLT,Int.reduceGE,Int.reduceGT,Int.reduceNeg,kn,bF,mB,hdc,hon,← e1,hlf,hlo,n1,← e2,i0,ga,gl,d2,w3,hln,y1,y2]
 | true =>
  rw [hr] at hn hm1
  have hx4:=(b3.keep f4) (xb,[⟨false,.ptr p 0⟩]) (by simp)
  obtain ⟨σ5,a5,m5,⟨x5,w5⟩,c5,f5⟩:=zyn st c4 hx4.1 ⟨hx4.2.1,fun e=>hx4.2.2 (.inl e),fun e=>hx4.2.2 (.inr (.inl e))⟩ (by omega)
  refine ⟨σ5,a5,m5,ea4,es4,Ev.of (max (max x3 x4) (max x5 (c.al.length + 1))) fun n hN=>?_,c5,k4.keep f5,q4,fall.trans (f5.v st eb ea4)⟩
  rw [bC (af:=Yj) rfl rfl rfl]
  obtain ⟨e,y1,y2,y3⟩:=w4 n n (by omega) (by omega)
  have w3:=w3 n (by omega)
  have w5:=w5 n (by omega)
  have y3:=y3 hr
  subst y3
  have hfe:D.fn? (Zs st xb)=some (ifB st Vx Vy,[],[.ptr xb 0]):=by cases st <;> rfl
  simp only [hr,aE,Ecl,Ecle,bV] at y1
  generalize ifB st Vx Vy=fe at hfe w5
  generalize Zs st xb=en at *
  simp only [Yj,hK,sA,Nat.reduceAdd,Nat.reduceSub,Nat.reduceMul,Nat.reduceBEq,Nat.reduceLeDiff,Int.reduceBEq,Int.reduceBNe,Int.reduceLE,Int.reduceLT,Int.reduceGE,Int.reduceGT,Int.reduceNeg,kn,bF,mB,hdc,hon,← e1,hlf,hlo,n1,← e2,i0,ga,gl,d2,w3,hln,y1,hfe,w5]
end Go.Fu
namespace Go.Fu
open Go Go.Mx
set_option maxRecDepth 10000
set_option maxHeartbeats 4000000
theorem zwa {σ:Store} {x y:Oth}:SM (GM σ x) σ.next y=GM σ y:=by
 unfold SM GM
 have h:(σ.next == σ.next)=true:=by simp
 simp only [aU,h,aE]
theorem zg2 {σ:Store} {es:List (D × D × Nat)} {c:Nat}:pJ (GM σ (.map es c)).oth (.map σ.next)=some (σ.next,es,c):=zg3 Ob
theorem zg8 {σ:Store} {es:List (D × D × Nat)} {c:Nat}:rC (GM σ (.map es c)).oth (.map σ.next)=some es:=zg9 Ob
def Nh:List (D × D × Nat):=[(.str [97,100,100],.str [65,68,68],0),(.str [115,117,98],.str [83,85,66],1),(.str [109,117,108],.str [77,85,76],2),(.str [100,105,118],.str [68,73,86],3),(.str [101,113],.str [69,81],4),(.str [108,116],.str [76,84],5)]
theorem zzy (n:Nat) (σ:Store):W SD (n + 1) Wc [] σ=some (.ret ⟨false,.map σ.next⟩,GM σ (.map Nh 6)):=by
 rw [bC (af:=Yo) rfl rfl rfl]
 have f0:fP (.str [97,100,100]) []=some none:=rfl
 have f1:fP (.str [115,117,98]) [(.str [97,100,100],.str [65,68,68],0)]=some none:=rfl
 have f2:fP (.str [109,117,108]) [(.str [97,100,100],.str [65,68,68],0),(.str [115,117,98],.str [83,85,66],1)]=some none:=rfl
 have f3:fP (.str [100,105,118]) [(.str [97,100,100],.str [65,68,68],0),(.str [115,117,98],.str [83,85,66],1),(.str [109,117,108],.str [77,85,76],2)]=some none:=rfl
 have f4:fP (.str [101,113]) [(.str [97,100,100],.str [65,68,68],0),(.str [115,117,98],.str [83,85,66],1),(.str [109,117,108],.str [77,85,76],2),(.str [100,105,118],.str [68,73,86],3)]=some none:=rfl
 have f5:fP (.str [108,116]) [(.str [97,100,100],.str [65,68,68],0),(.str [115,117,98],.str [83,85,66],1),(.str [109,117,108],.str [77,85,76],2),(.str [100,105,118],.str [68,73,86],3),(.str [101,113],.str [69,81],4)]=some none:=rfl
 simp only [Yo,sA,Nat.reduceAdd,Nat.reduceSub,Nat.reduceMul,Nat.reduceBEq,Nat.reduceLeDiff,Int.reduceBEq,Int.reduceBNe,Int.reduceLE,Int.reduceLT,Int.reduceGE,Int.reduceGT,Int.reduceNeg,kn,bF,mB,zg2,pC,f0,f1,f2,f3,f4,f5,zwa,cC,List.nil_append,List.cons_append,Nat.zero_add,Nat.reduceAdd]
 rfl
theorem zhq (s:Tx):∃ r,fP (.str s) Nh=some r∧bT r (D.str []) (fun v=>v.1)=.str (xF s):=by
 unfold xF Nh
 simp only [fP,Xq,aC,aF]
 cases s == [97,100,100] <;> cases s == [115,117,98] <;> cases s == [109,117,108] <;> cases s == [100,105,118] <;> cases s == [101,113] <;> cases s == [108,116] <;> exact ⟨_,rfl,rfl⟩
theorem zbd (body:Co→At→Int→List In→List In) (M:At) (d:Int):∀ (l:List (Hd × Co)) (s:List In × List Nat),(∀ a∈l,nN (body a.2))→(∀ e∈s.2,e < s.1.length)→∀ e∈(fC true body M d l s).1.2,e < (fC true body M d l s).1.1.length
 | [],s,_,h=>h
 | a :: l,s,hm,h=>by
  have h0:∀ e∈(kC true body M d a s).2,e < (kC true body M d a s).1.length:=by
   intro e he
   have h1:=Ri true body M d a s
   have h2:=za7 true M d a s (hm a (List.mem_cons_self ..))
   have h3:1≤(mQ true a.1 (body a.2 (cM M a.1.vars.reverse d 0) (w64 (d + a.1.vars.length)) (s.1 ++ mG a.1))).length:=by
    unfold mQ
    simp only [aE,List.length_append,List.length_cons,List.length_nil]
    omega
   unfold kC at he
   simp only [aE,List.mem_append,List.mem_singleton] at he
   rcases he with he | he
   ·have:=h e he; omega
   ·omega
  unfold fC
  cases a.1.form == 3 with
  | true=>exact h0
  | false=>exact zbd body M d l _ (fun x hx=>hm x (List.mem_cons_of_mem _ hx)) h0
theorem zn0 (l:List Nat) (L:List In):L.length≤(Ge l L).length:=by rw [Kv]; exact Nat.le_refl _
theorem kW:∀ (n:Nat) (c:Co),nN (stS n c)
 | 0,c=>fun M d L=>Nat.le_refl _
 | n + 1,c=>fun M d L=>by
  have h1:=Ae (lz:=fun b=>lzS b.size b) (go:=stS n) c (fun b _=>gP _ b.2) (kW n (kid c 0)) M d L
  have h2:=kW n (kid c 0) M d L
  have h3:=kW n (kid c 1) M (w64 (d + 1)) (stS n (kid c 0) M d L)
  have h4:=vE true M d c.al (stS n (kid c 0) M d L,[]) (fun a _=>kW n a.2)
  have h5:=Ab true (fC true (stS n) M d c.al (stS n (kid c 0) M d L,[])).2 (fC true (stS n) M d c.al (stS n (kid c 0) M d L,[])).1.1
  have h6:=gP c.size c M d L
  have h7:=zn0 (fC true (stS n) M d c.al (stS n (kid c 0) M d L,[])).1.2 (tY true (fC true (stS n) M d c.al (stS n (kid c 0) M d L,[])).2 (fC true (stS n) M d c.al (stS n (kid c 0) M d L,[])).1.1)
  simp only at h4
  unfold stS
  cases c.f == 8 <;> cases c.f == 10 <;> cases c.f == 11 <;> cases c.f == 9 <;> simp only [aE,aG,List.length_append,List.length_cons,List.length_nil] <;> omega
def Eln (ea:Nat) (es:List (Nat × Nat × Nat)) (i:Nat):Env:={slots:=[(67,⟨false,pP ea es⟩),(68,⟨false,.int .i64 es.length⟩),(69,⟨false,.int .i64 i⟩)],locs:=[],boxes:=[],defers:=[]}
theorem zbwb (C:aM) (n:Nat) (ea:Nat) (es:List (Nat × Nat × Nat)) (σ:Store):exec C n none Ur (Eln ea es es.length) σ=some (.exit 1,{Eln ea es es.length with slots:=[(67,⟨false,pP ea es⟩),(68,⟨false,.int .i64 es.length⟩),(69,⟨false,.int .i64 es.length⟩),(70,⟨false,.bool false⟩)]},σ):=by
 have hlt:¬ ((es.length:Int) < (es.length:Int)):=by omega
 simp only [Ur,Eln,sA,Nat.reduceAdd,Nat.reduceSub,Nat.reduceMul,Nat.reduceBEq,Nat.reduceLeDiff,Int.reduceBEq,Int.reduceBNe,Int.reduceLE,Int.reduceLT,Int.reduceGE,Int.reduceGT,Int.reduceNeg,kn,hlt]
theorem zb1b (es:List (Nat × Nat × Nat)) (i:Nat) (h:i < es.length):nth (cF es) (i * 1)=some ⟨false,jI es[i].2.1 es[i].2.2⟩:=by
 rw [Nat.mul_one,cF,Dc,Db _ _ h]
 rfl
theorem zlz {p eb ea a m:Nat} {M:At} {es:List (Nat × Nat × Nat)} (hl:es.length < 1000000000):∀ (rest done:List (Nat × Nat × Nat)) (L:List In) (σ:Store),es=done ++ rest→CS σ p a m L M→KE σ p a eb ea es→(∀ q∈es,q.1 < L.length) →
  ∃ σ',(∀ N n,1≤N→rest.length < n→dL (exec (W SD N) N none Ur) n (Eln ea es done.length) σ=some (.exit 1,{Eln ea es es.length with slots:=[(67,⟨false,pP ea es⟩),(68,⟨false,.int .i64 es.length⟩),(69,⟨false,.int .i64 es.length⟩),(70,⟨false,.bool false⟩)]},σ'))∧CS σ' p a m (Ge (rest.map Prod.fst) L) M∧Frm p a m a m σ σ'
 | [],done,L,σ,hd,h,hk,hq=>by
  refine ⟨σ,fun N n _ hn=>?_,h,Frm.refl⟩
  obtain ⟨n,rfl⟩:∃ k,n=k + 1:=⟨n - 1,by omega⟩
  have e:done.length=es.length:=by rw [hd]; simp
  rw [e]
  exact gX (zbwb (W SD N) N ea es σ)
 | q :: rest,done,L,σ,hd,h,hk,hq=>by
  have hi:done.length < es.length:=by rw [hd]; simp
  have hs:es[done.length]=q:=by
   have:∀ (l:List (Nat × Nat × Nat)) (hl:l=done ++ q :: rest) (hi:done.length < l.length),l[done.length]=q:=fun l hl hi=>by subst hl; simp
   exact this _ hd hi
  have hm:q∈es:=by rw [hd]; simp
  have hne:es≠[]:=fun e=>by rw [e] at hm; cases hm
  obtain ⟨g1,g2,g3,g4,g5⟩:=hk.hf q hm
  obtain ⟨σ1,h1,h2,h3⟩:=zbg (S:=SD) rfl h g1 (hq q hm)
  obtain ⟨σ2,r1,r2,r3⟩:=zlz hl rest (done ++ [q]) _ σ1 (by rw [hd]; simp) h2 (hk.keep h3) (fun x hx=>by rw [vR]; exact hq x hx)
  simp only [List.length_append,List.length_cons,List.length_nil,Nat.zero_add] at r1
  refine ⟨σ2,fun N n hN hn=>?_,r2,h3.trans r3⟩
  obtain ⟨n,rfl⟩:∃ k,n=k + 1:=⟨n - 1,by omega⟩
  obtain ⟨N,rfl⟩:∃ k,N=k + 1:=⟨N - 1,by omega⟩
  rw [dW ?_]
  ·exact r1 (N + 1) n hN (by simp at hn; omega)
  ·have hlt:((done.length:Int) < (es.length:Int)):=by omega
   have w:=aR (i:=done.length) (by omega)
   have hla:pP ea es=.arr dK ea 0 es.length:=by
    cases es with
    | nil=>exact absurd rfl hne
    | cons x l=>rfl
   have ha:=(hk.arr hne).1
   have hn:=zb1b es done.length hi
   rw [hs] at hn
   have es1:(dK.sz == 1)=true:=rfl
   have h1:=h1 N
   have hfn:D.fn? (jI q.2.1 q.2.2)=some (Om,[],[.ptr q.2.1 0,.ptr q.2.2 0]):=rfl
   simp only [Ur,Eln,hla,sA,Nat.reduceAdd,Nat.reduceSub,Nat.reduceMul,Nat.reduceBEq,Nat.reduceLeDiff,Int.reduceBEq,Int.reduceBNe,Int.reduceLE,Int.reduceLT,Int.reduceGE,Int.reduceGT,Int.reduceNeg,kn,hlt,cL,jJ,es1,hi,Nat.zero_add,ha,hn,hfn,h1,w]
end Go.Fu
namespace Go.Fu
open Go Go.Mx
set_option maxRecDepth 10000
set_option maxHeartbeats 4000000
theorem FrA.to {σ σ1 σ':Store} {p a m a' m':Nat} (h:FrA σ σ1) (k:Frm p a m a' m' σ1 σ'):Frm p a m a' m' σ σ':=(h.frm p a m).trans k
theorem zk8 {c:Co} (h:c.size < 100000000):∀ a∈c.al,a.1.vars.length < 100000000:=fun a ha=>by
 have:=lN c.al a ha
 have:=gZ c
 omega
theorem FrV.frm {st:Bool} {p a eb ea m a' m' ea':Nat} {σ σ':Store} (h:FrV (VX st p eb a ea) (VX st p eb a' ea') m m' σ σ') {σ0:Store} (h0:FrA σ0 σ) (hpa:p≠a') (he:σ0.next≤eb∧σ0.next≤ea):Frm p a m a' m' σ0 σ':=by
 have hn:=h0.nx
 refine ⟨Nat.le_trans h0.nx h.nx,fun j hj h1 h2=>?_,fun j hj=>?_,fun j hj hm=>?_,?_,?_⟩
 ·rw [h.ob j (by omega) (fun e=>by rcases e with e | e | ⟨_,e | e⟩ <;> omega),h0.ob j hj]
 ·rw [h.ty j (by omega),h0.ty j hj]
 ·rw [h.ot j (by omega) hm,h0.ot j hj]
 ·rcases h.fv a' (.inr (.inl rfl)) with (e | e | ⟨_,e | e⟩) | e
  ·exact absurd e.symm hpa
  ·exact .inl e
  ·exact .inr (by omega)
  ·exact .inr (by omega)
  ·exact .inr (by omega)
 ·rcases h.fm with e | e
  ·exact .inl e
  ·exact .inr (by omega)
theorem zf7 (st:Bool) (body:Co→At→Int→List In→List In) (M:At) (d:Int):∀ (l:List (Hd × Co)) (s:List In × List Nat),(fC st body M d l s).1.2.length≤s.2.length + l.length
 | [],s=>Nat.le_refl _
 | a :: l,s=>by
  have h0:(kC st body M d a s).2.length≤s.2.length + 1:=by
   unfold kC
   cases st <;> simp only [aE,aG,List.length_append,List.length_cons,List.length_nil] <;> omega
  have h1:=zf7 st body M d l (kC st body M d a s)
  unfold fC
  cases a.1.form == 3 <;> simp only [aE,aG,List.length_cons] <;> omega
theorem zun (ea:Nat) (es:List (Nat × Nat × Nat)):lenOf (pP ea es)=some es.length:=by cases es <;> rfl
theorem Yc {B:Nat}:∀ (n:Nat) (c:Co),c.size≤n→c.size < 40000000→Fl B false c→Okf yR c (stS n c):=by
 intro n
 induction n with
 | zero=>intro c h; have:=iF c; omega
 | succ n ih =>
  intro c hn hsz hf σ p a m L M d h hl
  have hp:=h.ca.pn
  have ha:=h.ca.an
  have hse:=gZ c
  have hdc:=bY c
  have hon:=fF c
  have hlL:L.length < 100000000:=by have:=kW (n + 1) c M d L; omega
  obtain ⟨σ1,e1⟩:∃ σ1,σ1=GA σ uP [⟨false,.ptr p 0⟩]:=⟨_,rfl⟩
  have n1:σ1.next=σ.next + 1:=by rw [e1,cS]
  have fA:FrA σ σ1:=by rw [e1]; exact FrA.ga
  have h1:=h.fa fA
  have x1:aB σ1.objs σ.next=some [⟨false,.ptr p 0⟩]:=by rw [e1,dY]
  have hbx:Bx σ1 p a [(σ.next,[⟨false,.ptr p 0⟩])]:=fun q hq=>by
   rw [List.mem_singleton] at hq
   subst hq
   exact ⟨x1,by show σ.next < _; omega,by show σ.next≠p; omega,by show σ.next≠a; omega⟩
  have plain:(c.f=1∨c.f=2∨c.f=3∨c.f=4)→Iy yR [.ptr p 0,dCo c,.int .i64 d] σ p a m (stS (n + 1) c M d L) M:=fun hff=>by
   have e8:(c.f == 8)=false:=beq_false_of_ne (by omega)
   have e10:(c.f == 10)=false:=beq_false_of_ne (by omega)
   have e11:(c.f == 11)=false:=beq_false_of_ne (by omega)
   have e9:(c.f == 9)=false:=beq_false_of_ne (by omega)
   unfold stS at hl ⊢
   rw [e8,e10,e11,e9,aG,aG,aG,aG] at hl ⊢
   have hm:=gP c.size c M d L
   simp only [List.length_append,List.length_cons,List.length_nil] at hl
   obtain ⟨σ2,a2,m2,⟨k2,w2⟩,c2,f2⟩:=Gf c.size c false (Nat.le_refl _) (by omega) hf (.inr hff) σ1 p a m L M d h1 (by omega)
   obtain ⟨σ3,w3,c3,f3⟩:=fQ c2 (by omega) Xn 0
   refine ⟨σ3,_,_,Ev.of (k2 + 1) fun k hk=>?_,c3,fA.to (f2.trans f3)⟩
   obtain ⟨k,rfl⟩:∃ j,k=j + 1:=⟨k - 1,by omega⟩
   rw [bC (af:=vW) rfl rfl rfl]
   have w2:=w2 (k + 1) (by omega)
   have w3:=w3 k
   have x2:=(hbx.keep f2 _ (List.mem_singleton.2 rfl)).1
   rw [hdc] at w2
   simp only [Xn] at w3
   simp only [vW,sA,Nat.reduceAdd,Nat.reduceSub,Nat.reduceMul,Nat.reduceBEq,Nat.reduceLeDiff,Int.reduceBEq,Int.reduceBNe,Int.reduceLE,Int.reduceLT,Int.reduceGE,Int.reduceGT,Int.reduceNeg,kn,bF,mB,hdc,hon,← e1,e8,e10,e11,e9,x1,w2,x2,w3]
  rcases Ro hf with hff | ⟨hff,_⟩ | ⟨hff,b1,hks,hfb,hbs⟩ | ⟨_,hff | ⟨hff,a1,b1,hks,hfa,hfb⟩ | ⟨hff,x,hks,hfx,hal⟩⟩
  ·exact plain (by omega)
  ·exact plain (by omega)
  ·have e8:(c.f == 8)=true:=by rw [hff]; rfl
   have hz1:szK c.ks=b1.size + 0:=by rw [hks]; rfl
   have hbl:=lY c.bs
   unfold stS at hl ⊢
   rw [e8,aE] at hl ⊢
   simp only [List.length_append,List.length_cons,List.length_nil] at hl
   obtain ⟨σ2,a2,m2,⟨k2,w2⟩,c2,f2⟩:=zaf (d:=d) (M:=M) (lz:=fun b=>lzS b.size b) (go:=stS n) (g:=yR) hks (by omega) (fun b hb=>by
    have:=oY c.bs b hb
    exact Gf _ b.2 true (Nat.le_refl _) (by omega) (hbs b hb) (.inl rfl)) (fun b _=>gP _ b.2) rfl (ih b1 (by omega) (by omega) hfb) (kW n b1) h1 (by omega)
   obtain ⟨σ3,w3,c3,f3⟩:=fQ c2 (by omega) qC c.bs.length
   refine ⟨σ3,_,_,Ev.of (k2 + 1) fun k hk=>?_,c3,fA.to (f2.trans f3)⟩
   obtain ⟨k,rfl⟩:∃ j,k=j + 1:=⟨k - 1,by omega⟩
   rw [bC (af:=vW) rfl rfl rfl]
   have w2:=w2 (k + 1) (by omega)
   have w3:=w3 k
   have x2:=(hbx.keep f2 _ (List.mem_singleton.2 rfl)).1
   have hln:=Vp c
   rw [hdc] at w2
   simp only [jV] at w2
   simp only [qC] at w3
   simp only [vW,sA,Nat.reduceAdd,Nat.reduceSub,Nat.reduceMul,Nat.reduceBEq,Nat.reduceLeDiff,Int.reduceBEq,Int.reduceBNe,Int.reduceLE,Int.reduceLT,Int.reduceGE,Int.reduceGT,Int.reduceNeg,kn,bF,mB,hdc,hon,← e1,e8,x1,w2,x2,hln,w3]
  ·have e8:(c.f == 8)=false:=by rw [hff]; rfl
   have e10:(c.f == 10)=false:=by rw [hff]; rfl
   have e11:(c.f == 11)=true:=by rw [hff]; rfl
   unfold stS at hl ⊢
   rw [e8,e10,e11,aG,aG,aE] at hl ⊢
   obtain ⟨σ3,w3,c3,f3⟩:=fQ h1 (by omega) oC 0
   refine ⟨σ3,_,_,Ev.of 1 fun k hk=>?_,c3,fA.to f3⟩
   obtain ⟨k,rfl⟩:∃ j,k=j + 1:=⟨k - 1,by omega⟩
   rw [bC (af:=vW) rfl rfl rfl]
   have w3:=w3 k
   simp only [oC] at w3
   simp only [vW,sA,Nat.reduceAdd,Nat.reduceSub,Nat.reduceMul,Nat.reduceBEq,Nat.reduceLeDiff,Int.reduceBEq,Int.reduceBNe,Int.reduceLE,Int.reduceLT,Int.reduceGE,Int.reduceGT,Int.reduceNeg,kn,bF,mB,hdc,hon,← e1,e8,e10,e11,x1,w3]
  ·have e8:(c.f == 8)=false:=by rw [hff]; rfl
   have e10:(c.f == 10)=true:=by rw [hff]; rfl
   have k0:kid c 0=a1:=by simp [kid,hks]
   have k1:kid c 1=b1:=by simp [kid,hks]
   unfold stS at hl ⊢
   rw [e8,e10,aG,aE,k0,k1] at hl ⊢
   have hz1:szK c.ks=a1.size + (b1.size + 0):=by rw [hks]; rfl
   have q1:=kW n a1 M d L
   have q2:=kW n b1 M (w64 (d + 1)) (stS n a1 M d L)
   simp only [List.length_append,List.length_cons,List.length_nil] at hl
   obtain ⟨σ2,a2,m2,⟨k2,w2⟩,c2,f2⟩:=ih a1 (by omega) (by omega) hfa σ1 p a m L M d h1 (by omega)
   obtain ⟨σ3,a3,m3,⟨k3,w3⟩,c3,f3⟩:=ih b1 (by omega) (by omega) hfb σ2 p a2 m2 _ M (w64 (d + 1)) c2 (by omega)
   obtain ⟨σ4,e4⟩:∃ σ4,σ4=GM σ3 (.map Nh 6):=⟨_,rfl⟩
   have c4:CS σ4 p a3 m3 (stS n b1 M (w64 (d + 1)) (stS n a1 M d L)) M:=by rw [e4]; exact c3.gm
   have f4:Frm p a3 m3 a3 m3 σ3 σ4:=by rw [e4]; exact Frm.gm
   obtain ⟨σ5,w5,c5,f5⟩:=fQ c4 (by omega) (xF c.s) 0
   refine ⟨σ5,_,_,Ev.of (max k2 k3 + 1) fun k hk=>?_,c5,fA.to (((f2.trans f3).trans f4).trans f5)⟩
   obtain ⟨k,rfl⟩:∃ j,k=j + 1:=⟨k - 1,by omega⟩
   rw [bC (af:=vW) rfl rfl rfl]
   have w2:=w2 (k + 1) (by omega)
   have w3:=w3 (k + 1) (by omega)
   have w5:=w5 k
   have b2:=hbx.keep f2
   have b3:=b2.keep f3
   have x2:=(b2 _ (List.mem_singleton.2 rfl)).1
   have x3:=(b3 _ (List.mem_singleton.2 rfl)).1
   have x4:=((b3.keep f4) _ (List.mem_singleton.2 rfl)).1
   have i0:=Da hks 0 (by simp)
   have i1:=Da hks 1 (by simp)
   simp only [List.getElem_cons_zero,List.getElem_cons_succ] at i0 i1
   have g0:=agg?_dCo a1
   have g1:=agg?_dCo b1
   have l0:=xQ a1
   have l1:=xQ b1
   have ho:=zzy k σ3
   rw [← e4] at ho
   have hmo:rC σ4.oth (.map σ3.next)=some Nh:=by rw [e4]; exact zg8
   obtain ⟨r,hr1,hr2⟩:=zhq c.s
   simp only [w64] at w3
   simp only [vW,sA,Nat.reduceAdd,Nat.reduceSub,Nat.reduceMul,Nat.reduceBEq,Nat.reduceLeDiff,Int.reduceBEq,Int.reduceBNe,Int.reduceLE,Int.reduceLT,Int.reduceGE,Int.reduceGT,Int.reduceNeg,kn,bF,mB,hdc,hon,← e1,e8,e10,x1,i0,i1,g0,g1,l0,l1,w2,x2,w3,x3,ho,Eu,List.all_cons,List.all_nil,iL,x4,tI,hmo,pC,hr1,hr2,w5]
  ·have e8:(c.f == 8)=false:=by rw [hff]; rfl
   have e10:(c.f == 10)=false:=by rw [hff]; rfl
   have e11:(c.f == 11)=false:=by rw [hff]; rfl
   have e9:(c.f == 9)=true:=by rw [hff]; rfl
   have k0:kid c 0=x:=by simp [kid,hks]
   unfold stS at hl ⊢
   rw [e8,e10,e11,e9,aG,aG,aG,aE,k0] at hl ⊢
   rw [Kv] at hl
   have hz1:szK c.ks=x.size + 0:=by rw [hks]; rfl
   have hala:=nI c.al
   obtain ⟨σ2,e2⟩:∃ σ2,σ2=GA σ1 zxu [⟨false,.nils⟩]:=⟨_,rfl⟩
   have n2:σ2.next=σ.next + 2:=by rw [e2,cS,n1]
   have f12:FrA σ1 σ2:=by rw [e2]; exact FrA.ga
   have x2:aB σ2.objs σ.next=some [⟨false,.ptr p 0⟩]:=by rw [e2,fN (by omega),x1]
   have b2:aB σ2.objs (σ.next + 1)=some [⟨false,.nils⟩]:=by rw [e2,← n1,dY]
   have hke:KE σ2 p a (σ.next + 1) (σ.next + 1) []:=⟨b2,fun e=>absurd rfl e,fun q hq=>(by cases hq),⟨by omega,by omega,by omega,by omega,fun e=>absurd rfl e,by omega,by omega⟩⟩
   have hxb:BxV σ2 (VX true p (σ.next + 1) a (σ.next + 1)) [(σ.next,[⟨false,.ptr p 0⟩])]:=fun q hq=>by
    rw [List.mem_singleton] at hq
    subst hq
    exact ⟨x2,by show σ.next < _; omega,fun e=>by rcases e with e | e | ⟨_,e | e⟩ <;> simp only at e <;> omega⟩
   have hcs:=zbd (stS n) M d c.al (stS n x M d L,[]) (fun a _=>kW n a.2) (fun e he=>(by cases he))
   have hcc:=zf7 true (stS n) M d c.al (stS n x M d L,[])
   obtain ⟨σ3,a3,m3,ea3,es3,⟨k3,w3⟩,c3,k3',q3,f3⟩:=zW' true (body:=stS n) (g:=yR) rfl c (by omega) (fun a ha=>by
     have:=lN c.al a ha
     exact ih a.2 (by omega) (by omega) (hal a ha)) (fun a _=>kW n a.2) (zk8 (by omega)) hks (ih x (by omega) (by omega) hfx) (h1.fa f12) ⟨fun _=>hke,fun _=>rfl⟩ hxb hl
   have hKE:=k3'.1 rfl
   rw [← q3] at hcs hcc
   rw [← q3]
   generalize hres:tY true (fC true (stS n) M d c.al (stS n x M d L,[])).2 (fC true (stS n) M d c.al (stS n x M d L,[])).1.1=R at *
   have hmo:=Ab true (fC true (stS n) M d c.al (stS n x M d L,[])).2 (fC true (stS n) M d c.al (stS n x M d L,[])).1.1
   rw [hres] at hmo
   rw [List.length_map] at hcc
   simp only [List.length_nil,Nat.zero_add] at hcc
   obtain ⟨σ4,w4,c4,f4⟩:=zlz (es:=es3) (by omega) es3 [] R σ3 rfl c3 hKE (fun q hq=>Nat.lt_of_lt_of_le (hcs q.1 (List.mem_map_of_mem hq)) hmo)
   have fall:=(f3.trans (f4.v true (σ.next + 1) ea3)).frm (fA.trans f12) c4.ca.pa ⟨by omega,by omega⟩
   refine ⟨σ4,_,_,Ev.of (k3 + es3.length + 1) fun k hk=>?_,c4,fall⟩
   rw [bC (af:=vW) rfl rfl rfl]
   have w3:=w3 k (by omega)
   have w4:=w4 k k (by omega) (by omega)
   have hb3:=hKE.box
   have hlf:=zun ea3 es3
   rw [hdc] at w3
   simp only [jV,lO,Zs,aE] at w3
   simp only [Eln,List.length_nil,bV] at w4
   simp only [vW,sA,Nat.reduceAdd,Nat.reduceSub,Nat.reduceMul,Nat.reduceBEq,Nat.reduceLeDiff,Int.reduceBEq,Int.reduceBNe,Int.reduceLE,Int.reduceLT,Int.reduceGE,Int.reduceGT,Int.reduceNeg,kn,bF,mB,hdc,hon,← e1,n1,← e2,e8,e10,e11,e9,x2,w3,hb3,hlf,w4]
end Go.Fu
