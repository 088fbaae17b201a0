/-
 A combinator made eA by the program.
-/
import Derived.Test.YtldfbnbckiifeaaGreatDoorFgEa
import Derived.Test.YtldfbnbckiifeaaGreatDoorFgCodeC
import Derived.Test.YtldfbnbckiifeaaGreatDoorFgZa
set_option maxHeartbeats 4000000
set_option linter.unusedSimpArgs false
set_option linter.unusedVariables false
set_option linter.unusedSectionVars false
namespace Go.Fu
open Go Go.Mx
set_option maxRecDepth 10000
set_option maxHeartbeats 4000000
theorem zf6b (p:Nat) (t:Tx) (ht:t.length < 10000000):∀ (k:Nat) (c:Co) (lz:Bool) (ar:List Tx),c.size=k→Wf c→ar.length + c.size < 10000000→zI p t c lz ar (flM c lz ar t):=by
 intro k
 induction k using Nat.strongRecOn with
 | ind k ih =>
  intro c lz ar hk hw hsz
  have hse:=iV c
  have lB:=mW c.bs
  obtain ⟨hbd,wb,wk,wa⟩:=hw.bnd
  cases hli:kZ c lz with
  | true =>
   have hlz:lz=true:=by
    unfold kZ at hli
    cases lz with
    | true=>rfl
    | false=>simp at hli
   subst hlz
   have:flM c true ar t=pK c ar t:=funext fun m=>Bf c true ar t m hli
   rw [this]
   exact zyo c hw (by omega) ar (by omega) p t ht hli
  | false =>
   refine zyn p t c lz ar hw hsz hli ht (fun b hb=>?_) (fun x hx=>?_) (fun b hb=>?_)
   ·have:=Xt c.bs b hb
    exact ih b.2.size (by omega) b.2 true _ rfl (wb b hb) (by simp [nms]; omega)
   ·have:=vG c.ks x hx
    exact ih x.size (by omega) x _ _ rfl (wk x hx) (by simp [nms]; omega)
   ·have:=lU c.al b hb
    exact ih b.2.size (by omega) b.2 false _ rfl (wa b hb) (by simp [nms]; omega)
def jY:Nat→Su→List Su
 | 0,u=>[u]
 | k + 1,u=>⟨u.name,u.ps,(flM u.body false u.ps u.name []).1⟩ :: (flM u.body false u.ps u.name []).2.flatMap (jY k)
def jJ (u:Su):List Su:=jY u.body.size u
def spG (k:Nat):FuncId→List D→Cell→Prop:=fun _ ds c=>∀ u,ds=[dU u]→c=⟨false,dUs (jY k u)⟩
open Classical in
noncomputable def Cfl (k n:Nat):dQ:=fun f ds σ=>ifB (f == wT) (orc Go.Proofs.Tryz.prog κ (spG k) f ds σ) (W SP n f ds σ)
theorem zta (k n:Nat):lM Go.Proofs.Tryz.prog κ (Cfl k n):=by
 intro f ds σ out σ' h
 unfold Cfl at h
 cases e:f == wT with
 | true=>rw [e,dJ] at h; exact zeb _ _ _ _ _ h
 | false=>rw [e,dH] at h; exact pY SP n _ _ _ _ _ h
section
variable {C:dQ} {n:Nat} {σ:Store}
def Egf (a:Nat) (m acc:List Su) (i:Nat):Env:={slots:=[(4,⟨true,dUs acc⟩),(23,⟨false,wG a m⟩),(24,⟨false,.int .i64 m.length⟩),(25,⟨false,.int .i64 i⟩)],locs:=[],boxes:=[],defers:=[]}
theorem zcfb (a:Nat) (m acc us:List Su) (i:Nat) (h:i < m.length) (hm:m.length < 100000000) (ha:dE σ.objs a=some (cellsOf (m.map dU))) (hl:acc.length + us.length < 1000000000) (hc:C wT [dU m[i]] σ=some (.ret ⟨false,dUs us⟩,σ)):exec C n none zbb (Egf a m acc i) σ=some (.normal,Egf a m (acc ++ us) (i + 1),σ):=by
 have hlt:((i:Int) < (m.length:Int)):=by omega
 have w:=dV (i:=i) (by omega)
 have ht:=Cj (g:=dU) (sz:=11) Bc m i h
 have es:(k_5.sz == 12)=true:=rfl
 have hag:wG a m=.arr k_5 a 0 m.length:=rK _ _ _ (by omega)
 have hap:=appU acc us true (fun _=>rfl) hl
 have has:=zwy us
 generalize m[i]=u at ht hc
 have hon:=jO u.body
 have hoS:=gW u.ps
 rw [Gl] at ht hc
 simp only [D.cells] at ht
 simp only [zbb,Egf,hag,sA,Nat.reduceAdd,Nat.reduceSub,Nat.reduceMul,Nat.reduceBEq,Nat.reduceLeDiff,Int.reduceBEq,Int.reduceBNe,Int.reduceLE,Int.reduceLT,Int.reduceGE,Int.reduceGT,Int.reduceNeg,kn,hlt,fL,mH,es,h,aN,ha,ht,hon,hoS,hc,has,hap,w]
theorem zfab (a:Nat) (m acc:List Su):exec C n none zbb (Egf a m acc m.length) σ=some (.exit 0,{Egf a m acc m.length with slots:=[(4,⟨true,dUs acc⟩),(23,⟨false,wG a m⟩),(24,⟨false,.int .i64 m.length⟩),(25,⟨false,.int .i64 m.length⟩),(26,⟨false,.bool false⟩)]},σ):=by
 have hlt:¬ ((m.length:Int) < (m.length:Int)):=by omega
 simp only [zbb,Egf,sA,Nat.reduceAdd,Nat.reduceSub,Nat.reduceMul,Nat.reduceBEq,Nat.reduceLeDiff,Int.reduceBEq,Int.reduceBNe,Int.reduceLE,Int.reduceLT,Int.reduceGE,Int.reduceGT,Int.reduceNeg,kn,hlt]
end
theorem zxm {B B':Nat} (hB:B≤B') (hB':B'≤9000000):∀ (k:Nat) (s:Su),s.body.size≤k→Vd B B' s→OkP wT [dU s] ⟨false,dUs (jY k s)⟩∧FO B' s.body.size (jY k s):=by
 intro k
 induction k with
 | zero=>intro s h; have:=kO s.body; omega
 | succ k ih =>
  intro s hk ⟨hs,hn,hps,hsz⟩
  have hpos:=kO s.body
  have hhp:=zuq s.body
  obtain ⟨r1,r2,r3,r4⟩:=Rw (B:=B) (B':=B') (t:=s.name) hs hB (by omega) false s.ps []
  have r5:=zxi (B:=B) (B':=B') (t:=s.name) hs hB (by omega) s.ps []
  have r6:=zud s.body s.ps s.name
  obtain ⟨σ1,e1⟩:∃ σ1,σ1=GA σ0 zbeb [⟨false,.str s.name⟩,⟨false,.nils⟩]:=⟨_,rfl⟩
  have n0:σ0.next=0:=rfl
  have n1:σ1.next=1:=by rw [e1,fW]; rfl
  have h1:FSt σ1 0 5 s.name []:=⟨by rw [e1]; rfl,fun e=>absurd rfl e,by decide,by omega,fun e=>absurd rfl e⟩
  obtain ⟨σ2,a2,⟨x2,w2⟩,h2,_⟩:=zf6b 0 s.name (by omega) s.body.size s.body false s.ps rfl (Shp.wf hs) (by omega) σ1 5 [] h1 (by simp; omega)
  have hfu:jY (k + 1) s=⟨s.name,s.ps,(flM s.body false s.ps s.name []).1⟩ :: (flM s.body false s.ps s.name []).2.flatMap (jY k):=rfl
  rw [hfu]
  generalize flM s.body false s.ps s.name []=fr at *
  obtain ⟨b,m⟩:=fr
  simp only [szU,aN] at w2 h2 r1 r2 r3 r4 r5 r6
  have pre:∀ u∈m,Vd B B' u∧u.body.size < s.body.size:=fun u hu=>by
   have h2:=zde m u hu
   have h6:=r6 u hu
   rcases r4 u hu with h | ⟨h3,h4,h5,_⟩
   ·cases h
   ·exact ⟨⟨h3,by omega,by omega,by omega⟩,by omega⟩
  have hml:=zpg m
  have hu0:FlU B' ⟨s.name,s.ps,b⟩:=⟨r1,by simp only; omega,by simp only; omega⟩
  have ihm:∀ u∈m,OkP wT [dU u] ⟨false,dUs (jY k u)⟩∧FO B' u.body.size (jY k u):=fun u hu=>ih u (by have:=(pre u hu).2; omega) (pre u hu).1
  have hprops:∀ l:List Su,(∀ u∈l,u∈m)→(∀ u∈l.flatMap (jY k),FlU B' u)∧(l.flatMap (jY k)).length≤szU l∧szU (l.flatMap (jY k))≤3 * s.body.size * szU l:=by
   intro l
   induction l with
   | nil=>intro _; exact ⟨fun u hu=>by simp at hu,by simp,by simp [szU]⟩
   | cons x r ihr =>
    intro hl
    obtain ⟨p1,p2,p3⟩:=ihr fun u hu=>hl u (aI _ hu)
    have hx:=hl x (aQ ..)
    obtain ⟨g1,g2,g3⟩:=(ihm x hx).2
    have hlt:=(pre x hx).2
    rw [bE]
    refine ⟨fun u hu=>?_,?_,?_⟩
    ·rcases bJ.1 hu with h | h
     ·exact g1 u h
     ·exact p1 u h
    ·rw [aF]; simp only [szU]; omega
    ·rw [Lm]
     simp only [szU]
     have:3 * x.body.size * x.body.size≤3 * s.body.size * x.body.size:=Nat.mul_le_mul_right _ (by omega)
     rw [Nat.mul_add]
     omega
  obtain ⟨t1,t2,t3⟩:=hprops m fun _ h=>h
  dsimp only
  refine ⟨?_,?_,?_,?_⟩
  ·have hrun:=iL (body:=exec (Cfl k (x2 + 1)) (m.length + 1) none zbb) (fun i=>Egf a2 m ([⟨s.name,s.ps,b⟩] ++ (m.take i).flatMap (jY k)) i) (fun _=>σ2) m.length (r:=_) (fun _ _ h=>by cases h) (fun i hi=>by
    have hmem:=aX hi
    have hne:m≠[]:=List.ne_nil_of_mem hmem
    obtain ⟨c,hc1,hc2⟩:=zo2 (P:=Go.Proofs.Tryz.prog) (κ:=κ) (qR:=spG k) (f:=wT) (ds:=[dU m[i]]) ⟨⟨false,dUs (jY k m[i])⟩,fun u hu=>by
     simp only [aL,and_true] at hu
     rw [Ol hu],(ihm _ hmem).1⟩
    have hcc:Cfl k (x2 + 1) wT [dU m[i]] σ2=some (.ret ⟨false,dUs (jY k m[i])⟩,σ2):=by
     unfold Cfl
     rw [bW,dJ,hc2,hc1 _ rfl]
    obtain ⟨p1,p2,p3⟩:=hprops (m.take i) fun u hu=>bH hu
    obtain ⟨g1,g2,g3⟩:=(ihm _ hmem).2
    have htl:=znh m i
    have hz:=zde m _ hmem
    have:=zcfb (C:=Cfl k (x2 + 1)) (n:=m.length + 1) (σ:=σ2) a2 m ([⟨s.name,s.ps,b⟩] ++ (m.take i).flatMap (jY k)) (jY k m[i]) i hi (by omega) (h2.arr hne).1 (by rw [aF,cC]; omega) hcc
    have e:[⟨s.name,s.ps,b⟩] ++ (m.take i).flatMap (jY k) ++ jY k m[i]=[⟨s.name,s.ps,b⟩] ++ (m.take (i + 1)).flatMap (jY k):=by
     rw [← hZ m i hi,List.flatMap_append,bR]
     simp
    rw [e] at this
    exact this) (zfab a2 m _) 0 (m.length + 1) (by omega) (by omega)
   rw [aV] at hrun
   have hput:Cfl k (x2 + 1) vQ [.ptr 0 0,dCo s.body,.bool false,dSs s.ps] σ1=some (.ret ⟨false,dCo b⟩,σ2):=w2 (x2 + 1) (by omega)
   have e1':dUs [⟨s.name,s.ps,b⟩]=.list k_5 [dU ⟨s.name,s.ps,b⟩]:=rfl
   have e0:([⟨s.name,s.ps,b⟩]:List Su) ++ (m.take 0).flatMap (jY k)=[⟨s.name,s.ps,b⟩]:=by simp
   have hcat:([⟨s.name,s.ps,b⟩]:List Su) ++ m.flatMap (jY k)=⟨s.name,s.ps,b⟩ :: m.flatMap (jY k):=rfl
   rw [hcat] at hrun
   generalize (⟨s.name,s.ps,b⟩ :: m.flatMap (jY k):List Su)=R at *
   have hoR:(dUs R).one=true:=fM
   have hobj:=h2.obj
   have hon:=jO s.body
   have honb:=jO b
   have hoS:=gW s.ps
   have hla:lenOf (wG a2 m)=some m.length:=Bm _ _ _
   simp only [Egf,eR,e0,e1'] at hrun
   rw [Gl] at hrun
   simp only at hrun
   rw [fJ,fJ] at hput
   refine OkP.weak (o:=true) rfl (sF (af:=zf5) (n:=m.length + 1) (σ':=σ2) (zta k (x2 + 1)) rfl rfl (by simp [eB,Jw]) (qN _) ?_)
   rw [Gl]
   simp only [zf5,sA,Nat.reduceAdd,Nat.reduceSub,Nat.reduceMul,Nat.reduceBEq,Nat.reduceLeDiff,Int.reduceBEq,Int.reduceBNe,Int.reduceLE,Int.reduceLT,Int.reduceGE,Int.reduceGT,Int.reduceNeg,kn,eI,mB,n0,← e1,hon,hoS,hput,honb,hobj,lX,hla,hrun]
  ·intro u hu
   rcases aS.1 hu with rfl | hu
   ·exact hu0
   ·exact t1 u hu
  ·rw [aG]; omega
  ·simp only [szU]
   have h6:3 * s.body.size * szU m≤3 * s.body.size * (s.body.size - 1):=Nat.mul_le_mul_left _ (by omega)
   have h7:3 * s.body.size + 3 * s.body.size * (s.body.size - 1)=3 * s.body.size * s.body.size:=by
    obtain ⟨j,hj⟩:∃ j,s.body.size=j + 1:=⟨s.body.size - 1,by omega⟩
    rw [hj]
    simp only [Nat.add_sub_cancel]
    generalize 3 * (j + 1)=z
    rw [Nat.mul_succ]
    omega
   omega
end Go.Fu
namespace Go.Fu
open Go Go.Mx
set_option maxRecDepth 10000
theorem zy0 (x:Int):Small (w64 x):=zat x
theorem vY {k:Nat} (h:k≤2000000000):Small (k:Int):=⟨by omega,by omega⟩
theorem gi4 {B:Nat} {o:Tx} {n m:Int} {s:Tx} (ho:o.length≤6) (hn:Small n) (hm:Small m) (hs:s.length≤B):GI B ⟨o,n,m,s⟩:=⟨ho,hn,hm,hs⟩
theorem Yi {B:Nat} {lz:Co→List In→List In} (k:Nat):∀ (l:List (Tx × Co)) (i m:Nat) (L:List In),GC B m L→(∀ b∈l,∀ (L:List In) (m:Nat),GC B m L→GC B (m + 3 * b.2.size) (lz b.2 L))→GC B (m + 3 * szB l) (sK lz k l i L)
 | [],i,m,L,h,_=>jQ h (by omega)
 | b :: r,i,m,L,h,hl=>by
  have h1:=jA (hl b (aQ ..) L m h) (mF (B:=B) (s:=nI) (x:=Ri k i) (by decide) (zat _))
  have h2:=Yi k r (i + 1) _ _ h1 fun b hb=>hl b (aI _ hb)
  exact jQ h2 (by simp only [szB]; omega)
theorem zg8 {B:Nat}:∀ (n:Nat) (c:Co) (z:Bool) (M:At) (d:Int) (L:List In) (m:Nat),c.size < 100000000→Fl B z c→(z=true∨c.f=1∨c.f=2∨c.f=3∨c.f=4)→GC B m L→GC B (m + 3 * c.size) (lzS n c M d L):=by
 intro n
 induction n with
 | zero=>intro c z M d L m _ _ _ h; exact jQ h (by omega)
 | succ n ih =>
  intro c z M d L m hsz hf hz h
  have hp:=kO c
  cases hf with
  | @leaf _ f k s h1 h2 h3 =>
   rcases h1 with rfl | rfl | rfl
   ·show GC B _ (eZ (M s) (L ++ [⟨Cm,0,0,s⟩]) fun a=>L ++ [op1 zao (w64 (w64 (d - 1) - a))])
    cases M s with
    | none=>exact jQ (jA h (gi4 (by decide) zS zS h3)) (by omega)
    | some a=>exact jQ (jA h (mF (by decide) (zy0 _))) (by omega)
   ·exact jQ (jA h (gi4 (by decide) zS zS h3)) (by omega)
   ·exact jQ (jA h (mF (by decide) h2)) (by omega)
  | @app _ s a b h1 ha hb =>
   have he:(Co.mk 4 0 s [a,b] [] []).size=1 + (a.size + (b.size + 0)) + 0 + 0:=by simp only [Co.size,szK,szB,szA]
   have q1:=ih b true M d L m (by omega) hb (.inl rfl) h
   have q2:=ih a true M (w64 (d + 1)) _ _ (by omega) ha (.inl rfl) q1
   exact jQ (jA q2 (mF (s:=zhy) (x:=0) (by decide) zS)) (by omega)
  | @lt _ s b bs h1 h2 h3 h4 =>
   have he:(Co.mk 8 0 s [b] bs []).size=1 + (b.size + 0) + szB bs + 0:=by simp only [Co.size,szK,szA]
   have hz':z=true:=by
    rcases hz with h | h | h | h | h
    ·exact h
    all_goals simp [Co.f] at h
   subst hz'
   have hbl:=mW bs
   have hsm:Small (bs.length:Int):=vY (by omega)
   have q0:=jA h (mF (B:=B) (s:=rH) (x:=bs.length) (by decide) hsm)
   have q1:=Yi (B:=B) (lz:=fun c L=>lzS n c (fE M (nms (Co.mk 8 0 s [b] bs [])) d 0) (w64 (d + bs.length)) L) bs.length bs 0 _ _ q0 fun x hx L m hm=>by
    have:=qK bs x hx
    exact ih x.2 true _ _ L m (by omega) (h3 x hx) (.inl rfl) hm
   have q2:=ih b true (fE M (nms (Co.mk 8 0 s [b] bs [])) d 0) (w64 (d + bs.length)) _ _ (by omega) h4 (.inl rfl) q1
   exact jQ (jA q2 (mF (s:=sW) (x:=bs.length) (by decide) hsm)) (by omega)
  | fail=>rcases hz with h | h | h | h | h <;> simp [Co.f] at h
  | prim _ _ _=>rcases hz with h | h | h | h | h <;> simp [Co.f] at h
  | cas _ _ _ _=>rcases hz with h | h | h | h | h <;> simp [Co.f] at h
theorem zox {p:In→Prop} {f:In→In} (hf:∀ x,p x→p (f x)):∀ (l:List In) (k:Nat),(∀ x∈l,p x)→∀ x∈l.modify k f,p x
 | [],k,h,x,hx=>by simp at hx
 | y :: r,0,h,x,hx=>by
  simp only [List.modify_zero_cons,aS] at hx
  rcases hx with rfl | hx
  ·exact hf _ (h y (aQ ..))
  ·exact h x (aI _ hx)
 | y :: r,k + 1,h,x,hx=>by
  simp only [List.modify_succ_cons,aS] at hx
  rcases hx with rfl | hx
  ·exact h _ (aQ ..)
  ·exact zox hf r k (fun x hx=>h x (aI _ hx)) x hx
theorem zvw {B m k:Nat} {v:Int} {L:List In} (h:GC B m L) (hv:Small v):GC B m (uE L k v) :=
 ⟨zox (fun _ ⟨a,_,b,c⟩=>⟨a,hv,b,c⟩) L k h.1,by rw [yL]; exact h.2⟩
theorem zom {B m:Nat} (hm:m≤2000000000):∀ (l:List Nat) (L:List In),GC B m L→GC B m (Ji l L)
 | [],L,h=>h
 | e :: r,L,h=>zom hm r _ (zvw h (vY (by have:=h.2; omega)))
theorem zeub {B m:Nat} {st:Bool} {h:Hd} {L:List In} (hv:h.vars.length≤2000000000) (hL:GC B m L):GC B (m + 2) (nU st h L):=by
 unfold nU
 cases st with
 | false=>exact jQ hL (by omega)
 | true =>
  rw [dJ]
  cases h.form == 1 with
  | true=>exact jA (jA hL (mF (by decide) (vY hv))) (gi4 (by decide) zS zS (by simp))
  | false=>exact jQ (jA hL (gi4 (by decide) zS zS (by simp))) (by omega)
theorem zcjb {B m:Nat} {h:Hd} {L:List In} (hv:h.vars.length≤2000000000) (hn:Small h.num) (hs:h.name.length≤B) (hL:GC B m L):GC B (m + 2) (L ++ nH h):=by
 have e:∀ a b:In,L ++ [a,b]=L ++ [a] ++ [b]:=by simp
 unfold nH
 cases h.form == 1 with
 | true=>rw [dJ,e]; exact jA (jA hL (gi4 (by decide) zS zS hs)) (mF (by decide) (vY hv))
 | false =>
  rw [dH]
  cases h.form == 2 with
  | true=>rw [dJ,e]; exact jA (jA hL (gi4 (by decide) zS hn (by simp))) (mF (by decide) zc3)
  | false=>exact jQ (jA hL (mF (by decide) zc3)) (by omega)
theorem ziq {B:Nat} (st:Bool) (body:Co→At→Int→List In→List In) (M:At) (d:Int):∀ (l:List (Hd × Co)) (s:List In × List Nat) (m:Nat),m + 8 * szA l≤1000000000→GC B m s.1→(∀ a∈l,Small a.1.num∧a.1.name.length≤B)→(∀ a∈l,∀ (M:At) (d:Int) (L:List In) (m:Nat),Small d→m + 8 * a.2.size≤1000000000→GC B m L→GC B (m + 8 * a.2.size + 3) (body a.2 M d L))→GC B (m + 8 * szA l) (iZ st body M d l s).1.1
 | [],s,m,_,h,_,_=>jQ h (by omega)
 | a :: r,s,m,hm,h,hh,hb=>by
  simp only [szA] at hm ⊢
  have hs:=hh a (aQ ..)
  have h1:GC B (m + 8 * (1 + a.1.vars.length + a.2.size)) (mD st body M d a s).1:=by
   have q1:=zcjb (h:=a.1) (by omega) hs.1 hs.2 h
   have q2:=hb a (aQ ..) (fE M a.1.vars.reverse d 0) (w64 (d + a.1.vars.length)) _ _ (zy0 _) (by omega) q1
   have q3:=zeub (st:=st) (h:=a.1) (by omega) q2
   unfold mD
   cases (a.1.form == 1 || a.1.form == 2) with
   | true=>exact jQ (zvw q3 (vY (by have:=q3.2; omega))) (by omega)
   | false=>exact jQ q3 (by omega)
  unfold iZ
  cases a.1.form == 3 with
  | true=>exact jQ h1 (by omega)
  | false=>exact jQ (ziq st body M d r _ _ (by omega) h1 (fun a h=>hh a (aI _ h)) fun a h=>hb a (aI _ h)) (by omega)
theorem zt8 {B m:Nat} {st b:Bool} {L:List In} (h:GC B m L):GC B (m + 2) (wM st b L):=by
 unfold wM
 cases b with
 | false=>exact jQ h (by omega)
 | true =>
  cases st with
  | true=>exact jA (jA h (mF (by decide) zc3)) (mF (by decide) zS)
  | false=>exact jQ (jA h (mF (s:=rA) (x:=0) (by decide) zS)) (by omega)
theorem za9b {B:Nat}:∀ (n:Nat) (c:Co) (M:At) (d:Int) (L:List In) (m:Nat),m + 8 * c.size≤1000000000→c.size < 100000000→Fl B false c→GC B m L→GC B (m + 8 * c.size) (stS n c M d L):=by
 intro n
 induction n with
 | zero=>intro c M d L m _ _ _ h; exact jQ h (by omega)
 | succ n ih =>
  intro c M d L m hm hsz hf h
  have hp:=kO c
  have hf0:=hf
  have plain:(false=true∨c.f=1∨c.f=2∨c.f=3∨c.f=4)→GC B (m + 8 * c.size) (lzS c.size c M d L ++ [op1 zan 0]):=fun hz =>
   jQ (jA (zg8 c.size c false M d L m hsz hf0 hz h) (mF (s:=zan) (x:=0) (by decide) zS)) (by omega)
  cases hf with
  | @leaf _ f k s h1 h2 h3 =>
   rcases h1 with rfl | rfl | rfl
   ·exact plain (.inr (.inl rfl))
   ·exact plain (.inr (.inr (.inl rfl)))
   ·exact plain (.inr (.inr (.inr (.inl rfl))))
  | @app _ s a b h1 ha hb=>exact plain (.inr (.inr (.inr (.inr rfl))))
  | @lt _ s b bs h1 h2 h3 h4 =>
   have he:(Co.mk 8 0 s [b] bs []).size=1 + (b.size + 0) + szB bs + 0:=by simp only [Co.size,szK,szA]
   have hbl:=mW bs
   have hsm:Small (bs.length:Int):=vY (by omega)
   have q0:=jA h (mF (B:=B) (s:=rH) (x:=bs.length) (by decide) hsm)
   have q1:=Yi (B:=B) (lz:=fun c L=>lzS c.size c (fE M (nms (Co.mk 8 0 s [b] bs [])) d 0) (w64 (d + bs.length)) L) bs.length bs 0 _ _ q0 fun x hx L m hm=>by
    have:=qK bs x hx
    exact zg8 _ x.2 true _ _ L m (by omega) (h3 x hx) (.inl rfl) hm
   have q2:=ih b (fE M (nms (Co.mk 8 0 s [b] bs [])) d 0) (w64 (d + bs.length)) _ _ (by omega) (by omega) h4 q1
   exact jQ (jA q2 (mF (s:=sW) (x:=bs.length) (by decide) hsm)) (by omega)
  | @fail k s=>exact jQ (jA h (mF (s:=rA) (x:=0) (by decide) zS)) (by omega)
  | @prim s a b h1 ha hb =>
   have he:(Co.mk 10 0 s [a,b] [] []).size=1 + (a.size + (b.size + 0)) + 0 + 0:=by simp only [Co.size,szK,szB,szA]
   have q1:=ih a M d L m (by omega) (by omega) ha h
   have q2:=ih b M (w64 (d + 1)) _ _ (by omega) (by omega) hb q1
   exact jQ (jA q2 (mF (s:=Aa s) (x:=0) (zvn s) zS)) (by omega)
  | @cas s x al h1 h2 h3 h4 =>
   have he:(Co.mk 9 0 s [x] [] al).size=1 + (x.size + 0) + 0 + szA al:=by simp only [Co.size,szK,szB]
   have q1:=ih x M d L m (by omega) (by omega) h3 h
   have q2:=ziq (B:=B) true (stS n) M d al (stS n x M d L,[]) _ (by omega) q1 (fun a ha=>⟨(h2 a ha).1,(h2 a ha).2.1⟩) fun a ha M d L m _ hm hL=>by
    have:=lU al a ha
    exact jQ (ih a.2 M d L m hm (by omega) (h4 a ha) hL) (by omega)
   exact jQ (zom (by omega) _ _ (zt8 q2)) (by omega)
theorem zv7 {B m:Nat} {d:Int} {L:List In} (hd:Small d) (h:GC B m L):GC B (m + 3) (tlE d L):=jA (jA (jA h (mF (by decide) hd)) (mF (by decide) hd)) (mF (by decide) zS)
theorem zi5b {B:Nat}:∀ (n:Nat) (c:Co) (M:At) (d:Int) (L:List In) (m:Nat),Small d→m + 8 * c.size≤1000000000→c.size < 100000000→Fl B false c→GC B m L→GC B (m + 8 * c.size + 3) (tlS n c M d L):=by
 intro n
 induction n with
 | zero=>intro c M d L m _ _ _ _ h; exact jQ h (by omega)
 | succ n ih =>
  intro c M d L m hd hm hsz hf h
  have hp:=kO c
  have hf0:=hf
  have plain:(false=true∨c.f=1∨c.f=2∨c.f=3∨c.f=4)→GC B (m + 8 * c.size + 3) (tlE d (lzS c.size c M d L)):=fun hz =>
   jQ (zv7 hd (zg8 c.size c false M d L m hsz hf0 hz h)) (by omega)
  cases hf with
  | @leaf _ f k s h1 h2 h3 =>
   rcases h1 with rfl | rfl | rfl
   ·exact plain (.inr (.inl rfl))
   ·exact plain (.inr (.inr (.inl rfl)))
   ·exact plain (.inr (.inr (.inr (.inl rfl))))
  | @app _ s a b h1 ha hb=>exact plain (.inr (.inr (.inr (.inr rfl))))
  | @lt _ s b bs h1 h2 h3 h4 =>
   have he:(Co.mk 8 0 s [b] bs []).size=1 + (b.size + 0) + szB bs + 0:=by simp only [Co.size,szK,szA]
   have hbl:=mW bs
   have hsm:Small (bs.length:Int):=vY (by omega)
   have q0:=jA h (mF (B:=B) (s:=rH) (x:=bs.length) (by decide) hsm)
   have q1:=Yi (B:=B) (lz:=fun c L=>lzS c.size c (fE M (nms (Co.mk 8 0 s [b] bs [])) d 0) (w64 (d + bs.length)) L) bs.length bs 0 _ _ q0 fun x hx L m hm=>by
    have:=qK bs x hx
    exact zg8 _ x.2 true _ _ L m (by omega) (h3 x hx) (.inl rfl) hm
   have q2:=ih b (fE M (nms (Co.mk 8 0 s [b] bs [])) d 0) (w64 (d + bs.length)) _ _ (zy0 _) (by omega) (by omega) h4 q1
   exact jQ q2 (by omega)
  | @fail k s=>exact jQ (jA h (mF (s:=rA) (x:=0) (by decide) zS)) (by omega)
  | @prim s a b h1 ha hb=>exact zv7 hd (za9b (n + 1) _ M d L m hm hsz hf0 h)
  | @cas s x al h1 h2 h3 h4 =>
   have he:(Co.mk 9 0 s [x] [] al).size=1 + (x.size + 0) + 0 + szA al:=by simp only [Co.size,szK,szB]
   have q1:=za9b n x M d L m (by omega) (by omega) h3 h
   have q2:=ziq (B:=B) false (tlS n) M d al (stS n x M d L,[]) _ (by omega) q1 (fun a ha=>⟨(h2 a ha).1,(h2 a ha).2.1⟩) fun a ha M d L m hd hm hL=>by
    have:=lU al a ha
    exact ih a.2 M d L m hd hm (by omega) (h4 a ha) hL
   exact jQ (zt8 q2) (by omega)
theorem zn4 {B:Nat} {u:Su} (h:Fl B false u.body) (hs:u.ps.length + u.body.size < 1000000):GC B (8 * u.body.size + 3) (iQ u).body :=
 jQ (zi5b u.body.size u.body _ _ [] 0 (vY (by omega)) (by omega) (by omega) h ⟨fun i hi=>(by cases hi),by simp⟩) (by omega)
end Go.Fu
namespace Go.Fu
open Go Go.Mx
set_option maxRecDepth 10000
structure IR (d:D) (xs:List Int):Prop where
 len:lenOf d=some xs.length
 idx:∀ i (h:i < xs.length),iD 1 d i=some (.eptr (.int .i64 xs[i]))
 np:eT d=true
 small:∀ x∈xs,Small x
def Ee (x:Int):Nat:=(if x < 0 then -(x + 1) else x).toNat
def gX (xs:List Int) (at':Nat):Nat:=if h:at' < xs.length then Ee xs[at'] else 0
theorem zyk {x:Int} (h:Small x):Ee x < 9223372036854775808:=by
 unfold Ee Small at *
 split <;> omega
theorem sV {xs:List Int} (h:∀ x∈xs,Small x) (i:Nat):gX xs i < 9223372036854775808:=by
 unfold gX
 split
 ·exact zyk (h _ (aX _))
 ·omega
theorem zvk {d:D} {xs:List Int} (hR:IR d xs) (i:Nat) (hi:i < 1099511627776):OkP uM [d,.int .i64 i] ⟨false,.int .i64 (gX xs i:Nat)⟩:=by
 refine hU (af:=zbt) (n:=1) (σ':=σ0) (iT [] 0) rfl rfl (by simp [eB,hR.np,eT]) rfl ?_
 by_cases h:i < xs.length
 ·have h1:¬ ((xs.length:Int)≤(i:Int)):=by omega
  have hx:=hR.idx i h
  have hs:=hR.small _ (aX h)
  have hp:gX xs i=Ee xs[i]:=by simp [gX,h]
  rw [hp]
  generalize xs[i]=x at hx hs
  unfold Small at hs
  by_cases h2:x < 0
  ·have e1:IntKind.i64.wrap (x + 1)=x + 1:=lV (by omega) (by omega)
   have e2:IntKind.i64.wrap (0 - (x + 1))=(Ee x:Int):=by
    rw [lV (by omega) (by omega)]
    simp only [Ee,if_pos h2]
    omega
   simp only [zbt,sA,Nat.reduceAdd,Nat.reduceSub,Nat.reduceMul,Nat.reduceBEq,Nat.reduceLeDiff,Int.reduceBEq,Int.reduceBNe,Int.reduceLE,Int.reduceLT,Int.reduceGE,Int.reduceGT,Int.reduceNeg,kn,hR.len,h1,fL,hx,h2,e1,e2]
  ·have e2:x=(Ee x:Int):=by
    simp only [Ee,if_neg h2]
    omega
   simp only [zbt,sA,Nat.reduceAdd,Nat.reduceSub,Nat.reduceMul,Nat.reduceBEq,Nat.reduceLeDiff,Int.reduceBEq,Int.reduceBNe,Int.reduceLE,Int.reduceLT,Int.reduceGE,Int.reduceGT,Int.reduceNeg,kn,hR.len,h1,fL,hx,h2]
   rw [← e2]
 ·have h1:((xs.length:Int)≤(i:Int)):=by omega
  have hp:gX xs i=0:=by simp [gX,h]
  rw [hp]
  simp only [zbt,sA,Nat.reduceAdd,Nat.reduceSub,Nat.reduceMul,Nat.reduceBEq,Nat.reduceLeDiff,Int.reduceBEq,Int.reduceBNe,Int.reduceLE,Int.reduceLT,Int.reduceGE,Int.reduceGT,Int.reduceNeg,kn,hR.len,h1]
  rfl
theorem zlv:OkP wU [] ⟨false,dFs FL⟩:=by
 refine OkP.weak (o:=true) rfl (hU (af:=zgk) (n:=1) (σ':=σ0) (iT [] 0) rfl rfl rfl (by simp [Qb]) ?_)
 simp only [zgk,sA,Nat.reduceAdd,Nat.reduceSub,Nat.reduceMul,Nat.reduceBEq,Nat.reduceLeDiff,Int.reduceBEq,Int.reduceBNe,Int.reduceLE,Int.reduceLT,Int.reduceGE,Int.reduceGT,Int.reduceNeg,kn]
 rfl
def vD:List D→Cell→Prop:=fun ds c=>ds=[]→c=⟨false,dFs FL⟩
theorem Ez {S:eD} (hS:dE S wU=some vD) (n:Nat) (σ:Store):T S (n + 1) wU [] σ=some (.ret ⟨false,dFs FL⟩,σ):=by
 obtain ⟨c,h1,h2⟩:=mX (S:=S) hS rfl (c:=⟨false,dFs FL⟩) (fun _=>rfl) zlv
 rw [h2,h1 rfl]
theorem mP (a b:Nat):((a:Int)).tmod (b:Int)=((a % b:Nat):Int):=by rw [Int.tmod_eq_emod_of_nonneg (by omega)]; omega
theorem Tq (a b:Nat):((a:Int)).tdiv (b:Int)=((a / b:Nat):Int):=by rw [Int.tdiv_eq_ediv_of_nonneg (by omega)]; omega
def nqB (s:Tx):Bool:=!s.isEmpty && s.all fun b=>b != 37 && b != 39
def nvB (s:Tx):Bool:=decide (s.length≤5) && nqB s
def Nq (s:Tx):Prop:=nqB s=true
def Nv (s:Tx):Prop:=nvB s=true
theorem Nv.len {s:Tx} (h:Nv s):s.length≤5:=by
 simp only [Nv,nvB,aC,cE] at h
 exact h.1
theorem Nv.q {s:Tx} (h:Nv s):Nq s:=by
 simp only [Nv,nvB,aC] at h
 exact h.2
theorem Nq.no {s:Tx} (h:Nq s):∀ b∈s,b≠37∧b≠39:=fun b hb=>by
 have h1:(!s.isEmpty && s.all fun b=>b != 37 && b != 39)=true:=h
 rw [aC] at h1
 have:=bM.1 h1.2 b hb
 simpa using this
theorem Nq.ne {s:Tx} (h:Nq s):s≠[]:=fun e=>by
 subst e
 cases h
inductive Pl:Co→Prop
 | mk {c}:(c.f=1→c.s≠[]∧∀ b∈c.s,b≠39)→(∀ p∈c.bs,Nq p.1)→(∀ a∈c.al,∀ v∈a.1.vars,Nq v)→(∀ b∈c.bs,Pl b.2)→(∀ x∈c.ks,Pl x)→(∀ a∈c.al,Pl a.2)→Pl c
theorem Pl.out {c:Co} (h:Pl c):(c.f=1→c.s≠[]∧∀ b∈c.s,b≠39)∧(∀ p∈c.bs,Nq p.1)∧(∀ a∈c.al,∀ v∈a.1.vars,Nq v)∧(∀ b∈c.bs,Pl b.2)∧(∀ x∈c.ks,Pl x)∧∀ a∈c.al,Pl a.2:=by
 cases h with
 | mk a b c d e f=>exact ⟨a,b,c,d,e,f⟩
def mR (c:Co):Prop:=Shp 5 c∧Pl c
theorem mR.leaf {f n:Int} {s:Tx} (h1:f=1∨f=2∨f=3∨f=11) (h2:Small n) (h3:s.length≤5) (h4:f=1→Nv s):mR (.mk f n s [] [] []) :=
 ⟨.leaf h1 h2 h3,Pl.mk (c:=.mk f n s [] [] []) (fun e=>⟨(h4 e).q.ne,fun b hb=>((h4 e).q.no b hb).2⟩) (fun b hb=>by cases hb) (fun b hb=>by cases hb) (fun b hb=>by cases hb) (fun b hb=>by cases hb) (fun b hb=>by cases hb)⟩
theorem mR.app {s:Tx} {a b:Co} (h:s.length≤5) (ha:mR a) (hb:mR b):mR (.mk 4 0 s [a,b] [] []) :=
 ⟨.app h ha.1 hb.1,Pl.mk (c:=.mk 4 0 s [a,b] [] []) (fun h=>absurd h (by simp [Co.f])) (fun b hb=>by cases hb) (fun b hb=>by cases hb) (fun b hb=>by cases hb) (fun x hx=>by
  simp only [Co.ks,aS,aK,or_false] at hx
  rcases hx with rfl | rfl
  ·exact ha.2
  ·exact hb.2) (fun b hb=>by cases hb)⟩
theorem mR.prim {s:Tx} {a b:Co} (h:s.length≤5) (ha:mR a) (hb:mR b):mR (.mk 10 0 s [a,b] [] []) :=
 ⟨.prim h ha.1 hb.1,Pl.mk (c:=.mk 10 0 s [a,b] [] []) (fun h=>absurd h (by simp [Co.f])) (fun b hb=>by cases hb) (fun b hb=>by cases hb) (fun b hb=>by cases hb) (fun x hx=>by
  simp only [Co.ks,aS,aK,or_false] at hx
  rcases hx with rfl | rfl
  ·exact ha.2
  ·exact hb.2) (fun b hb=>by cases hb)⟩
theorem mR.lt {s:Tx} {b:Co} {bs:List (Tx × Co)} (h:s.length≤5) (h1:∀ p∈bs,Nv p.1) (h2:∀ p∈bs,mR p.2) (hb:mR b):mR (.mk 8 0 s [b] bs []) :=
 ⟨.lt h (fun p hp=>(h1 p hp).len) (fun p hp=>(h2 p hp).1) hb.1,Pl.mk (c:=.mk 8 0 s [b] bs []) (fun h=>absurd h (by simp [Co.f])) (fun p hp=>(h1 p hp).q) (fun b hb=>by cases hb) (fun p hp=>(h2 p hp).2) (fun x hx=>by
  simp only [Co.ks,aS,aK,or_false] at hx
  subst hx
  exact hb.2) (fun b hb=>by cases hb)⟩
theorem mR.cas {s:Tx} {x:Co} {al:List (Hd × Co)} (h:s.length≤5) (h1:∀ a∈al,Small a.1.num∧a.1.name.length≤5∧∀ v∈a.1.vars,Nv v) (hb:mR x) (h2:∀ a∈al,mR a.2):mR (.mk 9 0 s [x] [] al) :=
 ⟨.cas h (fun a ha=>⟨(h1 a ha).1,(h1 a ha).2.1,fun v hv=>((h1 a ha).2.2 v hv).len⟩) hb.1 (fun a ha=>(h2 a ha).1),Pl.mk (c:=.mk 9 0 s [x] [] al) (fun h=>absurd h (by simp [Co.f])) (fun b hb=>by cases hb) (fun a ha v hv=>((h1 a ha).2.2 v hv).q) (fun b hb=>by cases hb) (fun y hy=>by
  simp only [Co.ks,aS,aK,or_false] at hy
  subst hy
  exact hb.2) (fun a ha=>(h2 a ha).2)⟩
theorem zh4:∀ f∈FL,tO FL f.name (-1)=true∧tO FL f.name f.arity=true∧f.name.length≤5∧(f.arity=0∨f.arity=1∨f.arity=2):=by decide
def zcb (f n:Int) (s:Tx):Co:=.mk f n s [] [] []
theorem zcxb (v:Nat) (hv:v < 9223372036854775808) (ns:List Tx) (h0:ns≠[]) (hn:ns.length < 1000) (h5:∀ s∈ns,Nv s) :
  ∃ c,OkP Td [.int .i64 v,dSs ns] ⟨false,dCo c⟩∧Good ns c∧mR c∧c.size=1∧hgt c=1:=by
 have mk:∀ {c:Co} {o:Bool} {σ'},oM Ra (fun _ _ _=>none) Ny 0 (exec (T [(wU,vD)] 1) 1 none Ny.body (jE [.int .i64 v,dSs ns]) σ0)=some (.ret ⟨o,dCo c⟩,σ')→OkP Td [.int .i64 v,dSs ns] ⟨false,dCo c⟩:=fun {c o σ'} hr =>
  OkP.weak (o:=o) rfl (hU (af:=Ny) (n:=1) (σ':=σ') (iT [(wU,vD)] 1) rfl rfl (by simp [eB,eT,fQ]) (jH _) hr)
 have hF:=Ez (S:=[(wU,vD)]) rfl 0 σ0
 have t4:((v:Int)).tmod 4=((v % 4:Nat):Int):=mP v 4
 have d4:((v:Int)).tdiv 4=((v / 4:Nat):Int):=Tq v 4
 have w4:IntKind.i64.wrap ((v / 4:Nat):Int)=((v / 4:Nat):Int):=lV (by omega) (by omega)
 by_cases c0:v % 4=0
 ·have t7:(((v / 4:Nat):Int)).tmod 7=((v / 4 % 7:Nat):Int):=mP _ 7
  have w7:IntKind.i64.wrap (((v / 4 % 7:Nat):Int) - 3)=((v / 4 % 7:Nat):Int) - 3:=lV (by omega) (by omega)
  have hsm:Small (((v / 4 % 7:Nat):Int) - 3):=by unfold Small; omega
  refine ⟨zcb 3 (((v / 4 % 7:Nat):Int) - 3) [],mk (o:=false) (σ':=σ0) ?_,.int hsm,.leaf (.inr (.inr (.inl rfl))) hsm (by simp) (fun h=>absurd h (by decide)),rfl,rfl⟩
  simp only [Ny,sA,Nat.reduceAdd,Nat.reduceSub,Nat.reduceMul,Nat.reduceBEq,Nat.reduceLeDiff,Int.reduceBEq,Int.reduceBNe,Int.reduceLE,Int.reduceLT,Int.reduceGE,Int.reduceGT,Int.reduceNeg,kn,zcb,fC,iC,co,hF,t4,c0,d4,w4,t7,w7]
  rfl
 ·have ne0:(((v % 4:Nat):Int) == 0)=false:=by simp; omega
  by_cases c1:v % 4=1
  ·have t5:(((v / 4:Nat):Int)).tmod 5=((v / 4 % 5:Nat):Int):=mP _ 5
   have hj:v / 4 % 5 < FL.length:=Nat.mod_lt _ (by decide)
   have hx:=Rx FL (v / 4 % 5) hj
   have hl:((FL.length:Nat):Int)=5:=rfl
   have hnm:=zh4 _ (aX hj)
   generalize FL[v / 4 % 5]=f at hx hnm
   simp only [dF] at hx
   refine ⟨zcb 2 0 f.name,mk (o:=false) (σ':=σ0) ?_,.con hnm.1,.leaf (.inr (.inl rfl)) zS hnm.2.2.1 (fun h=>absurd h (by decide)),rfl,rfl⟩
   simp only [Ny,sA,Nat.reduceAdd,Nat.reduceSub,Nat.reduceMul,Nat.reduceBEq,Nat.reduceLeDiff,Int.reduceBEq,Int.reduceBNe,Int.reduceLE,Int.reduceLT,Int.reduceGE,Int.reduceGT,Int.reduceNeg,kn,zcb,fC,iC,co,hF,t4,c1,d4,w4,tY,hl,t5,fL,hx]
   rfl
  ·have ne1:(((v % 4:Nat):Int) == 1)=false:=by simp; omega
   have hnl:0 < ns.length:=List.length_pos_iff.2 h0
   have tn:(((v / 4:Nat):Int)).tmod (ns.length:Int)=((v / 4 % ns.length:Nat):Int):=mP _ _
   have hj:v / 4 % ns.length < ns.length:=Nat.mod_lt _ hnl
   have hx:=rW ns (v / 4 % ns.length) hj
   have hz:((ns.length:Int) == 0)=false:=by simp; omega
   have hm:=aX hj
   generalize ns[v / 4 % ns.length]=s at hx hm
   have hany:ns.any (· == s)=true:=List.any_eq_true.2 ⟨s,hm,by simp⟩
   refine ⟨zcb 1 0 s,mk (o:=false) (σ':=σ0) ?_,.var hany,.leaf (.inl rfl) zS (h5 s hm).len (fun _=>h5 s hm),rfl,rfl⟩
   simp only [Ny,sA,Nat.reduceAdd,Nat.reduceSub,Nat.reduceMul,Nat.reduceBEq,Nat.reduceLeDiff,Int.reduceBEq,Int.reduceBNe,Int.reduceLE,Int.reduceLT,Int.reduceGE,Int.reduceGT,Int.reduceNeg,kn,zcb,fC,iC,co,hF,t4,ne0,ne1,d4,w4,mO,hz,tn,fL,hx]
   rfl
end Go.Fu
namespace Go.Fu
open Go Go.Mx
set_option maxRecDepth 10000
def szT:Nat→Nat
 | 0=>1
 | d + 1=>4 * szT d + 10
def szN:Nat→Nat
 | 0=>1
 | d + 1=>4 * szN d + 5
def PT (ns:List Tx) (deep i:Nat):Prop:=ns≠[]∧ns.length + 2 * deep≤100∧(∀ s∈ns,Nv s)∧i + szN deep≤1000000
def Hy (ns:List Tx) (deep i:Nat) (c:Co) (j:Nat):Prop:=Good ns c∧mR c∧c.size≤szT deep∧hgt c≤deep + 1∧j≤i + szN deep
def zau (d:D) (xs:List Int):List D→Cell→Prop:=fun ds c=>∀ i:Nat,ds=[d,.int .i64 i]→c=⟨false,.int .i64 (gX xs i:Nat)⟩
theorem nY {S:eD} {d:D} {xs:List Int} (hS:dE S uM=some (zau d xs)) (hR:IR d xs) (i:Nat) (hi:i < 1099511627776) (n:Nat) (σ:Store):T S (n + 1) uM [d,.int .i64 i] σ=some (.ret ⟨false,.int .i64 (gX xs i:Nat)⟩,σ):=by
 obtain ⟨c,h1,h2⟩:=mX (S:=S) hS rfl (c:=⟨false,.int .i64 (gX xs i:Nat)⟩) (fun j e=>by
  simp only [aL,D.int.injEq,true_and,and_true] at e
  rw [show j=i by omega]) (zvk hR i hi)
 rw [h2,h1 i rfl]
def lS (b:List Tx):D:=.list k_0 (b.map D.str)
theorem zp0 (a b:List Tx) (hl:a.length + b.length < 1000000000):OkP n_9 [dSs a,lS b] ⟨false,dSs (a ++ b)⟩:=by
 have hn:eT (lS b)=true:=by rw [lS,eT]; exact lN (fun _=>rfl) b
 refine OkP.weak (o:=true) rfl (hU (af:=zbs) (n:=1) (σ':=σ0) (iT [] 0) rfl rfl (by simp [eB,fQ,hn]) (fQ _) ?_)
 simp only [zbs,lS,sA,seval,kn,zig,pR,Ro a false (by omega),zic a b true (fun _=>rfl) hl]
theorem zuw {a b:List Tx} (h:lS a=lS b):a=b:=by
 simp only [lS,D.list.injEq,true_and] at h
 exact wR (fun h=>by simpa using h) h
theorem zuv {a b:List Tx} (h:lS a=dSs b):a=b:=by
 cases b with
 | nil=>cases h
 | cons x r=>exact zuw (b:=x :: r) h
def Re:List D→Cell→Prop:=fun ds c=>∀ a b,(ds=[dSs a,dSs b]∨ds=[dSs a,lS b])→c=⟨false,dSs (a ++ b)⟩
theorem zp4 {S:eD} (hS:dE S n_9=some Re) (a b:List Tx) (hl:a.length + b.length < 1000000000) (n:Nat) (σ:Store):T S (n + 1) n_9 [dSs a,dSs b] σ=some (.ret ⟨false,dSs (a ++ b)⟩,σ):=by
 obtain ⟨c,h1,h2⟩:=mX (S:=S) hS rfl (c:=⟨false,dSs (a ++ b)⟩) (fun a' b' e=>by
  rcases e with e | e
  ·simp only [aL,and_true] at e
   rw [jT e.1,jT e.2]
  ·simp only [aL,and_true] at e
   rw [jT e.1,zuv e.2.symm]) (zdn a b hl)
 rw [h2,h1 a b (.inl rfl)]
theorem Ym {S:eD} (hS:dE S n_9=some Re) (a b:List Tx) (hl:a.length + b.length < 1000000000) (n:Nat) (σ:Store):T S (n + 1) n_9 [dSs a,lS b] σ=some (.ret ⟨false,dSs (a ++ b)⟩,σ):=by
 obtain ⟨c,h1,h2⟩:=mX (S:=S) hS rfl (c:=⟨false,dSs (a ++ b)⟩) (fun a' b' e=>by
  rcases e with e | e
  ·simp only [aL,and_true] at e
   rw [jT e.1,zuv e.2]
  ·simp only [aL,and_true] at e
   rw [jT e.1,zuw e.2]) (zp0 a b hl)
 rw [h2,h1 a b (.inr rfl)]
def zsc (d:D) (deep:Nat):List D→Cell→Prop:=fun ds c=>∀ (i:Nat) ns,ds=[d,.int .i64 i,dSs ns,.int .i64 deep]→PT ns deep i→∃ co j,c=⟨false,.tup [dCo co,.int .i64 (j:Nat)]⟩∧Hy ns deep i co j
def Dt (d:D) (deep:Nat):Prop:=∀ (i:Nat) ns,PT ns deep i→∃ co j,OkP n_7 [d,.int .i64 i,dSs ns,.int .i64 deep] ⟨false,.tup [dCo co,.int .i64 (j:Nat)]⟩∧Hy ns deep i co j
theorem sY {S:eD} {d:D} {deep:Nat} (hS:dE S n_7=some (zsc d deep)) (hT:Dt d deep) (i:Nat) (ns:List Tx) (hp:PT ns deep i):∃ co j,Hy ns deep i co j∧∀ n σ,T S (n + 1) n_7 [d,.int .i64 i,dSs ns,.int .i64 deep] σ=some (.ret ⟨false,.tup [dCo co,.int .i64 (j:Nat)]⟩,σ):=by
 obtain ⟨co,j,h1,h2⟩:=hT i ns hp
 obtain ⟨c,h3,h4⟩:=mX (S:=S) hS rfl (c:=⟨false,.tup [dCo co,.int .i64 (j:Nat)]⟩) (fun i' ns' e _=>by
  simp only [aL,D.int.injEq,true_and,and_true] at e
  obtain rfl:i=i':=by omega
  obtain rfl:=jT e.2
  exact ⟨co,j,rfl,h2⟩) h1
 obtain ⟨co',j',rfl,h5⟩:=h3 i ns rfl hp
 exact ⟨co',j',h5,h4⟩
def rV (v:Nat):Hd:=if v / 8 % 3=1 then ⟨2,((v / 24 % 5:Nat):Int) - 2,[],[]⟩ else if v / 8 % 3=2∧v / 24 % 2=1 then ⟨3,0,[],[]⟩ else ⟨1,0,(FL.getD (v % 5) f0).name,[[117],[118]].take (FL.getD (v % 5) f0).arity.toNat⟩
theorem zwo:∀ f∈FL,tO FL f.name (([[117],[118]]:List Tx).take f.arity.toNat).length=true:=by decide
theorem zxo (v:Nat):zh6 (rV v)∧(rV v).name.length≤5∧(∀ s∈(rV v).vars,Nv s)∧(rV v).vars.length≤2:=by
 unfold rV
 by_cases h1:v / 8 % 3=1
 ·rw [if_pos h1]
  exact ⟨⟨by unfold Small; simp only; omega,rfl,.inr (.inl ⟨rfl,rfl⟩)⟩,by simp,by simp,by simp⟩
 ·rw [if_neg h1]
  by_cases h2:v / 8 % 3=2∧v / 24 % 2=1
  ·rw [if_pos h2]
   exact ⟨⟨zS,rfl,.inr (.inr ⟨rfl,rfl⟩)⟩,by simp,by simp,by simp⟩
  ·rw [if_neg h2]
   have hj:v % 5 < FL.length:=Nat.mod_lt _ (by decide)
   rw [eY FL _ _ hj]
   have hm:=aX hj
   generalize FL[v % 5]=f at hm
   have h3:=zh4 f hm
   have h4:=zwo f hm
   refine ⟨⟨zS,?_,.inl ⟨rfl,h4⟩⟩,h3.2.2.1,?_,?_⟩
   ·rcases h3.2.2.2 with e | e | e <;> rw [e] <;> rfl
   ·intro s hs
    have:=bH hs
    simp only [aS,aK,or_false] at this
    rcases this with rfl | rfl <;> rfl
   ·simp only [bI]; simp; omega
section
variable {C:dQ} {n:Nat} {σ:Store}
def Ecs (d:D) (ns:List Tx) (deep N0:Nat) (al:List (Hd × Co)) (j k:Nat):Env:={slots:=[(0,⟨false,d⟩),(1,⟨false,.int .i64 j⟩),(2,⟨false,dSs ns⟩),(3,⟨false,.int .i64 (deep + 1:Nat)⟩),(10,⟨false,.int .i64 N0⟩),(11,⟨false,dFs FL⟩),(12,⟨ow k,dAl al⟩),(13,⟨false,.int .i64 k⟩)],locs:=[],boxes:=[],defers:=[]}
end
end Go.Fu
