/-
 Something is asked of core,and of all within.
-/
import Derived.Test.YtldfbnbckiifeaaGreatDoorFgDs
set_option maxHeartbeats 4000000
set_option linter.unusedSimpArgs false
set_option linter.unusedVariables false
set_option linter.unusedSectionVars false
namespace Go.Fu
open Go Go.Mx
set_option maxRecDepth 10000
set_option maxHeartbeats 4000000
def Hq:List D→Cell→Prop:=fun ds c=>∀ a b,ds=[dd a b]→c=⟨false,dSs (a ++ b)⟩
theorem zezb {a b c d:List Tx} (h:dd a b=dd c d):a=c∧b=d:=by
 simp only [dd,D.list.injEq,aL,true_and,and_true] at h
 exact ⟨jT h.1,jT h.2⟩
theorem Ya {S:eD} (hS:dE S qY=some Hq) (a b:List Tx) (hl:a.length + b.length < 100000000) (n:Nat) (σ:Store):W S (n + 1) qY [dd a b] σ=some (.ret ⟨false,dSs (a ++ b)⟩,σ):=by
 obtain ⟨c,h1,h2⟩:=qS (S:=S) hS rfl (c:=⟨false,dSs (a ++ b)⟩) (fun a' b' h=>by
  simp only [aL,and_true] at h
  obtain ⟨rfl,rfl⟩:=zezb h
  rfl) (zlp a b hl)
 rw [h2,h1 a b rfl]
def fZ {α β:Type} (F:β→α→Bool × α):List β→α→Bool × α
 | [],s=>(true,s)
 | x :: r,s=>ifB (F x s).1 (fZ F r (F x s).2) (false,(F x s).2)
theorem Dz {α β:Type} (S:α→Store) (F:β→α→Bool × α) {body:Env→Store→mS} (E:Nat→Env) (l:List β) (eF eN:Env) (id:Nat)
  (hstep:∀ i (hi:i < l.length) s,body (E i) (S s)=ifB (F l[i] s).1 (some (.normal,E (i + 1),S (F l[i] s).2)) (some (.ret,eF,S (F l[i] s).2)))
  (hend:∀ s,body (E l.length) (S s)=some (.exit id,eN,S s)) :
  ∀ (rest done:List β) (s:α) (n:Nat),l=done ++ rest→rest.length < n→gU body n (E done.length) (S s)=ifB (fZ F rest s).1 (some (.exit id,eN,S (fZ F rest s).2)) (some (.ret,eF,S (fZ F rest s).2))
 | [],done,s,n,hd,hn=>by
  obtain ⟨n,rfl⟩:∃ k,n=k + 1:=⟨n - 1,by omega⟩
  have e:done.length=l.length:=by rw [hd]; simp
  rw [e]
  exact kT (hend s)
 | x :: rest,done,s,n,hd,hn=>by
  obtain ⟨n,rfl⟩:∃ k,n=k + 1:=⟨n - 1,by omega⟩
  have hi:done.length < l.length:=by rw [hd]; simp
  have hs:l[done.length]=x:=by
   have:∀ (l:List β) (hl:l=done ++ x :: rest) (hi:done.length < l.length),l[done.length]=x:=fun l hl hi=>by subst hl; simp
   exact this _ hd hi
  have h1:=hstep done.length hi s
  rw [hs] at h1
  have he:fZ F (x :: rest) s=ifB (F x s).1 (fZ F rest (F x s).2) (false,(F x s).2):=rfl
  rw [he]
  cases hf:(F x s).1 with
  | true =>
   rw [hf,dJ] at h1
   rw [iJ h1,dJ]
   have:=Dz S F E l eF eN id hstep hend rest (done ++ [x]) (F x s).2 n (by rw [hd]; simp) (by simp at hn; omega)
   simpa only [aF,aG,aH,aN] using this
  | false =>
   rw [hf,dH] at h1
   rw [zd2 h1]
   rfl
def fS {α:Type} (f:α→Co→List Tx→Bool × α):Nat→Co→List Tx→α→Bool × α
 | 0,_,_,s=>(true,s)
 | k + 1,c,g,s =>
  ifB (f s c (ifB (c.f == 8) (g ++ nms c) g)).1
   (ifB (fZ (fun (b:Tx × Co) s=>fS f k b.2 (ifB (c.f == 8) (g ++ nms c) g) s) c.bs (f s c (ifB (c.f == 8) (g ++ nms c) g)).2).1
    (ifB (fZ (fun (b:Co) s=>fS f k b (ifB (c.f == 8) (g ++ nms c) g) s) c.ks (fZ (fun (b:Tx × Co) s=>fS f k b.2 (ifB (c.f == 8) (g ++ nms c) g) s) c.bs (f s c (ifB (c.f == 8) (g ++ nms c) g)).2).2).1
     (fZ (fun (a:Hd × Co) s=>fS f k a.2 ((ifB (c.f == 8) (g ++ nms c) g) ++ a.1.vars) s) c.al (fZ (fun (b:Co) s=>fS f k b (ifB (c.f == 8) (g ++ nms c) g) s) c.ks (fZ (fun (b:Tx × Co) s=>fS f k b.2 (ifB (c.f == 8) (g ++ nms c) g) s) c.bs (f s c (ifB (c.f == 8) (g ++ nms c) g)).2).2).2)
     (false,(fZ (fun (b:Co) s=>fS f k b (ifB (c.f == 8) (g ++ nms c) g) s) c.ks (fZ (fun (b:Tx × Co) s=>fS f k b.2 (ifB (c.f == 8) (g ++ nms c) g) s) c.bs (f s c (ifB (c.f == 8) (g ++ nms c) g)).2).2).2))
    (false,(fZ (fun (b:Tx × Co) s=>fS f k b.2 (ifB (c.f == 8) (g ++ nms c) g) s) c.bs (f s c (ifB (c.f == 8) (g ++ nms c) g)).2).2))
   (false,(f s c (ifB (c.f == 8) (g ++ nms c) g)).2)
def Ew (c:Co):List Cell:=[⟨false,.int .i64 c.f⟩,⟨false,.int .i64 c.n⟩,⟨false,.str c.s⟩,⟨false,.int .i64 0⟩,⟨false,.int .i64 0⟩,⟨false,.str []⟩,⟨false,.nils⟩,⟨false,kD c⟩,⟨false,bD c⟩,⟨false,aD c⟩]
def Ee0 (c:Co) (g:List Tx) (ask:D) (i:Nat):Env:={slots:=[(1,⟨false,dSs g⟩),(2,⟨false,ask⟩),(28,⟨false,bD c⟩),(29,⟨false,.int .i64 c.bs.length⟩),(30,⟨false,.int .i64 i⟩)],locs:=[(3,(3,0))],boxes:=[(3,Ew c)],defers:=[]}
def Ee1 (c:Co) (g:List Tx) (ask:D) (i:Nat):Env:={slots:=[(1,⟨false,dSs g⟩),(2,⟨false,ask⟩),(42,⟨false,kD c⟩),(43,⟨false,.int .i64 c.ks.length⟩),(44,⟨false,.int .i64 i⟩)],locs:=[(3,(3,0))],boxes:=[(3,Ew c)],defers:=[]}
def Ee2 (c:Co) (g:List Tx) (ask:D) (i:Nat):Env:={slots:=[(1,⟨false,dSs g⟩),(2,⟨false,ask⟩),(55,⟨false,aD c⟩),(56,⟨false,.int .i64 c.al.length⟩),(57,⟨false,.int .i64 i⟩)],locs:=[],boxes:=[],defers:=[]}
def EeF:Env:={slots:=[(6,⟨false,.bool false⟩)],locs:=[],boxes:=[],defers:=[]}
section
variable {C:dQ} {n:Nat}
theorem Be (b:Tx × Co):dB b=.agg [.str b.1,.int .i64 0,.int .i64 0,.str [],.nils,.int .i64 b.2.f,.int .i64 b.2.n,.str b.2.s,.int .i64 0,.int .i64 0,.str [],.nils,kD b.2,bD b.2,aD b.2]:=tX b
theorem zfcb (c:Co) (i:Nat) (hi:i < c.bs.length):iD 15 (bD c) i=some (.eptr (dB c.bs[i])):=mL rfl dB _ i hi
theorem zxd (c:Co) (g:List Tx) (ask:D) (i:Nat) (hi:i < c.bs.length) (hl:c.bs.length < 1000000000) (σ σ':Store) (r:Bool) (h1:C uK [dCo c.bs[i].2,dSs g,ask] σ=some (.ret ⟨false,.bool r⟩,σ')) :
  exec C n none Vf (Ee0 c g ask i) σ=ifB r (some (.normal,Ee0 c g ask (i + 1),σ')) (some (.ret,{EeF with slots:=[(6,⟨false,.bool false⟩)]},σ')):=by
 have hlt:((i:Int) < (c.bs.length:Int)):=by omega
 have w:=dV (i:=i) (by omega)
 have hx:=zfcb c i hi
 generalize c.bs[i]=b at hx h1
 have hon:=jO b.2
 rw [Be] at hx
 rw [fJ] at h1
 cases r with
 | true=>simp only [Vf,Ee0,EeF,sA,seval,kn,hlt,fL,hx,hon,h1,w]
 | false =>
  simp only [Vf,Ee0,EeF,sA,seval,kn,hlt,fL,hx,hon,h1,w]
theorem zb4b (c:Co) (g:List Tx) (ask:D) (σ:Store):exec C n none Vf (Ee0 c g ask c.bs.length) σ=some (.exit 0,{slots:=[(1,⟨false,dSs g⟩),(2,⟨false,ask⟩),(28,⟨false,bD c⟩),(29,⟨false,.int .i64 c.bs.length⟩),(30,⟨false,.int .i64 c.bs.length⟩),(31,⟨false,.bool false⟩)],locs:=[(3,(3,0))],boxes:=[(3,Ew c)],defers:=[]},σ):=by
 have hlt:¬ ((c.bs.length:Int) < (c.bs.length:Int)):=by omega
 simp only [Vf,Ee0,sA,seval,kn,hlt]
theorem zxe (c:Co) (g:List Tx) (ask:D) (i:Nat) (hi:i < c.ks.length) (hl:c.ks.length < 1000000000) (σ σ':Store) (r:Bool) (h1:C uK [dCo c.ks[i],dSs g,ask] σ=some (.ret ⟨false,.bool r⟩,σ')) :
  exec C n none Vg (Ee1 c g ask i) σ=ifB r (some (.normal,Ee1 c g ask (i + 1),σ')) (some (.ret,EeF,σ')):=by
 have hlt:((i:Int) < (c.ks.length:Int)):=by omega
 have w:=dV (i:=i) (by omega)
 have hx:=Gn (c:=c) rfl i hi
 generalize c.ks[i]=b at hx h1
 have hon:=jO b
 rw [fJ] at hx h1
 cases r with
 | true=>simp only [Vg,Ee1,EeF,sA,seval,kn,hlt,fL,hx,hon,h1,w]
 | false=>simp only [Vg,Ee1,EeF,sA,seval,kn,hlt,fL,hx,hon,h1,w]
theorem zb5b (c:Co) (g:List Tx) (ask:D) (σ:Store):exec C n none Vg (Ee1 c g ask c.ks.length) σ=some (.exit 2,{slots:=[(1,⟨false,dSs g⟩),(2,⟨false,ask⟩),(42,⟨false,kD c⟩),(43,⟨false,.int .i64 c.ks.length⟩),(44,⟨false,.int .i64 c.ks.length⟩),(45,⟨false,.bool false⟩)],locs:=[(3,(3,0))],boxes:=[(3,Ew c)],defers:=[]},σ):=by
 have hlt:¬ ((c.ks.length:Int) < (c.ks.length:Int)):=by omega
 simp only [Vg,Ee1,sA,seval,kn,hlt]
theorem zxf (c:Co) (g:List Tx) (ask:D) (i:Nat) (hi:i < c.al.length) (hl:c.al.length < 1000000000) (σ σ':Store) (r:Bool) (h0:C qY [dd g c.al[i].1.vars] σ=some (.ret ⟨false,dSs (g ++ c.al[i].1.vars)⟩,σ)) (h1:C uK [dCo c.al[i].2,dSs (g ++ c.al[i].1.vars),ask] σ=some (.ret ⟨false,.bool r⟩,σ')) :
  exec C n none Vh (Ee2 c g ask i) σ=ifB r (some (.normal,Ee2 c g ask (i + 1),σ')) (some (.ret,EeF,σ')):=by
 have hlt:((i:Int) < (c.al.length:Int)):=by omega
 have w:=dV (i:=i) (by omega)
 have hx:=zur c i hi
 generalize c.al[i]=b at hx h1 h0
 have hon:=jO b.2
 have hoS:=gW b.1.vars
 have hoG:=gW g
 have okG:(dSs g).ok=true:=gZ
 have okV:(dSs b.1.vars).ok=true:=gZ
 have ceG:(dSs g).cells=[dSs g]:=fG
 have ceV:(dSs b.1.vars).cells=[dSs b.1.vars]:=fG
 rw [pD] at hx
 rw [fJ] at h1
 simp only [dd] at h0
 cases r with
 | true=>simp only [Vh,Ee2,EeF,sA,seval,kn,hlt,fL,hx,hon,hoS,okG,okV,ceG,ceV,h0,h1,w]
 | false=>simp only [Vh,Ee2,EeF,sA,seval,kn,hlt,fL,hx,hon,hoS,okG,okV,ceG,ceV,h0,h1,w]
theorem zb6b (c:Co) (g:List Tx) (ask:D) (σ:Store):exec C n none Vh (Ee2 c g ask c.al.length) σ=some (.exit 4,{slots:=[(1,⟨false,dSs g⟩),(2,⟨false,ask⟩),(55,⟨false,aD c⟩),(56,⟨false,.int .i64 c.al.length⟩),(57,⟨false,.int .i64 c.al.length⟩),(58,⟨false,.bool false⟩)],locs:=[],boxes:=[],defers:=[]},σ):=by
 have hlt:¬ ((c.al.length:Int) < (c.al.length:Int)):=by omega
 simp only [Vh,Ee2,sA,seval,kn,hlt]
end
theorem zi0 {α:Type} {P:eD} (hP0:has P uK=false) (hP1:dE P uL=some Hr) (hP2:dE P qY=some Hq) (S:α→Store) (f:α→Co→List Tx→Bool × α) (ask:D) (fid:FuncId) (caps:List D) (hask:D.fn? ask=some (fid,[],caps)) (na K:Nat) (hK:K < 100000000) (Φ:Co→List Tx→Prop)
  (hB:∀ c g,Φ c g→∀ b∈c.bs,Φ b.2 (ifB (c.f == 8) (g ++ nms c) g)) (hKs:∀ c g,Φ c g→∀ x∈c.ks,Φ x (ifB (c.f == 8) (g ++ nms c) g)) (hA:∀ c g,Φ c g→∀ a∈c.al,Φ a.2 ((ifB (c.f == 8) (g ++ nms c) g) ++ a.1.vars))
  (hrun:∀ s c g n,na≤n→Φ c g→(ifB (c.f == 8) (g ++ nms c) g).length≤K→c.size≤K→W P n fid ([dCo c,dSs (ifB (c.f == 8) (g ++ nms c) g)] ++ caps) (S s)=some (.ret ⟨false,.bool (f s c (ifB (c.f == 8) (g ++ nms c) g)).1⟩,S (f s c (ifB (c.f == 8) (g ++ nms c) g)).2)) :
  ∀ (k:Nat) (c:Co) (g:List Tx) (s:α) (n:Nat),Φ c g→c.size≤k→g.length + c.size≤K→na + 3 + k≤n→W P n uK [dCo c,dSs g,ask] (S s)=some (.ret ⟨false,.bool (fS f k c g s).1⟩,S (fS f k c g s).2):=by
 intro k
 induction k with
 | zero=>intro c g s n hΦ h; have:=kO c; omega
 | succ k ih =>
  intro c g s n hΦ hc hg hn
  obtain ⟨n,rfl⟩:∃ j,n=j + 1:=⟨n - 1,by omega⟩
  have hse:=iV c
  have lB:=mW c.bs
  have lK:=Hu c.ks
  have lA:=oK c.al
  obtain ⟨g',hg'⟩:∃ g',g'=ifB (c.f == 8) (g ++ nms c) g:=⟨_,rfl⟩
  have hgl:g'.length≤g.length + c.bs.length:=by
   rw [hg']
   cases c.f == 8 <;> simp [nms,ifB]
  have hdc:=fJ c
  have hon:=jO c
  have hk1:=hrun s c g n (by omega) hΦ (by rw [← hg']; omega) (by omega)
  rw [← hg'] at hk1
  have hB:=hB c g hΦ
  have hKs:=hKs c g hΦ
  have hA:=hA c g hΦ
  rw [← hg'] at hB hKs hA
  have hf:fS f (k + 1) c g s=ifB (f s c g').1
   (ifB (fZ (fun (b:Tx × Co) s=>fS f k b.2 g' s) c.bs (f s c g').2).1
    (ifB (fZ (fun (b:Co) s=>fS f k b g' s) c.ks (fZ (fun (b:Tx × Co) s=>fS f k b.2 g' s) c.bs (f s c g').2).2).1
     (fZ (fun (a:Hd × Co) s=>fS f k a.2 (g' ++ a.1.vars) s) c.al (fZ (fun (b:Co) s=>fS f k b g' s) c.ks (fZ (fun (b:Tx × Co) s=>fS f k b.2 g' s) c.bs (f s c g').2).2).2)
     (false,(fZ (fun (b:Co) s=>fS f k b g' s) c.ks (fZ (fun (b:Tx × Co) s=>fS f k b.2 g' s) c.bs (f s c g').2).2).2))
    (false,(fZ (fun (b:Tx × Co) s=>fS f k b.2 g' s) c.bs (f s c g').2).2))
   (false,(f s c g').2):=by rw [hg']; rfl
  rw [hf]
  have L0:=fun s=>Dz S (fun (b:Tx × Co) s=>fS f k b.2 g' s) (body:=exec (W P n) n none Vf) (Ee0 c g' ask) c.bs EeF _ 0 (fun i hi s=>by
   have hm:=Xt c.bs _ (aX hi)
   exact zxd c g' ask i hi (by omega) _ _ _ (ih c.bs[i].2 g' s n (hB _ (aX hi)) (by omega) (by omega) (by omega))) (fun s=>zb4b c g' ask _) c.bs [] s n rfl (by omega)
  have L1:=fun s=>Dz S (fun (b:Co) s=>fS f k b g' s) (body:=exec (W P n) n none Vg) (Ee1 c g' ask) c.ks EeF _ 2 (fun i hi s=>by
   have hm:=vG c.ks _ (aX hi)
   exact zxe c g' ask i hi (by omega) _ _ _ (ih c.ks[i] g' s n (hKs _ (aX hi)) (by omega) (by omega) (by omega))) (fun s=>zb5b c g' ask _) c.ks [] s n rfl (by omega)
  have L2:=fun s=>Dz S (fun (a:Hd × Co) s=>fS f k a.2 (g' ++ a.1.vars) s) (body:=exec (W P n) n none Vh) (Ee2 c g' ask) c.al EeF _ 4 (fun i hi s=>by
   have hm:=lU c.al _ (aX hi)
   obtain ⟨m,rfl⟩:∃ j,n=j + 1:=⟨n - 1,by omega⟩
   exact zxf c g' ask i hi (by omega) _ _ _ (Ya hP2 _ _ (by omega) m _) (ih c.al[i].2 _ s (m + 1) (hA _ (aX hi)) (by omega) (by rw [aF]; omega) (by omega))) (fun s=>zb6b c g' ask _) c.al [] s n rfl (by omega)
  have lb:=Yz c
  have lk:lenOf (kD c)=some c.ks.length:=mM _ _
  have la:=zjk c
  rw [hdc] at hk1
  simp only [aW,bG] at hk1
  rw [eH (af:=wF) hP0 rfl rfl]
  simp only [aH,Ee0,Ee1,Ee2,Ew,eR] at L0 L1 L2
  generalize (fZ (fun (a:Hd × Co) s=>fS f k a.2 (g' ++ a.1.vars) s) c.al)=r2 at *
  generalize (fZ (fun (b:Co) s=>fS f k b g' s) c.ks)=r1 at *
  generalize (fZ (fun (b:Tx × Co) s=>fS f k b.2 g' s) c.bs)=r0 at *
  generalize f s c g'=q at *
  have L0:=L0 q.2
  have L1:=L1 (r0 q.2).2
  have L2:=L2 (r1 (r0 q.2).2).2
  have okG:(dSs g).ok=true:=gZ
  have okV:(dSs (nms c)).ok=true:=gZ
  have ceG:(dSs g).cells=[dSs g]:=fG
  have ceV:(dSs (nms c)).cells=[dSs (nms c)]:=fG
  cases h8:c.f == 8 with
  | true =>
   rw [h8,dJ] at hg'
   obtain ⟨m,rfl⟩:∃ j,n=j + 1:=⟨n - 1,by omega⟩
   have hnm:=zpo hP1 c.bs (by omega) m (S s)
   have hca:=Ya hP2 g (nms c) (by rw [hg'] at hgl; simp only [nms,aJ] at hgl ⊢; omega) m (S s)
   rw [← hg'] at hca
   have hbd:bD c=dBl' c.bs:=rfl
   simp only [dd] at hca
   simp only [bnF] at hnm
   rw [← hbd] at hnm
   have hnc:c.bs.map Prod.fst=nms c:=rfl
   rw [hnc] at hnm
   cases hq:q.1 with
   | false =>
    rw [hq] at hk1
    simp only [wF,sA,seval,kn,hdc,hon,h8,hnm,okG,okV,ceG,ceV,hca,hask,hk1,lb,lk,la,dH]
   | true =>
    rw [hq] at hk1
    simp only [dJ]
    cases hr0:(r0 q.2).1 with
    | false =>
     rw [hr0] at L0
     simp only [dH] at L0 ⊢
     simp only [wF,sA,seval,kn,hdc,hon,h8,hnm,okG,okV,ceG,ceV,hca,hask,hk1,lb,lk,la,L0,EeF]
    | true =>
     rw [hr0] at L0
     simp only [dJ] at L0 ⊢
     cases hr1:(r1 (r0 q.2).2).1 with
     | false =>
      rw [hr1] at L1
      simp only [dH] at L1 ⊢
      simp only [wF,sA,seval,kn,hdc,hon,h8,hnm,okG,okV,ceG,ceV,hca,hask,hk1,lb,lk,la,L0,L1,EeF]
     | true =>
      rw [hr1] at L1
      simp only [dJ] at L1 ⊢
      cases hr2:(r2 (r1 (r0 q.2).2).2).1 with
      | false =>
       rw [hr2] at L2
       simp only [dH] at L2 ⊢
       simp only [wF,sA,seval,kn,hdc,hon,h8,hnm,okG,okV,ceG,ceV,hca,hask,hk1,lb,lk,la,L0,L1,L2,EeF]
      | true =>
       rw [hr2] at L2
       simp only [dJ] at L2 ⊢
       simp only [wF,sA,seval,kn,hdc,hon,h8,hnm,okG,okV,ceG,ceV,hca,hask,hk1,lb,lk,la,L0,L1,L2]
  | false =>
   rw [h8,dH] at hg'
   subst hg'
   cases hq:q.1 with
   | false =>
    rw [hq] at hk1
    simp only [wF,sA,seval,kn,hdc,hon,h8,hask,hk1,lb,lk,la,dH]
   | true =>
    rw [hq] at hk1
    simp only [dJ]
    cases hr0:(r0 q.2).1 with
    | false =>
     rw [hr0] at L0
     simp only [dH] at L0 ⊢
     simp only [wF,sA,seval,kn,hdc,hon,h8,hask,hk1,lb,lk,la,L0,EeF]
    | true =>
     rw [hr0] at L0
     simp only [dJ] at L0 ⊢
     cases hr1:(r1 (r0 q.2).2).1 with
     | false =>
      rw [hr1] at L1
      simp only [dH] at L1 ⊢
      simp only [wF,sA,seval,kn,hdc,hon,h8,hask,hk1,lb,lk,la,L0,L1,EeF]
     | true =>
      rw [hr1] at L1
      simp only [dJ] at L1 ⊢
      cases hr2:(r2 (r1 (r0 q.2).2).2).1 with
      | false =>
       rw [hr2] at L2
       simp only [dH] at L2 ⊢
       simp only [wF,sA,seval,kn,hdc,hon,h8,hask,hk1,lb,lk,la,L0,L1,L2,EeF]
      | true =>
       rw [hr2] at L2
       simp only [dJ] at L2 ⊢
       simp only [wF,sA,seval,kn,hdc,hon,h8,hask,hk1,lb,lk,la,L0,L1,L2]
end Go.Fu
namespace Go.Fu
open Go Go.Mx
set_option maxRecDepth 10000
set_option maxHeartbeats 4000000
theorem vJ {S:eD} (hS:dE S wV=some Gh) (l:List Tx) (s:Tx) (hl:l.length < 1000000000) (n:Nat) (σ:Store):W S (n + 1) wV [dSs l,.str s] σ=some (.ret ⟨false,.bool (l.any (· == s))⟩,σ):=by
 obtain ⟨c,h1,h2⟩:=qS (S:=S) hS rfl (c:=⟨false,.bool (l.any (· == s))⟩) (fun l' s' e=>by
  simp only [aL,D.str.injEq,and_true] at e
  rw [jT e.1,e.2]) (zep l s hl)
 rw [h2,h1 l s rfl]
def SE:eD:=[(uL,Hr),(qY,Hq),(wV,Gh)]
def StF (some:List Tx) (h:List Tx):Store:={objs:=[(1,[⟨ow h.length,dSs h⟩]),(0,[⟨false,dSs some⟩])],tys:=[(1,⟨t_8,0⟩),(0,⟨t_8,0⟩)],oth:=[],next:=2}
def frF (some:List Tx) (h:List Tx) (c:Co) (g:List Tx):Bool × List Tx:=(true,ifB (lY c g some h) (h ++ [c.s]) h)
theorem zug (so h g:List Tx) (c:Co) (hs:so.length < 1000000000) (hh:h.length < 1000000000) (hg:g.length < 1000000000) (n:Nat):W SE (n + 2) zhe [dCo c,dSs g,.ptr 0 0,.ptr 1 0] (StF so h)=some (.ret ⟨false,.bool true⟩,StF so (ifB (lY c g so h) (h ++ [c.s]) h)):=by
 have k1:=vJ (S:=SE) rfl g c.s hg n (StF so h)
 have k2:=vJ (S:=SE) rfl so c.s hs n (StF so h)
 have k3:=vJ (S:=SE) rfl h c.s hh n (StF so h)
 have hap:=uG h c.s (ow h.length) (fun hne=>by
  cases h with
  | nil=>exact absurd rfl hne
  | cons x r=>rfl) hh
 have b0:dE (StF so h).objs 0=some [⟨false,dSs so⟩]:=rfl
 have b1:dE (StF so h).objs 1=some [⟨ow h.length,dSs h⟩]:=rfl
 have b2:dE (dZ (StF so h).objs 1 [⟨false,dSs h⟩]) 1=some [⟨false,dSs h⟩]:=agA _ _ _
 have hdc:=fJ c
 have hon:=jO c
 have hoH:=gW h
 have hoH2:=gW (h ++ [c.s])
 have okH2:(dSs (h ++ [c.s])).ok=true:=gZ
 have ceH2:(dSs (h ++ [c.s])).cells=[dSs (h ++ [c.s])]:=fG
 have hfin:∀ o,({objs:=dZ (dZ (StF so h).objs 1 [⟨o,dSs h⟩]) 1 [⟨true,dSs (h ++ [c.s])⟩],tys:=(StF so h).tys,oth:=(StF so h).oth,next:=(StF so h).next}:Store)=StF so (h ++ [c.s]):=fun o=>by
  have:ow (h ++ [c.s]).length=true:=by simp [kK]
  unfold StF
  rw [this]
  rfl
 unfold lY
 simp only [fO]
 rw [eH (af:=Nu) rfl rfl rfl]
 cases e1:c.f == 1 with
 | false=>simp only [Nu,sA,Nat.reduceAdd,Nat.reduceSub,Nat.reduceMul,Nat.reduceBEq,Nat.reduceLeDiff,Int.reduceBEq,Int.reduceBNe,Int.reduceLE,Int.reduceLT,Int.reduceGE,Int.reduceGT,Int.reduceNeg,kn,hdc,hon,e1,Bool.false_and,dH]
 | true =>
  cases e2:g.any (· == c.s) with
  | true =>
   rw [e2] at k1
   simp only [Nu,sA,Nat.reduceAdd,Nat.reduceSub,Nat.reduceMul,Nat.reduceBEq,Nat.reduceLeDiff,Int.reduceBEq,Int.reduceBNe,Int.reduceLE,Int.reduceLT,Int.reduceGE,Int.reduceGT,Int.reduceNeg,kn,hdc,hon,e1,k1,bZ,Bool.and_false,Bool.false_and,dH]
  | false =>
   rw [e2] at k1
   cases e3:so.any (· == c.s) with
   | false =>
    rw [e3] at k2
    simp only [Nu,sA,Nat.reduceAdd,Nat.reduceSub,Nat.reduceMul,Nat.reduceBEq,Nat.reduceLeDiff,Int.reduceBEq,Int.reduceBNe,Int.reduceLE,Int.reduceLT,Int.reduceGE,Int.reduceGT,Int.reduceNeg,kn,hdc,hon,e1,k1,k2,b0,Bool.not_false,Bool.and_true,Bool.and_false,Bool.false_and,dH]
   | true =>
    rw [e3] at k2
    cases e4:h.any (· == c.s) with
    | true =>
     rw [e4] at k3
     simp only [Nu,sA,Nat.reduceAdd,Nat.reduceSub,Nat.reduceMul,Nat.reduceBEq,Nat.reduceLeDiff,Int.reduceBEq,Int.reduceBNe,Int.reduceLE,Int.reduceLT,Int.reduceGE,Int.reduceGT,Int.reduceNeg,kn,hdc,hon,e1,k1,k2,k3,b0,b1,bZ,Bool.not_false,Bool.and_true,Bool.and_false,dH]
    | false =>
     rw [e4] at k3
     simp only [Nu,sA,Nat.reduceAdd,Nat.reduceSub,Nat.reduceMul,Nat.reduceBEq,Nat.reduceLeDiff,Int.reduceBEq,Int.reduceBNe,Int.reduceLE,Int.reduceLT,Int.reduceGE,Int.reduceGT,Int.reduceNeg,kn,hdc,hon,e1,k1,k2,k3,b0,b1,Bool.not_false,Bool.and_true,dJ,hoH,hap,okH2,ceH2,hoH2,b2,pN,hfin]
def prs (c:Co):List (Co × List Tx):=c.bs.map (fun b=>(b.2,nms c)) ++ c.ks.map (fun x=>(x,nms c)) ++ c.al.map (fun a=>(a.2,a.1.vars))
theorem zpa (c:Co):(prs c).map Prod.fst=iM c:=by
 simp only [prs,iM,aU,cD]
 congr 1
 congr 1
 exact List.map_id'' (fun _=>rfl) _
theorem zc4 (c:Co):(prs c).length=(iM c).length:=by rw [← zpa,aJ]
theorem zdqb (c:Co) (i:Nat) (hi:i < (prs c).length):(prs c)[i].2=Bi c i:=by
 have hl:=zc4 c
 rw [zrz] at hl
 unfold Bi
 by_cases h:c.bs.length + c.ks.length≤i
 ·rw [if_pos h]
  have h2:i - (c.bs.length + c.ks.length) < c.al.length:=by omega
  simp only [prs]
  rw [bT (by simp; omega)]
  rw [eY _ _ _ (by simpa using h2)]
  simp
 ·rw [if_neg h]
  simp only [prs]
  rw [List.getElem_append_left (by simp; omega)]
  by_cases h2:i < c.bs.length
  ·rw [List.getElem_append_left (by simpa using h2)]
   simp [nms]
  ·rw [bT (by simpa using h2)]
   simp [nms]
theorem zqo {α β:Type} (P:β→α→β) (d:α):∀ (l:List α) (h:β),(List.range l.length).foldl (fun h i=>P h (l.getD i d)) h=l.foldl P h:=by
 intro l h
 have key:∀ n,n≤l.length→(List.range n).foldl (fun h i=>P h (l.getD i d)) h=(l.take n).foldl P h:=by
  intro n
  induction n with
  | zero=>intro _; simp
  | succ n ih =>
   intro hn
   rw [List.range_succ,List.foldl_append,ih (by omega),← hZ l n (by omega),List.foldl_append]
   simp only [List.foldl_cons,List.foldl_nil]
   rw [eY _ _ _ (by omega)]
 rw [key l.length (aM _),aV]
theorem sN (k:Nat) (c:Co) (g s h:List Tx):fU (k + 1) c g s h=ifB (lY c g s h) (h ++ [c.s]) ((prs c).foldl (fun h p=>fU k p.1 (g ++ p.2) s h) h):=by
 simp only [fU]
 congr 1
 rw [← zqo (fun h (p:Co × List Tx)=>fU k p.1 (g ++ p.2) s h) (c0,[]) (prs c) h,zc4]
 refine vO _ _ fun i hi b=>?_
 have hi:=List.mem_range.1 hi
 have hi2:i < (prs c).length:=by rw [zc4]; exact hi
 rw [eY _ _ _ hi,eY _ _ _ hi2,zdqb c i hi2]
 congr 1
 have h1:=zpa c
 have:(prs c)[i].1=((prs c).map Prod.fst)[i]'(by simpa using hi2):=by simp
 rw [this]
 simp only [h1]
theorem qW {α β:Type} (F:β→α→Bool × α):∀ (l:List β) (s:α),(∀ x∈l,∀ s,(F x s).1=true)→fZ F l s=(true,l.foldl (fun s x=>(F x s).2) s)
 | [],s,_=>rfl
 | x :: l,s,h=>by
  have he:fZ F (x :: l) s=ifB (F x s).1 (fZ F l (F x s).2) (false,(F x s).2):=rfl
  rw [he,h x (aQ ..) s,dJ,qW F l _ fun y hy=>h y (aI _ hy)]
  rfl
def Bnd (c:Co):Prop:=(c.f≠8→c.bs=[])∧(c.f=8→c.al=[])∧(c.f=1→c.ks=[]∧c.al=[])
inductive Wf:Co→Prop
 | mk {c}:Bnd c→(∀ b∈c.bs,Wf b.2)→(∀ x∈c.ks,Wf x)→(∀ a∈c.al,Wf a.2)→Wf c
theorem Wf.bnd {c:Co} (h:Wf c):Bnd c∧(∀ b∈c.bs,Wf b.2)∧(∀ x∈c.ks,Wf x)∧(∀ a∈c.al,Wf a.2):=by
 cases h with
 | mk a b c d=>exact ⟨a,b,c,d⟩
theorem Shp.wf {B:Nat} {c:Co} (h:Shp B c):Wf c:=by
 induction h with
 | @leaf f n s h1 _ _=>exact Wf.mk (c:=.mk f n s [] [] []) ⟨fun _=>rfl,fun _=>rfl,fun _=>⟨rfl,rfl⟩⟩ (fun b hb=>by cases hb) (fun b hb=>by cases hb) (fun b hb=>by cases hb)
 | @app s a b _ _ _ ha hb =>
  refine Wf.mk (c:=.mk 4 0 s [a,b] [] []) ⟨fun _=>rfl,fun _=>rfl,fun h=>absurd h (by simp [Co.f])⟩ (fun b hb=>by cases hb) (fun x hx=>?_) (fun b hb=>by cases hb)
  simp only [Co.ks,aS,aK,or_false] at hx
  rcases hx with rfl | rfl
  ·exact ha
  ·exact hb
 | @prim s a b _ _ _ ha hb =>
  refine Wf.mk (c:=.mk 10 0 s [a,b] [] []) ⟨fun _=>rfl,fun _=>rfl,fun h=>absurd h (by simp [Co.f])⟩ (fun b hb=>by cases hb) (fun x hx=>?_) (fun b hb=>by cases hb)
  simp only [Co.ks,aS,aK,or_false] at hx
  rcases hx with rfl | rfl
  ·exact ha
  ·exact hb
 | @lt s b bs _ _ _ _ hb hx =>
  refine Wf.mk (c:=.mk 8 0 s [b] bs []) ⟨fun h=>absurd rfl h,fun _=>rfl,fun h=>absurd h (by simp [Co.f])⟩ hb (fun x hx2=>?_) (fun b hb=>by cases hb)
  simp only [Co.ks,aS,aK,or_false] at hx2
  subst hx2
  exact hx
 | @cas s x al _ _ _ _ hx ha =>
  refine Wf.mk (c:=.mk 9 0 s [x] [] al) ⟨fun _=>rfl,fun h=>absurd h (by simp [Co.f]),fun h=>absurd h (by simp [Co.f])⟩ (fun b hb=>by cases hb) (fun x2 hx2=>?_) ha
  simp only [Co.ks,aS,aK,or_false] at hx2
  subst hx2
  exact hx
theorem qV (so:List Tx):∀ (k:Nat) (c:Co) (g h:List Tx),Wf c→fS (frF so) k c g h=(true,fU k c g so h)
 | 0,c,g,h,_=>rfl
 | k + 1,c,g,h,hw=>by
  obtain ⟨⟨w1,w2,w3⟩,wb,wk,wa⟩:=hw.bnd
  have hg:∀ h,lY c (ifB (c.f == 8) (g ++ nms c) g) so h=lY c g so h:=fun h=>by
   cases e:c.f == 8 with
   | false=>rfl
   | true =>
    have:c.f=8:=by simpa using e
    have e1:(c.f == 1)=false:=by rw [this]; rfl
    simp only [lY,e1,Bool.false_and]
  have hgb:(ifB (c.f == 8) (g ++ nms c) g)=g ++ nms c:=by
   cases e:c.f == 8 with
   | true=>rfl
   | false =>
    have:c.f≠8:=by simpa using e
    simp [nms,w1 this,ifB]
  have hga:c.al≠[]→(ifB (c.f == 8) (g ++ nms c) g)=g:=fun hne=>by
   cases e:c.f == 8 with
   | false=>rfl
   | true=>exact absurd (w2 (by simpa using e)) hne
  have i0:∀ s,fZ (fun (b:Tx × Co) s=>fS (frF so) k b.2 (ifB (c.f == 8) (g ++ nms c) g) s) c.bs s=(true,c.bs.foldl (fun s b=>fU k b.2 (g ++ nms c) so s) s):=fun s=>by
   rw [hgb,qW _ _ _ fun x hx s=>by rw [qV so k x.2 _ _ (wb x hx)]]
   congr 1
   exact vO _ _ fun x hx s=>by rw [qV so k x.2 _ _ (wb x hx)]
  have i1:∀ s,fZ (fun (b:Co) s=>fS (frF so) k b (ifB (c.f == 8) (g ++ nms c) g) s) c.ks s=(true,c.ks.foldl (fun s b=>fU k b (g ++ nms c) so s) s):=fun s=>by
   rw [hgb,qW _ _ _ fun x hx s=>by rw [qV so k x _ _ (wk x hx)]]
   congr 1
   exact vO _ _ fun x hx s=>by rw [qV so k x _ _ (wk x hx)]
  have i2:∀ s,fZ (fun (b:Hd × Co) s=>fS (frF so) k b.2 ((ifB (c.f == 8) (g ++ nms c) g) ++ b.1.vars) s) c.al s=(true,c.al.foldl (fun s b=>fU k b.2 (g ++ b.1.vars) so s) s):=fun s=>by
   rw [qW _ _ _ fun x hx s=>by rw [qV so k x.2 _ _ (wa x hx)]]
   congr 1
   exact vO _ _ fun x hx s=>by rw [qV so k x.2 _ _ (wa x hx),hga (List.ne_nil_of_mem hx)]
  unfold fS
  simp only [frF,hg]
  simp only [i0,i1,i2,dJ]
  rw [sN]
  congr 1
  cases hn:lY c g so h with
  | false =>
   simp only [dH,prs,List.foldl_append,List.foldl_map]
  | true =>
   have e1:c.f=1:=by
    unfold lY at hn
    simp only [aC] at hn
    simpa using hn.1.1.1
   have hb:c.bs=[]:=w1 (by omega)
   obtain ⟨hk,ha⟩:=w3 e1
   simp only [dJ,hb,hk,ha,List.foldl_nil]
theorem zd9:∀ (h so:List Tx),h.Nodup→(∀ x∈h,x∈so)→h.length≤so.length
 | [],so,_,_=>Nat.zero_le _
 | x :: r,so,hn,hs=>by
  have hx:=hs x (aQ ..)
  obtain ⟨h1,h2⟩:=List.nodup_cons.1 hn
  have h3:=zd9 r (so.erase x) h2 fun y hy=>by
   have hne:y≠x:=fun e=>h1 (e ▸ hy)
   exact (List.mem_erase_of_ne hne).2 (hs y (aI _ hy))
  rw [List.length_erase_of_mem hx] at h3
  have:=List.length_pos_of_mem hx
  simp only [aG]
  omega
theorem Dx {α β:Type} (φ:α→β) (f:α→Co→List Tx→Bool × α) (f':β→Co→List Tx→Bool × β) (h:∀ s c g,(f s c g).1=(f' (φ s) c g).1∧φ (f s c g).2=(f' (φ s) c g).2):∀ (k:Nat) (c:Co) (g:List Tx) (s:α),(fS f k c g s).1=(fS f' k c g (φ s)).1∧φ (fS f k c g s).2=(fS f' k c g (φ s)).2
 | 0,c,g,s=>⟨rfl,rfl⟩
 | k + 1,c,g,s=>by
  have hL:∀ {γ:Type} (F:γ→α→Bool × α) (F':γ→β→Bool × β),(∀ x s,(F x s).1=(F' x (φ s)).1∧φ (F x s).2=(F' x (φ s)).2)→∀ (l:List γ) (s:α),(fZ F l s).1=(fZ F' l (φ s)).1∧φ (fZ F l s).2=(fZ F' l (φ s)).2:=by
   intro γ F F' hF l
   induction l with
   | nil=>intro s; exact ⟨rfl,rfl⟩
   | cons x r ih =>
    intro s
    obtain ⟨h1,h2⟩:=hF x s
    have e1:fZ F (x :: r) s=ifB (F x s).1 (fZ F r (F x s).2) (false,(F x s).2):=rfl
    have e2:fZ F' (x :: r) (φ s)=ifB (F' x (φ s)).1 (fZ F' r (F' x (φ s)).2) (false,(F' x (φ s)).2):=rfl
    rw [e1,e2,← h1,← h2]
    cases (F x s).1 with
    | true=>exact ih _
    | false=>exact ⟨rfl,rfl⟩
  unfold fS
  generalize ifB (c.f == 8) (g ++ nms c) g=g'
  obtain ⟨h1,h2⟩:=h s c g'
  rw [← h1,← h2]
  cases (f s c g').1 with
  | false=>exact ⟨rfl,rfl⟩
  | true =>
   simp only [dJ]
   have q0:=hL (fun (b:Tx × Co) s=>fS f k b.2 g' s) (fun (b:Tx × Co) s=>fS f' k b.2 g' s) (fun x s=>Dx φ f f' h k x.2 g' s) c.bs (f s c g').2
   rw [← q0.1,← q0.2]
   generalize fZ (fun (b:Tx × Co) s=>fS f k b.2 g' s) c.bs (f s c g').2=r0
   cases r0.1 with
   | false=>exact ⟨rfl,rfl⟩
   | true =>
    simp only [dJ]
    have q1:=hL (fun (b:Co) s=>fS f k b g' s) (fun (b:Co) s=>fS f' k b g' s) (fun x s=>Dx φ f f' h k x g' s) c.ks r0.2
    rw [← q1.1,← q1.2]
    generalize fZ (fun (b:Co) s=>fS f k b g' s) c.ks r0.2=r1
    cases r1.1 with
    | false=>exact ⟨rfl,rfl⟩
    | true =>
     simp only [dJ]
     exact hL (fun (b:Hd × Co) s=>fS f k b.2 (g' ++ b.1.vars) s) (fun (b:Hd × Co) s=>fS f' k b.2 (g' ++ b.1.vars) s) (fun x s=>Dx φ f f' h k x.2 _ s) c.al r1.2
theorem zx3 {c:Co} {g so h:List Tx} (hn:lY c g so h=true):c.s∈so∧c.s ∉ h:=by
 unfold lY fO at hn
 simp only [aC,Bool.not_eq_true',List.any_eq_true,List.any_eq_false] at hn
 obtain ⟨⟨_,x,hx,he⟩,h3⟩:=hn
 have:x=c.s:=by simpa using he
 exact ⟨this ▸ hx,fun hm=>h3 _ hm (by simp)⟩
abbrev FrS (so:List Tx):Type:={h:List Tx // h.Nodup∧∀ x∈h,x∈so}
theorem zuf {so:List Tx} (h:FrS so) (c:Co) (g:List Tx):(ifB (lY c g so h.1) (h.1 ++ [c.s]) h.1).Nodup∧∀ x∈(ifB (lY c g so h.1) (h.1 ++ [c.s]) h.1),x∈so:=by
 cases hn:lY c g so h.1 with
 | false=>exact h.2
 | true =>
  obtain ⟨h1,h2⟩:=zx3 hn
  simp only [dJ]
  refine ⟨List.nodup_append.2 ⟨h.2.1,by simp,fun a ha b hb=>?_⟩,fun x hx=>?_⟩
  ·rw [bO] at hb
   subst hb
   exact fun e=>h2 (e ▸ ha)
  ·rcases bJ.1 hx with hx | hx
   ·exact h.2.2 x hx
   ·rw [bO] at hx
    exact hx ▸ h1
theorem zuh (c:Co) (so:List Tx) (hw:Wf c) (hsz:c.size < 10000000) (hs:so.length < 10000000):OkP Sz [dCo c,dSs so] ⟨false,dSs (fU c.size c [] so [])⟩:=by
 have hrun:=zi0 (P:=SE) rfl rfl rfl (fun h:FrS so=>StF so h.1) (fun h c g=>(true,⟨ifB (lY c g so h.1) (h.1 ++ [c.s]) h.1,zuf h c g⟩)) (.fn (.func zhe) [] [.ptr 0 0,.ptr 1 0]) zhe [.ptr 0 0,.ptr 1 0] rfl 2 20000000 (by omega) (fun _ _=>True) (fun _ _ _ _ _=>trivial) (fun _ _ _ _ _=>trivial) (fun _ _ _ _ _=>trivial)
  (fun s c g n hn _ hg _=>by
   obtain ⟨n,rfl⟩:∃ j,n=j + 2:=⟨n - 2,by omega⟩
   have:=zd9 s.1 so s.2.1 s.2.2
   exact zug so s.1 _ c (by omega) (by omega) (by omega) n) c.size c [] ⟨[],List.nodup_nil,fun x hx=>by cases hx⟩ (c.size + 5) trivial (aM _) (by simp; omega) (by omega)
 have hmap:=Dx (fun h:FrS so=>h.1) (fun h c g=>(true,⟨ifB (lY c g so h.1) (h.1 ++ [c.s]) h.1,zuf h c g⟩)) (frF so) (fun s c g=>⟨rfl,rfl⟩) c.size c [] ⟨[],List.nodup_nil,fun x hx=>by cases hx⟩
 rw [qV so c.size c [] [] hw] at hmap
 rw [hmap.1,hmap.2] at hrun
 have hS0:StF so []=GA (GA σ0 t_8 [⟨false,dSs so⟩]) t_8 [⟨false,.nils⟩]:=rfl
 have hn1:(GA σ0 t_8 [⟨false,dSs so⟩]).next=1:=rfl
 have hn0:σ0.next=0:=rfl
 have okS:(dSs so).ok=true:=gZ
 have ceS:(dSs so).cells=[dSs so]:=fG
 generalize fU c.size c [] so []=fr at *
 have ha1:dE (StF so fr).objs 1=some [⟨ow fr.length,dSs fr⟩]:=rfl
 have hof:=gW fr
 have hdc:=fJ c
 have hon:=jO c
 have e0:dSs []=.nils:=rfl
 refine OkP.weak (o:=ow fr.length) rfl (sF (af:=zf6) (n:=1) (σ':={(StF so fr) with objs:=dZ (StF so fr).objs 1 [⟨false,dSs fr⟩]}) (pY SE (c.size + 5)) rfl rfl (by simp [eB,jH,fQ]) (fQ _) ?_)
 rw [hdc,e0] at hrun
 simp only [hS0] at hrun
 simp only [zf6,sA,Nat.reduceAdd,Nat.reduceSub,Nat.reduceMul,Nat.reduceBEq,Nat.reduceLeDiff,Int.reduceBEq,Int.reduceBNe,Int.reduceLE,Int.reduceLT,Int.reduceGE,Int.reduceGT,Int.reduceNeg,kn,eI,mB,hdc,hon,okS,ceS,hn0,hn1,hrun,ha1,hof]
end Go.Fu
