/-
 What is made a scheme,given new types,and made a scheme again has the same canonic form: the plain law.
-/
import Derived.Test.YtieacpoabejcoaaGreatDoorFsQ1
import Derived.Test.YtieacpoabejcoaaGreatDoorFsE
set_option maxHeartbeats 4000000
set_option linter.unusedSimpArgs false
set_option linter.unusedVariables false
set_option linter.unusedSectionVars false
namespace Go.Fu
open Go Go.Mx
set_option maxRecDepth 10000
theorem zgab {n:Nat}:(it n).length=1∨(it n).length=2:=by
 unfold it
 split
 ·exact .inl rfl
 ·exact .inr rfl
theorem zh5b:∀ {a b:Nat},a < 20→b < 20→tn a=tn b→a=b:=by
 have h:∀ a < 20,∀ b < 20,tn a=tn b→a=b:=by decide +kernel
 exact fun {a b} ha hb=>h a ha b hb
theorem zyg (n:Nat):okV (tn n)=false:=by
 cases h:okV (tn n) with
 | false=>rfl
 | true =>
  have h1:=zsz h
  unfold tn at h1
  simp only [List.length_cons] at h1
  rcases zgab (n:=n) with h2 | h2 <;> omega
theorem zfm:∀ s∈V5,okV s=true:=by decide
def ixN (x:Nat):List Nat→Nat
 | []=>0
 | y :: r=>if x=y then 0 else ixN x r + 1
theorem zjm {x:Nat}:∀ {l:List Nat},x∈l→ixN x l < l.length
 | y :: r,h=>by
  unfold ixN
  by_cases e:x=y
  ·rw [if_pos e]; simp
  ·rw [if_neg e]
   have:=zjm (l:=r) ((List.mem_cons.1 h).resolve_left e)
   simp only [List.length_cons]; omega
theorem zkx {x:Nat}:∀ {l:List Nat} (h:x∈l),l[ixN x l]'(zjm h)=x
 | y :: r,h=>by
  by_cases e:x=y
  ·subst e
   simp [ixN]
  ·have h':=(List.mem_cons.1 h).resolve_left e
   have:=zkx (l:=r) h'
   simp only [ixN,if_neg e,List.getElem_cons_succ]
   exact this
theorem zbub {x y:Nat} {l:List Nat} (hx:x∈l) (hy:y∈l) (h:ixN x l=ixN y l):x=y:=by
 have h1:=zkx hx
 have h2:=zkx hy
 simp only [h] at h1
 exact h1.symm.trans h2
theorem ztc {x:Nat}:∀ {l:List Nat},(∀ y∈l,y < 20)→x < 20→x∈l→posS (tn x) (l.map tn)=some (ixN x l)
 | y :: r,hl,hx,h=>by
  unfold ixN
  simp only [List.map_cons,posS]
  by_cases e:x=y
  ·subst e
   simp
  ·have h':=(List.mem_cons.1 h).resolve_left e
   have hn:(tn x == tn y)=false:=beq_false_of_ne fun h=>e (zh5b hx (hl y (by simp)) h)
   rw [hn,if_neg e,if_neg (by simp),ztc (fun z hz=>hl z (List.mem_cons_of_mem _ hz)) hx h']
   rfl
theorem zcdb {s:List UInt8} (hs:okV s=true) (l:List Nat):posS s (l.map tn)=none:=zpg fun h=>by
 obtain ⟨n,_,rfl⟩:=List.mem_map.1 h
 rw [zyg] at hs
 cases hs
def smB:Tp→Prop
 | .hole x=>0≤x∧x < 6
 | .var s=>s∈V5
 | .con _=>True
 | .app f a=>smB f∧smB a
def im (ms:List Nat):Tp→Tp
 | .hole x=>if x.toNat∈ms then .hole ((10 + ixN x.toNat ms:Nat):Int) else .hole x
 | .app f a=>.app (im ms f) (im ms a)
 | .var s=>.var s
 | .con c=>.con c
theorem zsc {ms:List Nat} {x:Int} (hx:0≤x) (h:x.toNat∈ms):varT ms (.hole x)=.var (tn x.toNat):=by
 have:(ms.any fun m=>x == (m:Int))=true:=List.any_eq_true.2 ⟨x.toNat,h,by simp; omega⟩
 simp only [varT,this,if_true]
theorem zox {ms:List Nat} {x:Int} (hx:0≤x) (h:¬ x.toNat∈ms):varT ms (.hole x)=.hole x:=by
 have:(ms.any fun m=>x == (m:Int))=false:=by
  rw [List.any_eq_false]
  intro m hm he
  have:x=(m:Int):=by simpa using he
  apply h
  rw [this]
  simpa using hm
 simp only [varT,this,Bool.false_eq_true,if_false]
section
variable {ms:List Nat} (h6:∀ m∈ms,m < 6)
include h6
theorem im_eq:∀ t:Tp,smB t→subT (ms.map tn) (newT 9 ms.length) (varT ms t)=im ms t
 | .con c,_=>rfl
 | .app f a,h=>by simp only [varT,subT,im,im_eq f h.1,im_eq a h.2]
 | .var s,h=>by
  simp only [varT,subT,zcdb (zfm s h),im]
 | .hole x,h=>by
  by_cases hm:x.toNat∈ms
  ·have hlt:=zjm hm
   have hl:ixN x.toNat ms < (newT 9 ms.length).length:=by rw [zfk]; exact hlt
   rw [zsc h.1 hm]
   simp only [subT,ztc (fun y hy=>Nat.lt_of_lt_of_le (h6 y hy) (by omega)) (by have:=h6 _ hm; omega) hm,im,if_pos hm]
   rw [List.getD_eq_getElem?_getD,List.getElem?_eq_getElem hl,Option.getD_some,zw4]
   have e:9 + ixN x.toNat ms + 1=10 + ixN x.toNat ms:=by omega
   rw [e]
  ·rw [zox h.1 hm]
   simp only [subT,im,if_neg hm]
def nuN (ms:List Nat) (x:Nat):Nat:=10 + ixN x ms
omit h6 in
theorem zo4b {s:Nat} (hs:s∈ms) (l:List Nat) (h:∀ x∈l,x∈ms):(l.map (nuN ms)).contains (nuN ms s)=l.contains s:=by
 rw [Bool.eq_iff_iff]
 simp only [List.contains_iff_mem,List.mem_map]
 constructor
 ·rintro ⟨x,hx,he⟩
  have:x=s:=zbub (h x hx) hs (by unfold nuN at he; omega)
  rw [← this]
  exact hx
 ·intro hm
  exact ⟨s,hm,rfl⟩
omit h6 in
theorem zjq:∀ (t:Tp) (out:List Nat) (x:Nat),x∈out→x∈metA t out
 | .con _,_,_,h=>h
 | .var _,_,_,h=>h
 | .hole y,out,x,h=>by
  unfold metA
  split
  ·exact h
  ·exact List.mem_append.2 (.inl h)
 | .app f a,out,x,h=>zjq a _ x (zjq f out x h)
omit h6 in
theorem zw2:∀ (t:Tp) (out:List Nat),smB t→(∀ x∈metA t out,x∈ms)→metA (im ms t) (out.map (nuN ms))=(metA t out).map (nuN ms)
 | .con c,out,_,_=>rfl
 | .var s,out,_,_=>rfl
 | .app f a,out,h,hm=>by
  simp only [im,metA]
  rw [zw2 f out h.1 fun x hx=>hm x (zjq a _ x hx),zw2 a _ h.2 hm]
 | .hole x,out,h,hm=>by
  have ho:∀ y∈out,y∈ms:=fun y hy=>hm y (zjq (.hole x) out y hy)
  have hx:x.toNat∈ms:=by
   apply hm
   unfold metA
   split
   ·rename_i hc
    simpa using hc
   ·simp
  have hc:=zo4b hx out ho
  have e:((10 + ixN x.toNat ms:Nat):Int).toNat=nuN ms x.toNat:=by unfold nuN; omega
  simp only [im,if_pos hx,metA,e,hc]
  split
  ·rfl
  ·simp
def rhN (ms:List Nat) (s:List UInt8):List UInt8:=match posS s (ms.map tn) with
 | some i=>tn (10 + i)
 | none=>s
theorem zxr {x:Nat} (hm:x∈ms):rhN ms (tn x)=tn (nuN ms x):=by
 unfold rhN
 rw [ztc (fun y hy=>Nat.lt_of_lt_of_le (h6 y hy) (by omega)) (by have:=h6 _ hm; omega) hm]
 rfl
omit h6 in
theorem zjw {s:List UInt8} (hs:okV s=true):rhN ms s=s:=by
 unfold rhN
 rw [zcdb hs]
theorem zsb:∀ t:Tp,smB t→varT (ms.map (nuN ms)) (im ms t)=renT (rhN ms) (varT ms t)
 | .con c,_=>rfl
 | .app f a,h=>by simp only [varT,renT,im,zsb f h.1,zsb a h.2]
 | .var s,h=>by simp only [varT,renT,im,zjw (zfm s h)]
 | .hole x,h=>by
  by_cases hm:x.toNat∈ms
  ·have e:((10 + ixN x.toNat ms:Nat):Int).toNat=nuN ms x.toNat:=by unfold nuN; omega
   rw [zsc h.1 hm]
   simp only [im,if_pos hm,renT,zxr h6 hm]
   rw [zsc (by omega) (by rw [e]; exact List.mem_map.2 ⟨_,hm,rfl⟩),e]
  ·rw [zox h.1 hm]
   simp only [im,if_neg hm,renT]
   refine zox h.1 fun hc=>?_
   obtain ⟨y,_,hy⟩:=List.mem_map.1 hc
   unfold nuN at hy
   have:=h.2
   omega
theorem vs_im:(ms.map (nuN ms)).map tn=(ms.map tn).map (rhN ms):=by
 rw [List.map_map,List.map_map]
 refine List.map_congr_left fun x hx=>?_
 exact (zxr h6 hx).symm
def AN (ms:List Nat) (s:List UInt8):Prop:=s∈V5∨s∈ms.map tn
theorem rn_ok (hl:ms.length≤6):RN (AN ms) (rhN ms) (ms.map tn):=by
 have key:∀ s,s∈ms.map tn→∃ x,x∈ms∧s=tn x∧rhN ms s=tn (nuN ms x):=fun s hs=>by
  obtain ⟨x,hx,rfl⟩:=List.mem_map.1 hs
  exact ⟨x,hx,rfl,zxr h6 hx⟩
 have hnu:∀ x∈ms,nuN ms x < 20:=fun x hx=>by have:=zjm hx; unfold nuN; omega
 refine ⟨fun a b ha hb h=>?_,fun s hs hv=>?_,fun v hv=>.inr hv⟩
 ·rcases ha with ha | ha <;> rcases hb with hb | hb
  ·rwa [zjw (zfm a ha),zjw (zfm b hb)] at h
  ·obtain ⟨y,hy,rfl,e⟩:=key b hb
   rw [zjw (zfm a ha),e] at h
   have:=zfm a ha
   rw [h,zyg] at this
   cases this
  ·obtain ⟨x,hx,rfl,e⟩:=key a ha
   rw [zjw (zfm b hb),e] at h
   have:=zfm b hb
   rw [← h,zyg] at this
   cases this
  ·obtain ⟨x,hx,rfl,e⟩:=key a ha
   obtain ⟨y,hy,rfl,e'⟩:=key b hb
   rw [e,e'] at h
   have h1:=zh5b (hnu x hx) (hnu y hy) h
   have h2:x=y:=zbub hx hy (by unfold nuN at h1; omega)
   rw [h2]
 ·rcases hs with hs | hs
  ·exact zjw (zfm s hs)
  ·exact absurd hs hv
end
theorem zfq (ms:List Nat):∀ t:Tp,smB t→∀ s∈freeT (varT ms t),AN ms s
 | .con c,_,s,h=>by simp [varT,freeT] at h
 | .var x,hb,s,h=>by
  simp only [varT,freeT,List.mem_singleton] at h
  rw [h]
  exact .inl hb
 | .app f a,hb,s,h=>by
  rcases (zcs s _ _).1 h with h1 | h1
  ·exact zfq ms f hb.1 s h1
  ·exact zfq ms a hb.2 s h1
 | .hole x,hb,s,h=>by
  by_cases hm:x.toNat∈ms
  ·rw [zsc hb.1 hm] at h
   simp only [freeT,List.mem_singleton] at h
   rw [h]
   exact .inr (List.mem_map.2 ⟨_,hm,rfl⟩)
  ·rw [zox hb.1 hm] at h
   simp [freeT] at h
theorem zli (ms:List Nat):∀ t:Tp,nT (varT ms t)=nT t
 | .con c=>rfl
 | .var s=>rfl
 | .hole x=>by
  unfold varT
  split <;> rfl
 | .app f a=>by simp only [varT,nT,zli ms f,zli ms a]
theorem zru (ρ:List UInt8→List UInt8):∀ t:Tp,nT (renT ρ t)=nT t
 | .con c=>rfl
 | .var s=>rfl
 | .hole x=>rfl
 | .app f a=>by simp only [renT,nT,zru ρ f,zru ρ a]
def smC:Tp→Prop
 | .con c=>c.length≤6
 | .app f a=>smC f∧smC a
 | _=>True
theorem zh6b (n:Nat):(tn n).length≤3:=by
 unfold tn
 simp only [List.length_cons]
 rcases zgab (n:=n) with h | h <;> omega
theorem zoy (ms:List Nat):∀ t:Tp,smB t→smC t→smT (varT ms t)=true
 | .con c,_,h=>decide_eq_true h
 | .var s,h,_=>by
  have:=zsz (zfm s h)
  exact decide_eq_true (by omega)
 | .app f a,h,h'=>by
  simp only [varT,smT,zoy ms f h.1 h'.1,zoy ms a h.2 h'.2,Bool.and_self]
 | .hole x,h,_=>by
  unfold varT
  split
  ·have:=zh6b x.toNat
   exact decide_eq_true (by omega)
  ·simp only [smT,Bool.and_eq_true,decide_eq_true_eq]
   exact h
theorem zth {ms:List Nat}:∀ t:Tp,(∀ s∈freeT t,AN ms s)→smT t=true→smT (renT (rhN ms) t)=true
 | .con c,_,h=>h
 | .hole x,_,h=>h
 | .app f a,hf,h=>by
  simp only [smT,Bool.and_eq_true] at h
  simp only [renT,smT,zth f (fun s hs=>hf s ((zcs s f a).2 (.inl hs))) h.1,zth a (fun s hs=>hf s ((zcs s f a).2 (.inr hs))) h.2,Bool.and_self]
 | .var s,_,h=>by
  have h:s.length≤6:=of_decide_eq_true h
  refine decide_eq_true ?_
  unfold rhN
  split
  ·have:=zh6b (10 + ‹Nat›); omega
  ·exact h
structure MB (ms:List Nat) (ps:List Pr) (t:Tp):Prop where
 pl:ps.length≤4
 tb:smB t
 pb:∀ p∈ps,smB p.ty
 pc:∀ p∈ps,smC p.ty
 nt:nT t≤125
 pn:∀ p∈ps,nT p.ty≤125
 m6:∀ m∈ms,m < 6
 ml:ms.length≤6
theorem MB.sq {ms:List Nat} {ps:List Pr} {t:Tp} (H:MB ms ps t):SQ (ms.map tn) (ps.map (varP ms)) (varT ms t):=by
 have hor:∀ s,AN ms s→s∈ms.map tn∨s∈V5:=fun s h=>h.elim .inr .inl
 refine ⟨by rw [List.length_map]; exact H.ml,by rw [List.length_map]; exact H.pl,by rw [zli]; exact H.nt,fun p hp=>?_,fun s hs=>hor s (zfq ms t H.tb s hs),fun p hp s hs=>?_,fun p hp=>?_⟩
 ·obtain ⟨q,hq,rfl⟩:=List.mem_map.1 hp
  show nT (varT ms q.ty)≤125
  rw [zli]
  exact H.pn q hq
 ·obtain ⟨q,hq,rfl⟩:=List.mem_map.1 hp
  exact hor s (zfq ms q.ty (H.pb q hq) s hs)
 ·obtain ⟨q,hq,rfl⟩:=List.mem_map.1 hp
  exact zoy ms q.ty (H.pb q hq) (H.pc q hq)
theorem MB.sq2 {ms:List Nat} {ps:List Pr} {t:Tp} (H:MB ms ps t):SQ ((ms.map tn).map (rhN ms)) ((ps.map (varP ms)).map (renP (rhN ms))) (renT (rhN ms) (varT ms t)):=by
 have R:=rn_ok H.m6 H.ml
 have hor:∀ u:Tp,smB u→∀ s∈freeT (renT (rhN ms) (varT ms u)),s∈(ms.map tn).map (rhN ms)∨s∈V5:=fun u hu s hs=>by
  rw [R.free (varT ms u) (zfq ms u hu)] at hs
  obtain ⟨x,hx,rfl⟩:=List.mem_map.1 hs
  rcases zfq ms u hu x hx with h | h
  ·rw [zjw (zfm x h)]
   exact .inr h
  ·exact .inl (List.mem_map.2 ⟨x,h,rfl⟩)
 refine ⟨by rw [List.length_map,List.length_map]; exact H.ml,by rw [List.length_map,List.length_map]; exact H.pl,by rw [zru,zli]; exact H.nt,fun p hp=>?_,hor t H.tb,fun p hp s hs=>?_,fun p hp=>?_⟩
 ·rw [List.map_map] at hp
  obtain ⟨q,hq,rfl⟩:=List.mem_map.1 hp
  show nT (renT (rhN ms) (varT ms q.ty))≤125
  rw [zru,zli]
  exact H.pn q hq
 ·rw [List.map_map] at hp
  obtain ⟨q,hq,rfl⟩:=List.mem_map.1 hp
  exact hor q.ty (H.pb q hq) s hs
 ·rw [List.map_map] at hp
  obtain ⟨q,hq,rfl⟩:=List.mem_map.1 hp
  exact zth _ (zfq ms q.ty (H.pb q hq)) (zoy ms q.ty (H.pb q hq) (H.pc q hq))
theorem MB.ps_im {ms:List Nat} {ps:List Pr} {t:Tp} (H:MB ms ps t):((ps.map (varP ms)).map (putP (ms.map Go.Fu.tn) (newT 9 ms.length))).map (varP (ms.map (nuN ms)))=(ps.map (varP ms)).map (renP (rhN ms)):=by
 simp only [List.map_map]
 refine List.map_congr_left fun p hp=>?_
 show Pr.mk p.cls (varT _ (subT _ _ (varT ms p.ty)))=Pr.mk p.cls (renT _ (varT ms p.ty))
 rw [im_eq H.m6 p.ty (H.pb p hp),zsb H.m6 p.ty (H.pb p hp)]
end Go.Fu
namespace Go.Fu.U
open Go Go.Mx Go.Fu
set_option maxRecDepth 100000
set_option maxHeartbeats 4000000
inductive Lk (es:List (D × D × Nat)):Nat→Ty→Ty→Prop
 | done {t:Ty} (h:t.f≠1):Lk es 0 t t
 | free {t:Ty} (h:t.f=1) (hn:findM (.int .i64 t.n) es=some none):Lk es 0 t t
 | step {k:Nat} {t u v:Ty} {b j:Nat} (h:t.f=1) (hs:findM (.int .i64 t.n) es=some (some (dTy u,b,j))) (hr:Lk es k u v):Lk es (k + 1) t v
section
variable {C:CallF} {n:Nat} {σ:Store}
def Elk (p:Nat) (t:Ty):Env:={slots:=[(0,⟨false,.ptr p 0⟩)],locs:=[(3,3,0),(4,4,0)],boxes:=[(3,bT t),(4,z4)],defers:=[]}
theorem zss {p m c:Nat} {q:Nat} {es:List (D × D × Nat)} (h:SB σ p m q es c) {t u:Ty} {b j:Nat} (h1:t.f=1) (hs:findM (.int .i64 t.n) es=some (some (dTy u,b,j))):exec C n none a_46 (Elk p t) σ=some (.normal,Elk p u,σ):=by
 have ho:=h.obj
 have hma:mapOf σ.oth (.map m)=some es:=by simp only [mapOf,h.map,bindO,zab]
 have hkd:keyD false (.int .i64 t.n)=true:=rfl
 have b1:(t.f == 1)=true:=by rw [h1]; rfl
 simp only [zap,zaq] at hs
 simp only [a_46,Elk,bT,z4,sA,seval,kn,onel,ho,hma,hkd,hs,b1]
theorem znob {p m c:Nat} {q:Nat} {es:List (D × D × Nat)} (h:SB σ p m q es c) {t:Ty} (h1:t.f=1) (hn:findM (.int .i64 t.n) es=some none):exec C n none a_46 (Elk p t) σ=some (.ret,{slots:=[],locs:=[(4,4,0)],boxes:=[(4,bT t)],defers:=[]},σ):=by
 have ho:=h.obj
 have hma:mapOf σ.oth (.map m)=some es:=by simp only [mapOf,h.map,bindO,zab]
 have hkd:keyD false (.int .i64 t.n)=true:=rfl
 have b1:(t.f == 1)=true:=by rw [h1]; rfl
 simp only [a_46,Elk,bT,z4,sA,seval,kn,onel,ho,hma,hkd,hn,b1]
theorem znnb {p:Nat} {t:Ty} (h1:t.f≠1):exec C n none a_46 (Elk p t) σ=some (.exit 0,{Elk p t with slots:=[(0,⟨false,.ptr p 0⟩),(9,⟨false,.bool false⟩)]},σ):=by
 have b1:(t.f == 1)=false:=beq_false_of_ne h1
 simp only [a_46,Elk,bT,z4,sA,seval,kn,onel,b1]
end
theorem zt4 {C:CallF} {n0:Nat} {σ:Store} {p m c:Nat} {q:Nat} {es:List (D × D × Nat)} (h:SB σ p m q es c):∀ {k:Nat} {t u:Ty},Lk es k t u→∀ n,k < n→(loopN (exec C n0 none a_46) n (Elk p t) σ=some (.ret,{slots:=[],locs:=[(4,4,0)],boxes:=[(4,bT u)],defers:=[]},σ))∨(loopN (exec C n0 none a_46) n (Elk p t) σ=some (.exit 0,{Elk p u with slots:=[(0,⟨false,.ptr p 0⟩),(9,⟨false,.bool false⟩)]},σ))
 | _,_,_,.done h1,n + 1,_=>.inr (ziu (znnb h1))
 | _,_,_,.free h1 hn,n + 1,_=>.inl (zgi (znob h h1 hn))
 | _,_,_,.step h1 hs hr,n + 1,hk=>by
  have ih:=zt4 (C:=C) (n0:=n0) h hr n (by omega)
  have e:=ziv (n:=n) (zss (C:=C) (n:=n0) h h1 hs)
  rw [e]
  exact ih
theorem zknb {S:Specs} (hS0:has S n_68=false) {σ:Store} {p m c:Nat} {q:Nat} {es:List (D × D × Nat)} (h:SB σ p m q es c) {k:Nat} {t u:Ty} (hl:Lk es k t u) (n:Nat) (hn:k < n):TS S (n + 1) n_68 [.ptr p 0,dTy t] σ=some (.ret ⟨false,dTy u⟩,σ):=by
 rw [zbe (af:=a_115) hS0 rfl rfl]
 have hr:=zt4 (C:=TS S n) (n0:=n) h hl n hn
 unfold Elk at hr
 simp only [bT,z4] at hr
 rw [zap t,zap u]
 rcases hr with hr | hr
 ·simp only [a_115,sA,seval,kn,onel,zaq,hr]
 ·simp only [a_115,sA,seval,kn,onel,zaq,hr]
end Go.Fu.U
namespace Go.Fu.U
open Go Go.Mx Go.Fu
set_option maxRecDepth 10000
abbrev Kn:=List (Int × Ty)
def entK (x:Int × Ty) (b:Nat):D × D × Nat:=(.int .i64 x.1,dTy x.2,b)
def esK:Kn→Nat→List (D × D × Nat)
 | [],_=>[]
 | x :: r,b=>entK x b :: esK r (b + 1)
theorem zv4:∀ (l:Kn) (x:Int × Ty) (b:Nat),esK (l ++ [x]) b=esK l b ++ [entK x (b + l.length)]
 | [],x,b=>rfl
 | y :: r,x,b=>by
  have h:b + 1 + r.length=b + (y :: r).length:=by simp only [List.length_cons]; omega
  simp only [List.cons_append,esK,zv4 r x (b + 1),h]
def kno (k:Int):Kn→Option Ty
 | []=>none
 | x :: r=>if x.1=k then some x.2 else kno k r
theorem zsr {k:Int} {t:Ty}:∀ {l:Kn},kno k l=some t→(k,t)∈l
 | x :: r,h=>by
  simp only [kno] at h
  by_cases hx:x.1=k
  ·rw [if_pos hx] at h
   cases h
   subst hx
   exact List.mem_cons_self
  ·rw [if_neg hx] at h
   exact List.mem_cons_of_mem _ (zsr h)
theorem zj1 {k:Int}:∀ {l:Kn} (b:Nat),kno k l=none→findM (.int .i64 k) (esK l b)=some none
 | [],_,_=>rfl
 | x :: r,b,h=>by
  simp only [kno] at h
  by_cases hx:x.1=k
  ·rw [if_pos hx] at h
   cases h
  ·rw [if_neg hx] at h
   have h1:(k == x.1)=false:=by
    cases e:k == x.1 with
    | false=>rfl
    | true=>exact absurd (eq_of_beq e).symm hx
   have hs:sameD (.int .i64 k) (.int .i64 x.1)=some (k == x.1):=rfl
   simp only [esK,entK,findM,hs,h1,bindO,zab,zad,zj1 (b + 1) h]
   rfl
theorem zj2 {k:Int} {t:Ty}:∀ {l:Kn} (b:Nat),kno k l=some t→∃ c j,findM (.int .i64 k) (esK l b)=some (some (dTy t,c,j))
 | [],_,h=>by cases h
 | x :: r,b,h=>by
  have hs:sameD (.int .i64 k) (.int .i64 x.1)=some (k == x.1):=rfl
  simp only [kno] at h
  by_cases hx:x.1=k
  ·rw [if_pos hx] at h
   cases h
   have h1:(k == x.1)=true:=by rw [hx]; simp
   exact ⟨b,0,by simp only [esK,entK,findM,hs,h1,bindO,zab,zac]⟩
  ·rw [if_neg hx] at h
   have h1:(k == x.1)=false:=by
    cases e:k == x.1 with
    | false=>rfl
    | true=>exact absurd (eq_of_beq e).symm hx
   obtain ⟨c,j,hr⟩:=zj2 (b + 1) h
   refine ⟨c,j + 1,?_⟩
   simp only [esK,entK,findM,hs,h1,bindO,zab,zad,hr]
def lookF:Nat→Kn→Ty→Option Ty
 | 0,_,_=>none
 | d + 1,K,t=>if t.f=1 then (match kno t.n K with
  | none=>some t
  | some u=>lookF d K u) else some t
theorem lk_of {b:Nat}:∀ {d:Nat} {K:Kn} {t u:Ty},lookF d K t=some u→∃ k,k < d∧Lk (esK K b) k t u
 | d + 1,K,t,u,h=>by
  simp only [lookF] at h
  by_cases h1:t.f=1
  ·rw [if_pos h1] at h
   cases hk:kno t.n K with
   | none =>
    rw [hk] at h
    cases h
    exact ⟨0,by omega,.free h1 (zj1 b hk)⟩
   | some v =>
    rw [hk] at h
    obtain ⟨k,hk1,hk2⟩:=lk_of (b:=b) h
    obtain ⟨c,j,hf⟩:=zj2 b hk
    exact ⟨k + 1,by omega,.step h1 hf hk2⟩
  ·rw [if_neg h1] at h
   cases h
   exact ⟨0,by omega,.done h1⟩
def anyF (q:Ty→Option Bool):List Ty→Option Bool
 | []=>some false
 | x :: r=>(q x).bind fun b=>if b then some true else anyF q r
def withinF:Nat→Kn→Int→Ty→Option Bool
 | 0,_,_,_=>none
 | d + 1,K,n,t=>(lookF (d + 1) K t).bind fun u=>if u.f=1∧u.n=n then some true else anyF (withinF d K n) u.as_
def sumF (q:Ty→Option Nat):Nat→List Ty→Option Nat
 | n,[]=>some n
 | n,x :: r=>(q x).bind fun v=>sumF q (min (n + v) 501) r
def sizeF:Nat→Kn→Ty→Option Nat
 | 0,_,_=>none
 | d + 1,K,t=>match (if t.f=1 then kno t.n K else none) with
  | some x=>sizeF d K x
  | none=>sumF (sizeF d K) (if t.f=4 then 0 else 1) t.as_
def FitK (d:Nat) (K:Kn):Prop:=∀ x∈K,∃ v,sizeF d K (tMeta x.1)=some v∧v≤500
inductive BindK (d:Nat) (K:Kn):Int→Ty→Kn→Prop
 | own {n:Int} {t:Ty} (h1:t.f=1) (h2:t.n=n):BindK d K n t K
 | less {n:Int} {t:Ty} (h1:t.f=1) (h2:t.n > n) (hw:withinF d K t.n (tMeta n)=some false) (hk:kno t.n K=none) (hs:FitK d (K ++ [(t.n,tMeta n)])):BindK d K n t (K ++ [(t.n,tMeta n)])
 | put {n:Int} {t:Ty} (h1:¬ (t.f=1∧t.n=n)) (h2:¬ (t.f=1∧t.n > n)) (hw:withinF d K n t=some false) (hk:kno n K=none) (hs:FitK d (K ++ [(n,t)])):BindK d K n t (K ++ [(n,t)])
mutual
inductive OneK (d:Nat):Nat→Kn→Ty→Ty→Int→Kn→Prop
 | left {h:Nat} {K K':Kn} {a b u v:Ty} (ha:lookF d K a=some u) (hb:lookF d K b=some v) (h1:u.f=1) (hB:BindK d K u.n v K'):OneK d (h + 1) K a b 0 K'
 | right {h:Nat} {K K':Kn} {a b u v:Ty} (ha:lookF d K a=some u) (hb:lookF d K b=some v) (h1:u.f≠1) (h2:v.f=1) (hB:BindK d K v.n u K'):OneK d (h + 1) K a b 0 K'
 | form {h:Nat} {K:Kn} {a b u v:Ty} (ha:lookF d K a=some u) (hb:lookF d K b=some v) (h1:u.f≠1) (h2:v.f≠1) (h3:u.f≠v.f):OneK d (h + 1) K a b 31 K
 | name {h:Nat} {K:Kn} {a b u v:Ty} (ha:lookF d K a=some u) (hb:lookF d K b=some v) (h1:u.f≠1) (h2:v.f≠1) (h3:u.f=v.f) (h4:u.f≠5) (h5:u.s≠v.s):OneK d (h + 1) K a b 31 K
 | args {h:Nat} {K K':Kn} {e:Int} {a b u v:Ty} (ha:lookF d K a=some u) (hb:lookF d K b=some v) (h1:u.f≠1) (h2:v.f≠1) (h3:u.f=v.f) (h4:u.f≠5) (h5:u.s=v.s) (hl:u.as_.length=v.as_.length) (hL:OneL d h K u.as_ v.as_ e K'):OneK d (h + 1) K a b e K'
inductive OneL (d:Nat):Nat→Kn→List Ty→List Ty→Int→Kn→Prop
 | nil {h:Nat} {K:Kn}:OneL d h K [] [] 0 K
 | ok {h:Nat} {K K1 K2:Kn} {e:Int} {a b:Ty} {l r:List Ty} (h1:OneK d h K a b 0 K1) (h2:OneL d h K1 l r e K2):OneL d h K (a :: l) (b :: r) e K2
 | no {h:Nat} {K K1:Kn} {e:Int} {a b:Ty} {l r:List Ty} (h1:OneK d h K a b e K1) (he:e≠0):OneL d h K (a :: l) (b :: r) e K1
end
def mapF (q:Ty→Option Ty):List Ty→Option (List Ty)
 | []=>some []
 | x :: r=>(q x).bind fun y=>(mapF q r).bind fun l=>some (y :: l)
def applyF:Nat→Kn→Ty→Option Ty
 | 0,_,_=>none
 | d + 1,K,t=>(lookF (d + 1) K t).bind fun u=>(mapF (applyF d K) u.as_).bind fun l=>some (.mk u.f u.n u.s l)
end Go.Fu.U
namespace Go.Fu.U
open Go Go.Mx Go.Fu
set_option maxRecDepth 100000
set_option maxHeartbeats 4000000
structure Fr (σ σ':Store):Prop where
 le:σ.next≤σ'.next
 objs:∀ j,j < σ.next→aget σ'.objs j=aget σ.objs j
 oth:∀ j,j < σ.next→aget σ'.oth j=aget σ.oth j
 tys:∀ j,j < σ.next→aget σ'.tys j=aget σ.tys j
theorem Fr.refl (σ:Store):Fr σ σ:=⟨Nat.le_refl _,fun _ _=>rfl,fun _ _=>rfl,fun _ _=>rfl⟩
theorem Fr.trans {a b c:Store} (h:Fr a b) (k:Fr b c):Fr a c :=
 ⟨Nat.le_trans h.le k.le,fun j hj=>(k.objs j (Nat.lt_of_lt_of_le hj h.le)).trans (h.objs j hj),fun j hj=>(k.oth j (Nat.lt_of_lt_of_le hj h.le)).trans (h.oth j hj),fun j hj=>(k.tys j (Nat.lt_of_lt_of_le hj h.le)).trans (h.tys j hj)⟩
theorem SB.fr {σ σ':Store} {p m n c:Nat} {es:List (D × D × Nat)} (h:SB σ p m n es c) (hf:Fr σ σ'):SB σ' p m n es c :=
 ⟨(hf.objs _ h.lt).trans h.obj,(hf.oth _ h.ltm).trans h.map,Nat.lt_of_lt_of_le h.lt hf.le,Nat.lt_of_lt_of_le h.ltm hf.le⟩
section
variable {C:CallF} {n:Nat} {σ:Store}
def Eea (g:D) (L:List Ty) (i:Nat) (acc:List Ty) (o:Bool):Env:={slots:=[(1,⟨false,g⟩),(5,⟨o,dTl acc⟩),(8,⟨false,dTl L⟩),(9,⟨false,.int .i64 L.length⟩),(10,⟨false,.int .i64 i⟩)],locs:=[],boxes:=[],defers:=[]}
theorem zmkb (g:D) (fid:Nat) (pre:List D) (hg:D.fn? g=some (fid,pre,[])) (L:List Ty) (i:Nat) (hi:i < L.length) (hL:L.length < 1000000) (acc:List Ty) (o:Bool) (ho:acc≠[]→o=true) (ha:acc.length < 1000000) (u:Ty) (h1:C fid (pre ++ [dTy L[i]]) σ=some (.ret ⟨false,dTy u⟩,σ)):exec C n none a_97 (Eea g L i acc o) σ=some (.normal,Eea g L (i + 1) (acc ++ [u]) true,σ):=by
 have hx:=idx_T L i hi
 have hlt:((i:Int) < L.length):=by omega
 have w:=zaj (i:=i) (by omega)
 have happ:=app_T acc u o ho (by omega)
 generalize L[i]=v at *
 simp only [zap,zaq] at h1 happ hx
 simp only [a_97,Eea,sA,seval,kn,onel,hx,hlt,w,hg,h1,happ,natI]
theorem zo7b (g:D) (L:List Ty) (acc:List Ty) (o:Bool):exec C n none a_97 (Eea g L L.length acc o) σ=some (.exit 0,{Eea g L L.length acc o with slots:=[(1,⟨false,g⟩),(5,⟨o,dTl acc⟩),(8,⟨false,dTl L⟩),(9,⟨false,.int .i64 L.length⟩),(10,⟨false,.int .i64 L.length⟩),(11,⟨false,.bool false⟩)]},σ):=by
 have hlt:¬ ((L.length:Int) < L.length):=by omega
 simp only [a_97,Eea,sA,seval,kn,onel,hlt]
end
theorem zwy {q:Ty→Option Ty}:∀ {l r:List Ty},mapF q l=some r→r.length=l.length
 | [],_,h=>by
  cases h
  rfl
 | x :: l,r,h=>by
  simp only [mapF] at h
  cases h1:q x with
  | none=>rw [h1] at h; cases h
  | some y =>
   rw [h1] at h
   simp only [Option.bind_some] at h
   cases h2:mapF q l with
   | none=>rw [h2] at h; cases h
   | some s =>
    rw [h2] at h
    cases h
    simp only [List.length_cons,zwy h2]
theorem zwx {q:Ty→Option Ty}:∀ {l r:List Ty},mapF q l=some r→∀ (i:Nat) (h:i < l.length) (h':i < r.length),q l[i]=some r[i]
 | [],_,_,i,h,_=>absurd h (by simp)
 | x :: l,r,h,i,hi,hi'=>by
  simp only [mapF] at h
  cases h1:q x with
  | none=>rw [h1] at h; cases h
  | some y =>
   rw [h1] at h
   simp only [Option.bind_some] at h
   cases h2:mapF q l with
   | none=>rw [h2] at h; cases h
   | some s =>
    rw [h2] at h
    cases h
    cases i with
    | zero=>exact h1
    | succ i=>exact zwx h2 i (by simpa using hi) (by simpa using hi')
theorem zfeb (k:Nat) (P:Nat→Nat→Prop) (h:∀ i,i < k→∃ N,∀ n,N≤n→P i n):∃ N,∀ i,i < k→∀ n,N≤n→P i n:=by
 induction k with
 | zero=>exact ⟨0,fun i hi=>absurd hi (by omega)⟩
 | succ k ih =>
  obtain ⟨N1,h1⟩:=ih fun i hi=>h i (by omega)
  obtain ⟨N2,h2⟩:=h k (by omega)
  refine ⟨N1 + N2,fun i hi n hn=>?_⟩
  by_cases e:i=k
  ·subst e
   exact h2 n (by omega)
  ·exact h1 i (by omega) n (by omega)
def UnifyS (S:Specs):Prop:=has S n_68=false∧has S n_203=false∧has S n_40=false∧has S n_127=false∧has S n_183=false∧has S n_195=false∧has S n_178=false∧has S n_77=false∧has S n_182=false∧has S n_181=false∧has S n_107=false∧has S n_202=false∧has S n_190=false∧has S n_51=false∧has S n_126=false∧aget S n_25=some sp_meta∧aget S n_67=some sp_App
theorem zixb {S:Specs} (hS:UnifyS S) (g:D) (fid:Nat) (pre:List D) (hg:D.fn? g=some (fid,pre,[])) (L R:List Ty) (σ:Store) (hL:L.length < 1000000) (hl:L.length=R.length) (N0:Nat) (h:∀ i (hi:i < L.length) (hj:i < R.length),∀ n,N0≤n→TS S n fid (pre ++ [dTy L[i]]) σ=some (.ret ⟨false,dTy R[i]⟩,σ)):∀ n,N0 + L.length + 5≤n→TS S n n_203 [dTl L,g] σ=some (.ret ⟨ow L.length,dTl R⟩,σ):=by
 intro n hn
 obtain ⟨n,rfl⟩:∃ k,n=k + 1:=⟨n - 1,by omega⟩
 rw [zbe (af:=a_167) hS.2.1 rfl rfl]
 have hlen:=len_T L
 have hr:=zbz (body:=exec (TS S n) n none a_97) (fun i=>Eea g L i (R.take i) (ow i)) (fun _=>σ) L.length (r:=_) (fun _ _ h=>by cases h) (fun i hi=>by
  have hj:i < R.length:=by omega
  show _=some (_,Eea g L (i + 1) (R.take (i + 1)) (ow (i + 1)),σ)
  rw [← zba R i hj]
  exact zmkb g fid pre hg L i hi hL (R.take i) (ow i) ow_ne (by rw [List.length_take]; omega) R[i] (h i hi hj n (by omega))) (zo7b g L _ _) 0 n (by omega) (by omega)
 simp only [Eea,zeroI,hl,List.take_length,List.take_zero,zd1] at hr
 rw [← hl] at hr
 have e0:dTl []=.nils:=rfl
 rw [e0] at hr
 simp only [a_167,sA,seval,kn,onel,hlen,hr]
theorem zd6 {K:Kn} (hK:∀ x∈K,Fine x.2):∀ {d:Nat} {t u:Ty},Fine t→lookF d K t=some u→Fine u
 | d + 1,t,u,ht,h=>by
  simp only [lookF] at h
  by_cases h1:t.f=1
  ·rw [if_pos h1] at h
   cases hk:kno t.n K with
   | none =>
    rw [hk] at h
    cases h
    exact ht
   | some v =>
    rw [hk] at h
    exact zd6 hK (hK _ (zsr hk)) h
  ·rw [if_neg h1] at h
   cases h
   exact ht
theorem zem {S:Specs} (hS:UnifyS S) {σ:Store} {p m q c:Nat} {K:Kn} (h:SB σ p m q (esK K 0) c) {d:Nat} {t u:Ty} (hq:lookF d K t=some u) (n:Nat) (hn:d≤n):TS S (n + 1) n_68 [.ptr p 0,dTy t] σ=some (.ret ⟨false,dTy u⟩,σ):=by
 obtain ⟨k,hk,hl⟩:=lk_of (b:=0) hq
 exact zknb hS.1 h hl n (by omega)
theorem apply_run {S:Specs} (hS:UnifyS S) {σ:Store} {p m q c:Nat} {K:Kn} (hK:∀ x∈K,Fine x.2) (h:SB σ p m q (esK K 0) c):∀ (d:Nat) (t u:Ty),Fine t→applyF d K t=some u→∃ N,∀ n,N≤n→TS S n n_40 [.ptr p 0,dTy t] σ=some (.ret ⟨false,dTy u⟩,σ)
 | 0,_,_,_,hq=>by cases hq
 | d + 1,t,u,ht,hq=>by
  simp only [applyF] at hq
  cases h1:lookF (d + 1) K t with
  | none=>rw [h1] at hq; cases hq
  | some v =>
   rw [h1] at hq
   simp only [Option.bind_some] at hq
   have hv:=zd6 hK ht h1
   cases h2:mapF (applyF d K) v.as_ with
   | none=>rw [h2] at hq; cases hq
   | some l =>
    rw [h2] at hq
    cases hq
    have hlen:=zwy h2
    obtain ⟨N0,hN⟩:=zfeb v.as_.length (fun i n=>∀ (hi:i < v.as_.length) (hj:i < l.length),TS S n n_40 [.ptr p 0,dTy v.as_[i]] σ=some (.ret ⟨false,dTy l[i]⟩,σ)) (fun i hi=>by
     obtain ⟨N,hN⟩:=apply_run hS hK h d v.as_[i] l[i] (hv.sub _ (List.getElem_mem hi)) (zwx h2 i hi (by omega))
     exact ⟨N,fun n hn _ _=>hN n hn⟩)
    have hfew:=hv.few
    have he:=zixb hS (.fn (.func n_40) [.ptr p 0] []) n_40 [.ptr p 0] rfl v.as_ l σ (by omega) hlen.symm N0 (fun i hi hj n hn=>hN i hi n hn hi hj)
    refine ⟨N0 + v.as_.length + d + 20,fun n hn=>?_⟩
    obtain ⟨n,rfl⟩:∃ k,n=k + 2:=⟨n - 2,by omega⟩
    rw [zbe (af:=a_163) hS.2.2.1 rfl rfl]
    have hl:=zem hS h h1 n (by omega)
    have he:=he (n + 1) (by omega)
    have eu:dTy (.mk v.f v.n v.s l)=.agg [.int .i64 v.f,.int .i64 v.n,.str v.s,dTl l]:=zap _
    rw [eu]
    simp only [zap,zaq] at hl
    generalize ow v.as_.length=o at *
    simp only [a_163,sA,seval,kn,onel,zap,zaq,hl,he]
end Go.Fu.U
namespace Go.Fu.U
open Go Go.Mx Go.Fu
set_option maxRecDepth 100000
set_option maxHeartbeats 1000000
section
variable {C:CallF} {n:Nat} {σ:Store}
def Exg (L:List Ty) (g:D) (i:Nat):Env:={slots:=[(0,⟨false,dTl L⟩),(1,⟨false,g⟩),(7,⟨false,.int .i64 L.length⟩),(8,⟨false,.int .i64 i⟩)],locs:=[],boxes:=[],defers:=[]}
theorem zoub (L:List Ty) (g:D) (fid:Nat) (ca:List D) (hg:D.fn? g=some (fid,[],ca)) (i:Nat) (h:i < L.length) (hl:L.length < 1000000000) {σ':Store} (h1:C fid (dTy L[i] :: ca) σ=some (.ret ⟨false,.bool false⟩,σ')):exec C n none a_56 (Exg L g i) σ=some (.normal,Exg L g (i + 1),σ'):=by
 have hlt:((i:Int) < (L.length:Int)):=by omega
 have w:=zaj (i:=i) (by omega)
 have hx:=idx_T L i h
 generalize L[i]=f at hx h1
 simp only [zap,zaq] at hx h1
 simp only [a_56,Exg,sA,seval,kn,onel,hlt,natI,hx,hg,h1,w]
theorem zovb (L:List Ty) (g:D) (fid:Nat) (ca:List D) (hg:D.fn? g=some (fid,[],ca)) (i:Nat) (h:i < L.length) {σ':Store} (h1:C fid (dTy L[i] :: ca) σ=some (.ret ⟨false,.bool true⟩,σ')):exec C n none a_56 (Exg L g i) σ=some (.ret,{slots:=[(4,⟨false,.int .i64 i⟩)],locs:=[],boxes:=[],defers:=[]},σ'):=by
 have hlt:((i:Int) < (L.length:Int)):=by omega
 have hx:=idx_T L i h
 generalize L[i]=f at hx h1
 simp only [zap,zaq] at hx h1
 simp only [a_56,Exg,sA,seval,kn,onel,hlt,natI,hx,hg,h1]
theorem zqdb (L:List Ty) (g:D):exec C n none a_56 (Exg L g L.length) σ=some (.exit 0,{slots:=[(0,⟨false,dTl L⟩),(1,⟨false,g⟩),(7,⟨false,.int .i64 L.length⟩),(8,⟨false,.int .i64 L.length⟩),(9,⟨false,.bool false⟩)],locs:=[],boxes:=[],defers:=[]},σ):=by
 have hlt:¬ ((L.length:Int) < (L.length:Int)):=by omega
 simp only [a_56,Exg,sA,seval,kn,onel,hlt]
end
def xgR (L:List Ty) (g:D) (σ:Store):Option Nat→AExit × Env × Store
 | none=>(.exit 0,{slots:=[(0,⟨false,dTl L⟩),(1,⟨false,g⟩),(7,⟨false,.int .i64 L.length⟩),(8,⟨false,.int .i64 L.length⟩),(9,⟨false,.bool false⟩)],locs:=[],boxes:=[],defers:=[]},σ)
 | some i=>(.ret,{slots:=[(4,⟨false,.int .i64 i⟩)],locs:=[],boxes:=[],defers:=[]},σ)
theorem zclb {S:Specs} (L:List Ty) (g:D) (fid:Nat) (ca:List D) (hg:D.fn? g=some (fid,[],ca)) (hL:L.length < 1000000) (q:Ty→Option Bool) (Inv:Store→Prop) (hI:∀ σ σ',Inv σ→Fr σ σ'→Inv σ')
  (hC:∀ i (hi:i < L.length) b,q L[i]=some b→∀ σ,Inv σ→∃ σ',Fr σ σ'∧∃ N,∀ n,N≤n→TS S n fid (dTy L[i] :: ca) σ=some (.ret ⟨false,.bool b⟩,σ')) (b:Bool):∀ (k i:Nat),i + k=L.length→anyF q (L.drop i)=some b→∀ σ,Inv σ→∃ σ' r,Fr σ σ'∧r.isSome=b∧∃ N,∀ n m,N≤n→N≤m→loopN (exec (TS S n) n none a_56) m (Exg L g i) σ=some (xgR L g σ' r)
 | 0,i,h,ha,σ,hσ=>by
  have:i=L.length:=by omega
  subst this
  rw [List.drop_length] at ha
  cases ha
  refine ⟨σ,none,Fr.refl σ,rfl,1,fun n m _ hm=>?_⟩
  obtain ⟨m,rfl⟩:∃ k,m=k + 1:=⟨m - 1,by omega⟩
  exact ziu (zqdb L g)
 | k + 1,i,h,ha,σ,hσ=>by
  have hi:i < L.length:=by omega
  rw [List.drop_eq_getElem_cons hi] at ha
  simp only [anyF] at ha
  cases h1:q L[i] with
  | none=>rw [h1] at ha; cases ha
  | some b1 =>
   rw [h1] at ha
   simp only [Option.bind_some] at ha
   obtain ⟨σ1,f1,N1,r1⟩:=hC i hi b1 h1 σ hσ
   cases b1 with
   | true =>
    cases ha
    refine ⟨σ1,some i,f1,rfl,N1 + 1,fun n m hn hm=>?_⟩
    obtain ⟨m,rfl⟩:∃ k,m=k + 1:=⟨m - 1,by omega⟩
    exact zgi (zovb L g fid ca hg i hi (r1 n (by omega)))
   | false =>
    obtain ⟨σ2,r,f2,hr,N2,r2⟩:=zclb L g fid ca hg hL q Inv hI hC b k (i + 1) (by omega) (by simpa using ha) σ1 (hI _ _ hσ f1)
    refine ⟨σ2,r,f1.trans f2,hr,N1 + N2 + 1,fun n m hn hm=>?_⟩
    obtain ⟨m,rfl⟩:∃ k,m=k + 1:=⟨m - 1,by omega⟩
    rw [ziv (zoub L g fid ca hg i hi (by omega) (r1 n (by omega)))]
    exact r2 n m (by omega) (by omega)
theorem zo2b {S:Specs} (hS:UnifyS S) (L:List Ty) (g:D) (fid:Nat) (ca:List D) (hg:D.fn? g=some (fid,[],ca)) (hL:L.length < 1000000) (q:Ty→Option Bool) (Inv:Store→Prop) (hI:∀ σ σ',Inv σ→Fr σ σ'→Inv σ')
  (hC:∀ i (hi:i < L.length) b,q L[i]=some b→∀ σ,Inv σ→∃ σ',Fr σ σ'∧∃ N,∀ n,N≤n→TS S n fid (dTy L[i] :: ca) σ=some (.ret ⟨false,.bool b⟩,σ')) (b:Bool) (ha:anyF q L=some b) (σ:Store) (hσ:Inv σ):∃ σ',Fr σ σ'∧∃ N,∀ n,N≤n→TS S n n_195 [dTl L,g] σ=some (.ret ⟨false,.bool b⟩,σ'):=by
 obtain ⟨σ',r,f,hr,N,h⟩:=zclb L g fid ca hg hL q Inv hI hC b L.length 0 (by omega) (by simpa using ha) σ hσ
 refine ⟨σ',f,N + 2,fun n hn=>?_⟩
 obtain ⟨n,rfl⟩:∃ k,n=k + 2:=⟨n - 2,by omega⟩
 have h:=h n n (by omega) (by omega)
 simp only [Exg,zeroI] at h
 have hlen:=len_T L
 rw [zbe (af:=a_112) hS.2.2.2.2.2.1 rfl rfl]
 cases r with
 | none =>
  have hb:b=false:=hr.symm
  subst hb
  simp only [xgR] at h
  have h2:TS S (n + 1) n_178 [dTl L,g] σ=some (.ret ⟨false,.int .i64 (-1)⟩,σ'):=by
   rw [zbe (af:=a_88) hS.2.2.2.2.2.2.1 rfl rfl]
   simp only [a_88,sA,seval,kn,onel,hlen,h]
  have hv:¬ (-1:Int) ≥ 0:=by omega
  simp only [a_112,sA,seval,kn,onel,h2,hv]
 | some i =>
  have hb:b=true:=hr.symm
  subst hb
  simp only [xgR] at h
  have h2:TS S (n + 1) n_178 [dTl L,g] σ=some (.ret ⟨false,.int .i64 i⟩,σ'):=by
   rw [zbe (af:=a_88) hS.2.2.2.2.2.2.1 rfl rfl]
   simp only [a_88,sA,seval,kn,onel,hlen,h]
  have hv:(i:Int) ≥ 0:=by omega
  simp only [a_112,sA,seval,kn,onel,h2,hv]
theorem fr_GA (σ:Store) (t:Nat) (cs:List Cell):Fr σ (GA σ t cs) :=
 ⟨Nat.le_succ _,fun j hj=>agC _ _ _ _ (by omega),fun _ _=>rfl,fun j hj=>agC _ _ _ _ (by omega)⟩
theorem fr_GM (σ:Store) (x:Oth):Fr σ (GM σ x) :=
 ⟨Nat.le_succ _,fun _ _=>rfl,fun j hj=>agC _ _ _ _ (by omega),fun _ _=>rfl⟩
theorem zsd {S:Specs} (hS:UnifyS S) {p m q c:Nat} {K:Kn} (hK:∀ x∈K,Fine x.2) {k:Int}:∀ (d:Nat) (t:Ty) (b:Bool),Fine t→withinF d K k t=some b→∀ σ,SB σ p m q (esK K 0) c→∃ σ',Fr σ σ'∧∃ N,∀ n,N≤n→TS S n n_127 [.ptr p 0,.int .i64 k,dTy t] σ=some (.ret ⟨false,.bool b⟩,σ')
 | 0,_,_,_,h,_,_=>by cases h
 | d + 1,t,b,ht,h,σ,hB=>by
  simp only [withinF] at h
  cases h1:lookF (d + 1) K t with
  | none=>rw [h1] at h; cases h
  | some u =>
   rw [h1] at h
   simp only [Option.bind_some] at h
   have hu:=zd6 hK ht h1
   obtain ⟨τ,hτ⟩:∃ τ,τ=GA (GA σ t_129 [⟨false,.ptr p 0⟩]) t_int [⟨false,.int .i64 k⟩]:=⟨_,rfl⟩
   have fτ:Fr σ τ:=by rw [hτ]; exact (fr_GA _ _ _).trans (fr_GA _ _ _)
   have hB1:=hB.fr fτ
   have o1:aget τ.objs σ.next=some [⟨false,.ptr p 0⟩]:=by
    rw [hτ]
    exact (agC _ _ _ _ (by show σ.next + 1≠σ.next; omega)).trans (agS _ _ _)
   have o2:aget τ.objs (σ.next + 1)=some [⟨false,.int .i64 k⟩]:=by
    rw [hτ]
    exact agS _ _ _
   have n2:τ.next=σ.next + 2:=by rw [hτ]; rfl
   have hg1:memOp (.gbox t_129 (.tmp 0)) {slots:=[(0,⟨false,.ptr p 0⟩),(1,⟨false,.int .i64 k⟩),(2,⟨false,dTy t⟩)],locs:=[],boxes:=[],defers:=[]} σ=some (.ptr σ.next 0,GA σ t_129 [⟨false,.ptr p 0⟩]):=rfl
   have hg2:memOp (.gbox t_int (.tmp 1)) {slots:=[(0,⟨false,.ptr p 0⟩),(1,⟨false,.int .i64 k⟩),(2,⟨false,dTy t⟩),(3,⟨false,.ptr σ.next 0⟩)],locs:=[],boxes:=[],defers:=[]} (GA σ t_129 [⟨false,.ptr p 0⟩])=some (.ptr (σ.next + 1) 0,τ):=by rw [hτ]; rfl
   by_cases hc:u.f=1∧u.n=k
   ·rw [if_pos hc] at h
    cases h
    have b1:(u.f == 1)=true:=by rw [hc.1]; rfl
    have b2:(u.n == k)=true:=by rw [hc.2]; simp
    refine ⟨τ,fτ,d + 20,fun n hn=>?_⟩
    obtain ⟨n,rfl⟩:∃ k,n=k + 2:=⟨n - 2,by omega⟩
    rw [zbe (af:=a_72) hS.2.2.2.1 rfl rfl]
    have hl:=zem hS hB1 h1 n (by omega)
    simp only [zap,zaq] at hl hg1 hg2
    simp only [a_72,sA,seval,kn,onel,zap,zaq,memE,hg1,hg2,hl,o1,o2,b1,b2]
   ·rw [if_neg hc] at h
    have hI:∀ σ1 σ2,(SB σ1 p m q (esK K 0) c∧aget σ1.objs σ.next=some [⟨false,.ptr p 0⟩]∧aget σ1.objs (σ.next + 1)=some [⟨false,.int .i64 k⟩]∧σ.next + 2≤σ1.next)→Fr σ1 σ2→(SB σ2 p m q (esK K 0) c∧aget σ2.objs σ.next=some [⟨false,.ptr p 0⟩]∧aget σ2.objs (σ.next + 1)=some [⟨false,.int .i64 k⟩]∧σ.next + 2≤σ2.next):=by
     rintro σ1 σ2 ⟨g1,g2,g3,g4⟩ f
     exact ⟨g1.fr f,(f.objs _ (by omega)).trans g2,(f.objs _ (by omega)).trans g3,Nat.le_trans g4 f.le⟩
    obtain ⟨σ',f',N,hN⟩:=zo2b hS u.as_ (.fn (.func n_183) [] [.ptr σ.next 0,.ptr (σ.next + 1) 0]) n_183 [.ptr σ.next 0,.ptr (σ.next + 1) 0] rfl (by have:=hu.few; omega) (withinF d K k) _ hI (fun i hi b1 hb1 σ1 hσ1=>by
     obtain ⟨g1,g2,g3,g4⟩:=hσ1
     obtain ⟨σ2,f2,N2,r2⟩:=zsd hS hK d u.as_[i] b1 (hu.sub _ (List.getElem_mem hi)) hb1 σ1 g1
     refine ⟨σ2,f2,N2 + 1,fun n hn=>?_⟩
     obtain ⟨n,rfl⟩:∃ k,n=k + 1:=⟨n - 1,by omega⟩
     have r2:=r2 n (by omega)
     rw [zbe (af:=a_166) hS.2.2.2.2.1 rfl rfl]
     generalize u.as_[i]=v at *
     simp only [zap,zaq] at r2
     simp only [a_166,sA,seval,kn,onel,zap,zaq,g2,g3,r2]) b h τ ⟨hB1,o1,o2,by omega⟩
    refine ⟨σ',fτ.trans f',N + d + 20,fun n hn=>?_⟩
    obtain ⟨n,rfl⟩:∃ k,n=k + 2:=⟨n - 2,by omega⟩
    rw [zbe (af:=a_72) hS.2.2.2.1 rfl rfl]
    have hl:=zem hS hB1 h1 n (by omega)
    have hN:=hN (n + 1) (by omega)
    simp only [zap,zaq] at hl hg1 hg2
    cases b1:u.f == 1 with
    | true =>
     have b2:(u.n == k)=false:=by
      cases e:u.n == k with
      | false=>rfl
      | true=>exact absurd ⟨eq_of_beq b1,eq_of_beq e⟩ hc
     simp only [a_72,sA,seval,kn,onel,zap,zaq,memE,hg1,hg2,hl,o1,o2,b1,b2,hN]
    | false =>
     simp only [a_72,sA,seval,kn,onel,zap,zaq,memE,hg1,hg2,hl,o1,o2,b1,hN]
end Go.Fu.U
