/-
 Canonic forms are the same,whatever the names of the variables.
-/
import Derived.Test.YtieacpoabejcoaaGreatDoorFsX18
import Derived.Test.YtieacpoabejcoaaGreatDoorFsG2
import Derived.Test.YtieacpoabejcoaaGreatDoorFsX0
import Derived.Test.YtieacpoabejcoaaGreatDoorFsX4
set_option maxHeartbeats 4000000
set_option linter.unusedSimpArgs false
set_option linter.unusedVariables false
set_option linter.unusedSectionVars false
namespace Go.Fu
open Go Go.Mx
set_option maxRecDepth 10000
theorem zel {s:List UInt8} {l:List (List UInt8)}:l.contains s=true↔s∈l:=by simp
theorem zpt (s:List UInt8):∀ (l out:List (List UInt8)),s∈addA out l↔s∈out∨s∈l
 | [],out=>by simp [addA]
 | x :: l,out=>by
  have ih:=zpt s l (if out.contains x then out else out ++ [x])
  show s∈addA (if out.contains x then out else out ++ [x]) l↔_
  rw [ih]
  by_cases h:out.contains x=true
  ·rw [if_pos h]
   have:=zel.1 h
   constructor
   ·rintro (h1 | h1)
    ·exact .inl h1
    ·exact .inr (List.mem_cons_of_mem _ h1)
   ·rintro (h1 | h1)
    ·exact .inl h1
    ·rcases List.mem_cons.1 h1 with rfl | h1
     ·exact .inl this
     ·exact .inr h1
  ·rw [if_neg h]
   simp only [List.mem_append,List.mem_cons,List.not_mem_nil,or_false]
   constructor
   ·rintro ((h1 | h1) | h1)
    ·exact .inl h1
    ·exact .inr (.inl h1)
    ·exact .inr (.inr h1)
   ·rintro (h1 | h1 | h1)
    ·exact .inl (.inl h1)
    ·exact .inl (.inr h1)
    ·exact .inr h1
theorem zcs (s:List UInt8) (f a:Tp):s∈freeT (.app f a)↔s∈freeT f∨s∈freeT a:=by
 simp only [freeT,zpt,List.not_mem_nil,false_or]
theorem zz8 {s:List UInt8} {l:List (List UInt8)} (h:s∈l):∃ i,posS s l=some i:=by
 have:=zme (s:=s) (l:=l)
 rw [zel.2 h] at this
 exact Option.isSome_iff_exists.1 this
theorem zpg {s:List UInt8} {l:List (List UInt8)} (h:¬ s∈l):posS s l=none:=by
 have:=zme (s:=s) (l:=l)
 cases hp:posS s l with
 | none=>rfl
 | some i =>
  rw [hp] at this
  exact absurd (zel.1 this.symm) h
theorem zer (vs:List (List UInt8)) (s:List UInt8):∀ (l ns:List (List UInt8)),s∈meetL vs ns l↔s∈ns∨(s∈l∧s∈vs)
 | [],ns=>by simp [meetL]
 | x :: l,ns=>by
  have ih:=zer vs s l (if vs.contains x && !(ns.contains x) then ns ++ [x] else ns)
  show s∈meetL vs (if vs.contains x && !(ns.contains x) then ns ++ [x] else ns) l↔_
  rw [ih]
  by_cases hv:x∈vs
  ·by_cases hn:x∈ns
   ·have hc:(vs.contains x && !(ns.contains x))=false:=by simp [hn]
    rw [hc,if_neg (by simp)]
    constructor
    ·rintro (h | h)
     ·exact .inl h
     ·exact .inr ⟨List.mem_cons_of_mem _ h.1,h.2⟩
    ·rintro (h | ⟨h,h2⟩)
     ·exact .inl h
     ·rcases List.mem_cons.1 h with rfl | h
      ·exact .inl hn
      ·exact .inr ⟨h,h2⟩
   ·have hc:(vs.contains x && !(ns.contains x))=true:=by simp [hn,hv]
    rw [hc,if_pos rfl]
    constructor
    ·rintro (h | h)
     ·rcases List.mem_append.1 h with h | h
      ·exact .inl h
      ·rw [List.mem_singleton.1 h]; exact .inr ⟨by simp,hv⟩
     ·exact .inr ⟨List.mem_cons_of_mem _ h.1,h.2⟩
    ·rintro (h | ⟨h,h2⟩)
     ·exact .inl (List.mem_append.2 (.inl h))
     ·rcases List.mem_cons.1 h with rfl | h
      ·exact .inl (List.mem_append.2 (.inr (by simp)))
      ·exact .inr ⟨h,h2⟩
  ·have hc:(vs.contains x && !(ns.contains x))=false:=by simp [hv]
   rw [hc,if_neg (by simp)]
   constructor
   ·rintro (h | h)
    ·exact .inl h
    ·exact .inr ⟨List.mem_cons_of_mem _ h.1,h.2⟩
   ·rintro (h | ⟨h,h2⟩)
    ·exact .inl h
    ·rcases List.mem_cons.1 h with rfl | h
     ·exact absurd h2 hv
     ·exact .inr ⟨h,h2⟩
theorem zpmb {vs:List (List UInt8)} {ps:List Pr} {t:Tp}:(∀ s∈freeT t,s∈vs→s∈nmI vs t ps)∧∀ p∈ps,∀ s∈freeT p.ty,s∈vs→s∈nmI vs t ps:=by
 have mono:∀ (l:List Pr) (ns:List (List UInt8)) (s:List UInt8),s∈ns→s∈l.foldl (fun ns p=>meetL vs ns (freeT p.ty)) ns:=by
  intro l
  induction l with
  | nil=>intro ns s h; exact h
  | cons p l ih=>intro ns s h; exact ih _ s ((zer vs s _ _).2 (.inl h))
 refine ⟨fun s hs hv=>mono ps _ s ((zer vs s _ _).2 (.inr ⟨hs,hv⟩)),?_⟩
 have key:∀ (l:List Pr) (ns:List (List UInt8)),∀ p∈l,∀ s∈freeT p.ty,s∈vs→s∈l.foldl (fun ns p=>meetL vs ns (freeT p.ty)) ns:=by
  intro l
  induction l with
  | nil=>intro ns p hp; simp at hp
  | cons q l ih =>
   intro ns p hp s hs hv
   rcases List.mem_cons.1 hp with rfl | hp
   ·exact mono l _ s ((zer vs s _ _).2 (.inr ⟨hs,hv⟩))
   ·exact ih _ p hp s hs hv
 exact key ps _
theorem zyd:∀ t:Tp,szT t=10 * nT t
 | .var s=>rfl
 | .con s=>rfl
 | .hole x=>rfl
 | .app f a=>by simp only [szT,nT,zyd f,zyd a]; omega
theorem subV (ns L:List (List UInt8)) (s:List UInt8):∃ s',subT ns (L.map Tp.var) (.var s)=.var s'∧(s'=s∨s'∈L):=by
 unfold subT
 cases hp:posS s ns with
 | none=>exact ⟨s,rfl,.inl rfl⟩
 | some i =>
  by_cases h:i < L.length
  ·have h1:i < (L.map Tp.var).length:=by rw [List.length_map]; exact h
   refine ⟨L[i],?_,.inr (List.getElem_mem h)⟩
   simp only [List.getD_eq_getElem?_getD,List.getElem?_eq_getElem h1,Option.getD_some,List.getElem_map]
  ·refine ⟨s,?_,.inl rfl⟩
   have h1:(L.map Tp.var)[i]?=none:=by rw [List.getElem?_eq_none]; rw [List.length_map]; omega
   simp only [List.getD_eq_getElem?_getD,h1,Option.getD_none]
theorem zyb (ns L:List (List UInt8)):∀ u:Tp,nT (subT ns (L.map Tp.var) u)=nT u
 | .con c=>rfl
 | .hole x=>rfl
 | .app f a=>by simp only [subT,nT,zyb ns L f,zyb ns L a]
 | .var s=>by
  obtain ⟨s',h1,_⟩:=subV ns L s
  rw [h1]
  rfl
theorem zocb (t:Tp) (ps:List Pr) (B:Nat) (ht:nT t≤B) (hp:∀ p∈ps,nT p.ty≤B):(othA t ps).length≤B * (ps.length + 1):=by
 have h1:=zda t
 have:∀ l:List Pr,(∀ p∈l,nT p.ty≤B)→(l.flatMap fun p=>freeT p.ty).length≤B * l.length:=by
  intro l
  induction l with
  | nil=>intro _; simp
  | cons p l ih =>
   intro h
   have h2:=ih fun x hx=>h x (List.mem_cons_of_mem _ hx)
   have h3:=zda p.ty
   have h4:=h p (by simp)
   simp only [List.flatMap_cons,List.length_append,List.length_cons,Nat.mul_succ]
   omega
 have h2:=this ps hp
 unfold othA
 rw [List.length_append,Nat.mul_succ]
 omega
theorem zpnb (vs:List (List UInt8)) (t:Tp) (ps:List Pr) (B:Nat) (ht:nT t≤B) (hp:∀ p∈ps,nT p.ty≤B):(nmI vs t ps).length≤B * (ps.length + 1):=by
 have key:∀ (l:List Pr) (ns:List (List UInt8)),(∀ p∈l,nT p.ty≤B)→(l.foldl (fun ns p=>meetL vs ns (freeT p.ty)) ns).length≤ns.length + B * l.length:=by
  intro l
  induction l with
  | nil=>intro ns _; simp
  | cons p l ih =>
   intro ns h
   have h1:=ih (meetL vs ns (freeT p.ty)) fun x hx=>h x (List.mem_cons_of_mem _ hx)
   have h2:=zhw vs (freeT p.ty) ns
   have h3:=zda p.ty
   have h4:=h p (by simp)
   simp only [List.foldl_cons,List.length_cons,Nat.mul_succ]
   omega
 have h1:=key ps (meetL vs [] (freeT t)) hp
 have h2:=zhw vs (freeT t) []
 have h3:=zda t
 unfold nmI
 simp only [List.length_nil] at h2
 rw [Nat.mul_succ]
 omega
theorem zisb (vs:List (List UInt8)) (ps:List Pr) (t:Tp) (hv:vs.length < 1000) (hp:ps.length≤4) (ht:nT t≤125) (hts:∀ p∈ps,nT p.ty≤125) (hnx:∀ i,i < (cNs vs ps t).length→Nx (cTl vs ps t) (kk (cTl vs ps t) i) (nxt (cTl vs ps t) (kk (cTl vs ps t) i))∧nxt (cTl vs ps t) (kk (cTl vs ps t) i) < 26)
  (hok:∀ p∈ps.map (putP (cNs vs ps t) ((cLs vs ps t).map Tp.var)),okP p) (hne:cNs vs ps t≠[]→vs.length≠0):CanOK vs ps t:=by
 have hsub:∀ i,∀ p∈ps.take i,nT p.ty≤125:=fun i p hp=>hts p (List.mem_of_mem_take hp)
 refine ⟨hv,by omega,by omega,fun p hp=>by have:=hts p hp; omega,fun i hi=>?_,fun i hi=>?_,hnx,hok,hne⟩
 ·have:=zocb t (ps.take i) 125 ht (hsub i)
  rw [List.length_take] at this
  have h2:min i ps.length + 1≤5:=by omega
  have h3:125 * (min i ps.length + 1)≤125 * 5:=Nat.mul_le_mul_left _ h2
  omega
 ·have:=zpnb vs t (ps.take i) 125 ht (hsub i)
  rw [List.length_take] at this
  have h2:min i ps.length + 1≤5:=by omega
  have h3:125 * (min i ps.length + 1)≤125 * 5:=Nat.mul_le_mul_left _ h2
  omega
theorem zpkb:∀ k,k < 26→ltr k∈V5→k=0∨k=1∨k=2∨k=5∨k=23:=by
 have:∀ k,k < 26→V5.contains (ltr k)=true→(k=0∨k=1∨k=2∨k=5∨k=23):=by decide +kernel
 intro k hk h
 exact this k hk (zel.2 h)
theorem zw7 (tl:List (List UInt8)):∀ (f k j:Nat),j < f→tl.contains (ltr (k + j))=false→Nx tl k (nxF tl f k)∧nxF tl f k≤k + j
 | 0,k,j,hj,_=>by omega
 | f + 1,k,j,hj,h=>by
  unfold nxF
  cases hc:tl.contains (ltr k) with
  | false =>
   rw [if_neg (by simp)]
   exact ⟨⟨Nat.le_refl _,fun i h1 h2=>by omega,hc⟩,by omega⟩
  | true =>
   rw [if_pos rfl]
   have hj0:j≠0:=fun e=>by subst e; rw [Nat.add_zero] at h; rw [h] at hc; cases hc
   have ih:=zw7 tl f (k + 1) (j - 1) (by omega) (by rw [show k + 1 + (j - 1)=k + j by omega]; exact h)
   refine ⟨⟨by have:=ih.1.le; omega,fun i h1 h2=>?_,ih.1.free⟩,by have:=ih.2; omega⟩
   by_cases hi:i=k
   ·rw [hi]; exact hc
   ·exact ih.1.taken i (by omega) h2
theorem nx_ok (tl:List (List UInt8)) (h5:∀ s∈tl,s∈V5) (k:Nat) (hk:k≤22):Nx tl k (nxt tl k)∧nxt tl k≤k + 3∧nxt tl k < 26:=by
 have hj:∃ j,j≤3∧tl.contains (ltr (k + j))=false:=by
  have key:∀ k,k≤22→∃ j,j≤3∧¬ (k + j=0∨k + j=1∨k + j=2∨k + j=5∨k + j=23):=by
   intro k hk
   by_cases h:k≤2
   ·exact ⟨3 - k,by omega,by omega⟩
   ·by_cases h5:k=5
    ·exact ⟨1,by omega,by omega⟩
    ·exact ⟨0,by omega,by omega⟩
  obtain ⟨j,hj,hn⟩:=key k hk
  refine ⟨j,hj,?_⟩
  cases hc:tl.contains (ltr (k + j)) with
  | false=>rfl
  | true=>exact absurd (zpkb (k + j) (by omega) (h5 _ (zel.1 hc))) hn
 obtain ⟨j,hj,hc⟩:=hj
 have:=zw7 tl 30 k j (by omega) hc
 exact ⟨this.1,by have:=this.2; unfold nxt; omega,by have:=this.2; unfold nxt; omega⟩
theorem kk_le (tl:List (List UInt8)) (h5:∀ s∈tl,s∈V5):∀ i,i≤5→kk tl i≤4 * i
 | 0,_=>Nat.le_refl _
 | i + 1,h=>by
  have ih:=kk_le tl h5 i (by omega)
  have:=(nx_ok tl h5 (kk tl i) (by omega)).2.1
  simp only [kk]; omega
theorem zg8b (tl:List (List UInt8)) (h5:∀ s∈tl,s∈V5) (i:Nat) (hi:i < 6):Nx tl (kk tl i) (nxt tl (kk tl i))∧nxt tl (kk tl i) < 26:=by
 have h1:=kk_le tl h5 i (by omega)
 have:=nx_ok tl h5 (kk tl i) (by omega)
 exact ⟨this.1,this.2.2⟩
theorem zpjb:∀ k,k < 26→okV (ltr k)=true:=by decide +kernel
theorem zb6b (tl:List (List UInt8)) (h5:∀ s∈tl,s∈V5):∀ n,n≤6→∀ s∈lets tl n,okV s=true
 | 0,_,s,h=>by simp [lets] at h
 | n + 1,hn,s,h=>by
  simp only [lets,List.mem_append,List.mem_singleton] at h
  rcases h with h | rfl
  ·exact zb6b tl h5 n (by omega) s h
  ·exact zpjb _ (zg8b tl h5 n (by omega)).2
theorem zkh (vs:List (List UInt8)):∀ (l ns:List (List UInt8)),ns.Nodup→(meetL vs ns l).Nodup
 | [],ns,h=>h
 | x :: l,ns,h=>by
  show (meetL vs (if vs.contains x && !(ns.contains x) then ns ++ [x] else ns) l).Nodup
  refine zkh vs l _ ?_
  by_cases hc:(vs.contains x && !(ns.contains x))=true
  ·rw [if_pos hc]
   simp only [Bool.and_eq_true,Bool.not_eq_true'] at hc
   rw [List.nodup_append]
   refine ⟨h,by simp,fun a ha b hb e=>?_⟩
   rw [List.mem_singleton.1 hb] at e
   rw [e] at ha
   rw [zel.2 ha] at hc
   cases hc.2
  ·rw [if_neg hc]; exact h
theorem zkwb (vs:List (List UInt8)) (t:Tp) (ps:List Pr):(nmI vs t ps).Nodup:=by
 have key:∀ (l:List Pr) (ns:List (List UInt8)),ns.Nodup→(l.foldl (fun ns p=>meetL vs ns (freeT p.ty)) ns).Nodup:=by
  intro l
  induction l with
  | nil=>intro ns h; exact h
  | cons p l ih=>intro ns h; exact ih _ (zkh vs _ ns h)
 exact key ps _ (zkh vs _ [] List.nodup_nil)
structure SQ (vs:List (List UInt8)) (ps:List Pr) (t:Tp):Prop where
 vl:vs.length≤6
 pl:ps.length≤4
 tn:nT t≤125
 pn:∀ p∈ps,nT p.ty≤125
 tf:∀ s∈freeT t,s∈vs∨s∈V5
 pf:∀ p∈ps,∀ s∈freeT p.ty,s∈vs∨s∈V5
 ps:∀ p∈ps,smT p.ty=true
theorem zsz {s:List UInt8} (h:okV s=true):s.length=1:=by
 obtain ⟨c,rfl,_⟩:=znwb h
 rfl
theorem ztk (ns L:List (List UInt8)) (hL:∀ s∈L,okV s=true):∀ u:Tp,smT u=true→smT (subT ns (L.map Tp.var) u)=true
 | .con c,h=>h
 | .hole x,h=>h
 | .app f a,h=>by
  simp only [smT,Bool.and_eq_true] at h
  simp only [subT,smT,Bool.and_eq_true]
  exact ⟨ztk ns L hL f h.1,ztk ns L hL a h.2⟩
 | .var s,h=>by
  obtain ⟨s',h1,h2⟩:=subV ns L s
  rw [h1]
  rcases h2 with rfl | h2
  ·exact h
  ·have:=zsz (hL s' h2)
   simp only [smT,decide_eq_true_eq]; omega
theorem nm_vs (vs:List (List UInt8)) (t:Tp) (ps:List Pr):∀ s∈nmI vs t ps,s∈vs:=by
 have key:∀ (l:List Pr) (ns:List (List UInt8)),(∀ s∈ns,s∈vs)→∀ s∈l.foldl (fun ns p=>meetL vs ns (freeT p.ty)) ns,s∈vs:=by
  intro l
  induction l with
  | nil=>intro ns h s hs; exact h s hs
  | cons p l ih =>
   intro ns h s hs
   exact ih (meetL vs ns (freeT p.ty)) (fun x hx=>by
    rcases (zer vs x _ _).1 hx with h1 | h1
    ·exact h x h1
    ·exact h1.2) s hs
 exact fun s hs=>key ps (meetL vs [] (freeT t)) (fun x hx=>by
  rcases (zer vs x _ _).1 hx with h1 | h1
  ·simp at h1
  ·exact h1.2) s hs
theorem SQ.n6 {vs:List (List UInt8)} {ps:List Pr} {t:Tp} (H:SQ vs ps t):(cNs vs ps t).length≤6:=by
 have h1:(cNs vs ps t).length≤vs.length:=List.Nodup.length_le_of_subset (zkwb vs t ps) (fun s hs=>nm_vs vs t ps s hs)
 have:=H.vl
 omega
theorem SQ.tl5 {vs:List (List UInt8)} {ps:List Pr} {t:Tp} (H:SQ vs ps t):∀ s∈cTl vs ps t,s∈V5:=fun s hs=>by
 obtain ⟨hm,hv⟩:=List.mem_filter.1 hs
 have hv:¬ s∈vs:=fun h=>by rw [zel.2 h] at hv; cases hv
 unfold othA at hm
 rcases List.mem_append.1 hm with h | h
 ·exact (H.tf s h).resolve_left hv
 ·obtain ⟨p,hp,hm⟩:=List.mem_flatMap.1 h
  exact (H.pf p hp s hm).resolve_left hv
theorem SQ.lok {vs:List (List UInt8)} {ps:List Pr} {t:Tp} (H:SQ vs ps t):∀ s∈cLs vs ps t,okV s=true:=zb6b _ H.tl5 _ H.n6
theorem SQ.can {vs:List (List UInt8)} {ps:List Pr} {t:Tp} (H:SQ vs ps t):CanOK vs ps t:=by
 refine zisb vs ps t (by have:=H.vl; omega) H.pl H.tn H.pn (fun i hi=>zg8b _ H.tl5 i (by have:=H.n6; omega)) (fun p hp=>?_) (fun hne he=>?_)
 ·obtain ⟨q,hq,rfl⟩:=List.mem_map.1 hp
  refine ⟨ztk _ _ H.lok q.ty (H.ps q hq),?_⟩
  have h1:=zyb (cNs vs ps t) (cLs vs ps t) q.ty
  have h2:=H.pn q hq
  show szT (subT (cNs vs ps t) ((cLs vs ps t).map Tp.var) q.ty)≤1048576
  rw [zyd,h1]
  omega
 ·apply hne
  have hsub:=nm_vs vs t ps
  cases hc:cNs vs ps t with
  | nil=>rfl
  | cons s r =>
   have:=hsub s (by show s∈cNs vs ps t; rw [hc]; simp)
   rw [List.length_eq_zero_iff.1 he] at this
   simp at this
theorem SQ.cok {vs:List (List UInt8)} {ps:List Pr} {t:Tp} (H:SQ vs ps t):∀ p∈ps.map (putP (cNs vs ps t) ((cLs vs ps t).map Tp.var)),okP p:=H.can.hok
/-! ### Other names -/
def renT (ρ:List UInt8→List UInt8):Tp→Tp
 | .var s=>.var (ρ s)
 | .app f a=>.app (renT ρ f) (renT ρ a)
 | .con c=>.con c
 | .hole x=>.hole x
def renP (ρ:List UInt8→List UInt8) (p:Pr):Pr:=⟨p.cls,renT ρ p.ty⟩
structure RN (A:List UInt8→Prop) (ρ:List UInt8→List UInt8) (vs:List (List UInt8)):Prop where
 inj:∀ a b,A a→A b→ρ a=ρ b→a=b
 out:∀ s,A s→¬ s∈vs→ρ s=s
 own:∀ v∈vs,A v
section
variable {A:List UInt8→Prop} {ρ:List UInt8→List UInt8} {vs:List (List UInt8)}
theorem RN.con (R:RN A ρ vs) {s:List UInt8} (hs:A s) (l:List (List UInt8)) (h:∀ x∈l,A x):(l.map ρ).contains (ρ s)=l.contains s:=by
 rw [Bool.eq_iff_iff,zel,zel,List.mem_map]
 constructor
 ·rintro ⟨x,hx,he⟩
  rw [← R.inj x s (h x hx) hs he]
  exact hx
 ·intro hm
  exact ⟨s,hm,rfl⟩
theorem RN.add (R:RN A ρ vs):∀ (l out:List (List UInt8)),(∀ x∈l,A x)→(∀ x∈out,A x)→addA (out.map ρ) (l.map ρ)=(addA out l).map ρ
 | [],out,_,_=>rfl
 | s :: l,out,h,ho=>by
  have hs:=h s (by simp)
  have hc:=R.con hs out ho
  show addA (if (out.map ρ).contains (ρ s) then out.map ρ else out.map ρ ++ [ρ s]) (l.map ρ)=(addA (if out.contains s then out else out ++ [s]) l).map ρ
  rw [hc]
  cases hcc:out.contains s with
  | true =>
   rw [if_pos rfl,if_pos rfl]
   exact R.add l out (fun x hx=>h x (List.mem_cons_of_mem _ hx)) ho
  | false =>
   rw [if_neg (by simp),if_neg (by simp)]
   have:=R.add l (out ++ [s]) (fun x hx=>h x (List.mem_cons_of_mem _ hx)) (fun x hx=>by
    rcases List.mem_append.1 hx with hx | hx
    ·exact ho x hx
    ·rw [List.mem_singleton.1 hx]; exact hs)
   rw [List.map_append] at this
   exact this
theorem RN.free (R:RN A ρ vs):∀ t:Tp,(∀ s∈freeT t,A s)→freeT (renT ρ t)=(freeT t).map ρ
 | .var s,_=>rfl
 | .con c,_=>rfl
 | .hole x,_=>rfl
 | .app f a,h=>by
  have hf:=fun s hs=>h s ((zcs s f a).2 (.inl hs))
  have ha:=fun s hs=>h s ((zcs s f a).2 (.inr hs))
  have e0:addA ([]:List (List UInt8)) ((freeT f).map ρ)=(addA [] (freeT f)).map ρ:=R.add (freeT f) [] hf (by simp)
  simp only [renT,freeT,R.free f hf,R.free a ha]
  rw [e0,R.add (freeT a) (addA [] (freeT f)) ha (fun x hx=>by
   rcases (zpt x (freeT f) []).1 hx with h1 | h1
   ·simp at h1
   ·exact hf x h1)]
theorem RN.meet (R:RN A ρ vs):∀ (l ns:List (List UInt8)),(∀ x∈l,A x)→(∀ x∈ns,A x)→meetL (vs.map ρ) (ns.map ρ) (l.map ρ)=(meetL vs ns l).map ρ
 | [],ns,_,_=>rfl
 | s :: l,ns,h,ho=>by
  have hs:=h s (by simp)
  have hc:=R.con hs ns ho
  have hv:=R.con hs vs R.own
  show meetL (vs.map ρ) (if (vs.map ρ).contains (ρ s) && !((ns.map ρ).contains (ρ s)) then ns.map ρ ++ [ρ s] else ns.map ρ) (l.map ρ)=(meetL vs (if vs.contains s && !(ns.contains s) then ns ++ [s] else ns) l).map ρ
  rw [hc,hv]
  cases hcc:vs.contains s && !(ns.contains s) with
  | true =>
   rw [if_pos rfl,if_pos rfl]
   have:=R.meet l (ns ++ [s]) (fun x hx=>h x (List.mem_cons_of_mem _ hx)) (fun x hx=>by
    rcases List.mem_append.1 hx with hx | hx
    ·exact ho x hx
    ·rw [List.mem_singleton.1 hx]; exact hs)
   rw [List.map_append] at this
   exact this
  | false =>
   rw [if_neg (by simp),if_neg (by simp)]
   exact R.meet l ns (fun x hx=>h x (List.mem_cons_of_mem _ hx)) ho
theorem RN.keep (R:RN A ρ vs):∀ l:List (List UInt8),(∀ s∈l,A s)→keepV (vs.map ρ) (l.map ρ)=keepV vs l
 | [],_=>rfl
 | s :: l,h=>by
  have hs:=h s (by simp)
  have ih:=R.keep l fun x hx=>h x (List.mem_cons_of_mem _ hx)
  have hv:=R.con hs vs R.own
  unfold keepV at *
  rw [List.map_cons,List.filter_cons,List.filter_cons,hv,ih]
  cases hc:vs.contains s with
  | true=>rfl
  | false =>
   have hn:¬ s∈vs:=fun h=>by rw [zel.2 h] at hc; cases hc
   rw [R.out s hs hn]
theorem RN.oth (R:RN A ρ vs) (t:Tp) (ps:List Pr) (ht:∀ s∈freeT t,A s) (hp:∀ p∈ps,∀ s∈freeT p.ty,A s):othA (renT ρ t) (ps.map (renP ρ))=(othA t ps).map ρ:=by
 unfold othA
 rw [R.free t ht,List.map_append]
 congr 1
 induction ps with
 | nil=>rfl
 | cons p l ih =>
  have h1:=R.free p.ty (hp p (by simp))
  have h2:=ih fun x hx=>hp x (List.mem_cons_of_mem _ hx)
  simp only [List.map_cons,List.flatMap_cons,h2,List.map_append]
  congr 1
theorem RN.nm (R:RN A ρ vs) (t:Tp) (ps:List Pr) (ht:∀ s∈freeT t,A s) (hp:∀ p∈ps,∀ s∈freeT p.ty,A s):nmI (vs.map ρ) (renT ρ t) (ps.map (renP ρ))=(nmI vs t ps).map ρ:=by
 have key:∀ (l:List Pr) (ns:List (List UInt8)),(∀ p∈l,∀ s∈freeT p.ty,A s)→(∀ s∈ns,A s)→(l.map (renP ρ)).foldl (fun ns p=>meetL (vs.map ρ) ns (freeT p.ty)) (ns.map ρ)=(l.foldl (fun ns p=>meetL vs ns (freeT p.ty)) ns).map ρ:=by
  intro l
  induction l with
  | nil=>intro ns _ _; rfl
  | cons p l ih =>
   intro ns h ho
   have hp:=h p (by simp)
   have h1:freeT (renP ρ p).ty=(freeT p.ty).map ρ:=R.free p.ty hp
   have h2:=R.meet (freeT p.ty) ns hp ho
   simp only [List.map_cons,List.foldl_cons,h1,h2]
   exact ih (meetL vs ns (freeT p.ty)) (fun x hx=>h x (List.mem_cons_of_mem _ hx)) (fun x hx=>by
    rcases (zer vs x _ _).1 hx with h3 | h3
    ·exact ho x h3
    ·exact hp x h3.1)
 unfold nmI
 have h0:=R.meet (freeT t) [] ht (by simp)
 rw [R.free t ht]
 simp only [List.map_nil] at h0
 rw [h0]
 exact key ps _ hp (fun x hx=>by
  rcases (zer vs x _ _).1 hx with h3 | h3
  ·simp at h3
  ·exact ht x h3.1)
theorem RN.sub (R:RN A ρ vs) (ns L:List (List UInt8)) (hns:∀ s∈ns,s∈vs) (hL:L.length=ns.length):∀ u:Tp,(∀ s∈freeT u,A s)→(∀ s∈freeT u,s∈vs→s∈ns)→subT (ns.map ρ) (L.map Tp.var) (renT ρ u)=subT ns (L.map Tp.var) u
 | .con c,_,_=>rfl
 | .hole x,_,_=>rfl
 | .app f a,h,ho=>by
  have hf:=R.sub ns L hns hL f (fun s hs=>h s ((zcs s f a).2 (.inl hs))) fun s hs=>ho s ((zcs s f a).2 (.inl hs))
  have ha:=R.sub ns L hns hL a (fun s hs=>h s ((zcs s f a).2 (.inr hs))) fun s hs=>ho s ((zcs s f a).2 (.inr hs))
  simp only [renT,subT,hf,ha]
 | .var s,h,ho=>by
  have hs:A s:=h s (by simp [freeT])
  have pm:∀ (l:List (List UInt8)),(∀ x∈l,A x)→posS (ρ s) (l.map ρ)=posS s l:=by
   intro l
   induction l with
   | nil=>intro _; rfl
   | cons x l ih =>
    intro hx
    have h1:=ih fun y hy=>hx y (List.mem_cons_of_mem _ hy)
    have he:(ρ s == ρ x)=(s == x):=by
     rw [Bool.eq_iff_iff,beq_iff_eq,beq_iff_eq]
     exact ⟨R.inj s x hs (hx x (by simp)),fun e=>by rw [e]⟩
    simp only [List.map_cons,posS,he,h1]
  have hp:=pm ns fun x hx=>R.own x (hns x hx)
  unfold renT subT
  rw [hp]
  by_cases hv:s∈vs
  ·have hn:=ho s (by simp [freeT]) hv
   obtain ⟨i,hi⟩:=zz8 hn
   rw [hi]
   have hlt:=ztb hi
   have h1:i < (L.map Tp.var).length:=by rw [List.length_map]; omega
   simp only [List.getD_eq_getElem?_getD,List.getElem?_eq_getElem h1,Option.getD_some]
  ·have hn:¬ s∈ns:=fun e=>hv (hns s e)
   rw [zpg hn,R.out s hs hv]
theorem RN.canon (R:RN A ρ vs) (t:Tp) (ps:List Pr) (ht:∀ s∈freeT t,A s) (hp:∀ p∈ps,∀ s∈freeT p.ty,A s):cLs (vs.map ρ) (ps.map (renP ρ)) (renT ρ t)=cLs vs ps t∧cPs (vs.map ρ) (ps.map (renP ρ)) (renT ρ t)=cPs vs ps t∧cTy (vs.map ρ) (ps.map (renP ρ)) (renT ρ t)=cTy vs ps t:=by
 have ho:∀ s∈othA t ps,A s:=fun s hs=>by
  unfold othA at hs
  rcases List.mem_append.1 hs with h | h
  ·exact ht s h
  ·obtain ⟨p,hp',hm⟩:=List.mem_flatMap.1 h
   exact hp p hp' s hm
 have h1:cTl (vs.map ρ) (ps.map (renP ρ)) (renT ρ t)=cTl vs ps t:=by
  unfold cTl
  rw [R.oth t ps ht hp,R.keep _ ho]
 have h2:cNs (vs.map ρ) (ps.map (renP ρ)) (renT ρ t)=(cNs vs ps t).map ρ:=R.nm t ps ht hp
 have h3:cLs (vs.map ρ) (ps.map (renP ρ)) (renT ρ t)=cLs vs ps t:=by
  unfold cLs
  rw [h1,h2,List.length_map]
 have hL:(cLs vs ps t).length=(cNs vs ps t).length:=zjp _ _
 have hns:=nm_vs vs t ps
 have hh:=zpmb (vs:=vs) (ps:=ps) (t:=t)
 refine ⟨h3,?_,?_⟩
 ·unfold cPs
  rw [h2,h3,List.map_map]
  congr 1
  refine List.map_congr_left fun p hp'=>?_
  have:=R.sub (cNs vs ps t) (cLs vs ps t) hns hL p.ty (hp p hp') (hh.2 p hp')
  show Pr.mk p.cls (subT ((cNs vs ps t).map ρ) ((cLs vs ps t).map Tp.var) (renT ρ p.ty))=Pr.mk p.cls (subT (cNs vs ps t) ((cLs vs ps t).map Tp.var) p.ty)
  rw [this]
 ·unfold cTy
  rw [h2,h3]
  exact R.sub (cNs vs ps t) (cLs vs ps t) hns hL t ht hh.1
end
end Go.Fu
namespace Go.Fu
open Go Go.Mx
set_option maxRecDepth 10000
set_option maxHeartbeats 4000000
def metA:Tp→List Nat→List Nat
 | .hole x,out=>if out.contains x.toNat then out else out ++ [x.toNat]
 | .app f a,out=>metA a (metA f out)
 | _,out=>out
def posT:Tp→Prop
 | .hole x=>0≤x
 | .app f a=>posT f∧posT a
 | _=>True
theorem zp7:∀ (t:Tp) (out:List Nat),(metA t out).length≤out.length + nT t
 | .hole x,out=>by
  unfold metA
  split <;> simp [nT]
 | .con c,out=>by simp [metA,nT]
 | .var x,out=>by simp [metA,nT]
 | .app f a,out=>by
  have h1:=zp7 f out
  have h2:=zp7 a (metA f out)
  simp only [metA,nT]; omega
def NI (σ:Store) (d:D) (l:List Nat):Prop:=(d=.nils∧l=[])∨∃ id,d=.arr k_int id 0 l.length∧l≠[]∧aget σ.objs id=some (cellsOf (l.map dN))∧aget σ.tys id=some ⟨k_int.el,k_int.sz⟩
theorem zm8 (l:List Nat):cellsOf (l.map dN)=l.map fun (s:Nat)=>(⟨false,.int .i64 (s:Int)⟩:Cell):=by
 induction l with
 | nil=>rfl
 | cons s r ih =>
  simp only [List.map_cons,cellsOf,ih]
  rfl
theorem zpob (l:List Nat) (i:Nat) (h:i < l.length):nth (cellsOf (l.map dN)) i=some ⟨false,.int .i64 (l[i]:Int)⟩:=by
 rw [zm8,zkz,zky _ _ h]
 rfl
theorem zplb {σ:Store} {d:D} {l:List Nat} (h:NI σ d l) (hl:l.length < 1000000) (s:Nat):∃ d' σ',zbr σ k_int 8 d [.int .i64 (s:Int)]=some (d',σ')∧NI σ' d' (l ++ [s]):=by
 have hall:zau k_int.sz [D.int .i64 (s:Int)]=true:=rfl
 rcases h with ⟨rfl,rfl⟩ | ⟨id,rfl,h2,h3,h4⟩
 ·exact ⟨.arr k_int σ.next 0 1,zav σ k_int (cellsOf [dN s]),rfl,.inr ⟨σ.next,rfl,by simp,by simp [zav,aget,ifB],by simp [zav,aget,ifB]⟩⟩
 ·have e0:(l.length * k_int.sz≤(cellsOf (l.map dN)).length):=by rw [zm8,List.length_map,k_98]; omega
  have e1:((l.length + 1) * 8≤bound):=by simp [bound]; omega
  have e2:(l.length + 1≤bound):=by simp [bound]; omega
  have et:((cellsOf (l.map dN)).take (l.length * k_int.sz)).map (fun c=>Cell.of c.d) ++ cellsOf [D.int .i64 (s:Int)]=cellsOf ((l ++ [s]).map dN):=by
   rw [List.take_of_length_le (by rw [zm8,List.length_map,k_98]; omega),zm8,zm8,List.map_map,List.map_append]
   rfl
  refine ⟨.arr k_int σ.next 0 (l.length + 1),zav {σ with objs:=adel1 σ.objs id} k_int (cellsOf ((l ++ [s]).map dN)),?_,.inr ⟨σ.next,by simp,by simp,by simp [zav,aget,ifB],by simp [zav,aget,ifB]⟩⟩
  have ek:k_int.same k_int=true:=rfl
  simp only [zbr,hall,zac,h3,h4,bindO,zab,ek,beq_self_eq_true,List.length_cons,List.length_nil,Nat.zero_add,e0,e1,e2,decide_true,Bool.and_self,et]
theorem NI.len {σ:Store} {d:D} {l:List Nat} (h:NI σ d l):lenOf d=some l.length:=by
 rcases h with ⟨rfl,rfl⟩ | ⟨id,rfl,_⟩ <;> rfl
theorem NI.get {σ:Store} {d:D} {l:List Nat} (h:NI σ d l) (i:Nat) (hi:i < l.length):∃ id cs,zaw 1 d i=some (.ptr id i)∧aget σ.objs id=some cs∧nth cs i=some ⟨false,.int .i64 (l[i]:Int)⟩:=by
 rcases h with ⟨rfl,rfl⟩ | ⟨id,rfl,_,ho,_⟩
 ·exact absurd hi (by simp)
 ·refine ⟨id,_,?_,ho,zpob l i hi⟩
  rw [zbw]
  have:decide (i < l.length)=true:=decide_eq_true hi
  simp only [k_98,beq_self_eq_true,this,Bool.and_self,zac,Nat.zero_add,Nat.mul_one]
section
variable {C:CallF} {n:Nat} {σ:Store}
def bHq (x:Int):List Cell:=[⟨false,.int .i64 1⟩,⟨false,.int .i64 x⟩,⟨false,.str []⟩,⟨false,.nils⟩]
def EMq (x:Int) (d:D) (i:Nat):Env:={slots:=[(1,⟨false,d⟩),(5,⟨false,.int .i64 i⟩)],locs:=[(2,2,0)],boxes:=[(2,bHq x)],defers:=[]}
theorem zjzb (x:Int) (d:D) (l:List Nat) (i:Nat) (hr:NI σ d l) (h:i < l.length) (hl:l.length < 1048576) (hp:((l[i]:Int) == x)=false):exec C n none zcn (EMq x d i) σ=some (.normal,EMq x d (i + 1),σ):=by
 have hi:((i:Int) < (l.length:Int)):=by omega
 have w1:=zaj (i:=i) (by omega)
 have hln:=hr.len
 obtain ⟨id,cs,hx,ha,hn⟩:=hr.get i h
 simp only [zcn,EMq,bHq,sA,Nat.reduceAdd,Nat.reduceSub,Nat.reduceMul,Nat.reduceBEq,Nat.reduceLeDiff,Int.reduceBEq,Int.reduceBNe,Int.reduceLE,Int.reduceLT,Int.reduceGE,Int.reduceGT,Int.reduceNeg,kn,zeroI,lit1,lit2,lit3,lit4,lit5,lit6,lit7,lit8,memE,memOp,hi,w1,hln,natI,hx,ha,hn,hp]
theorem zj0b (x:Int) (d:D) (l:List Nat) (i:Nat) (hr:NI σ d l) (h:i < l.length) (hp:((l[i]:Int) == x)=true):exec C n none zcn (EMq x d i) σ=some (.ret,{slots:=[(4,⟨false,d⟩)],locs:=[],boxes:=[],defers:=[]},σ):=by
 have hi:((i:Int) < (l.length:Int)):=by omega
 have hln:=hr.len
 obtain ⟨id,cs,hx,ha,hn⟩:=hr.get i h
 simp only [zcn,EMq,bHq,sA,Nat.reduceAdd,Nat.reduceSub,Nat.reduceMul,Nat.reduceBEq,Nat.reduceLeDiff,Int.reduceBEq,Int.reduceBNe,Int.reduceLE,Int.reduceLT,Int.reduceGE,Int.reduceGT,Int.reduceNeg,kn,zeroI,lit1,lit2,lit3,lit4,lit5,lit6,lit7,lit8,memE,memOp,hi,hln,natI,hx,ha,hn,hp]
theorem zm7b (x:Int) (d:D) (l:List Nat) (hr:NI σ d l):exec C n none zcn (EMq x d l.length) σ=some (.exit 0,{EMq x d l.length with slots:=[(1,⟨false,d⟩),(5,⟨false,.int .i64 l.length⟩),(13,⟨false,.bool false⟩)]},σ):=by
 have hi:¬ ((l.length:Int) < (l.length:Int)):=by omega
 have hln:=hr.len
 simp only [zcn,EMq,bHq,sA,Nat.reduceAdd,Nat.reduceSub,Nat.reduceMul,Nat.reduceBEq,Nat.reduceLeDiff,Int.reduceBEq,Int.reduceBNe,Int.reduceLE,Int.reduceLT,Int.reduceGE,Int.reduceGT,Int.reduceNeg,kn,zeroI,lit1,lit2,lit3,lit4,lit5,lit6,lit7,lit8,hi,hln]
def bAq (f a:Tp):List Cell:=[⟨false,.int .i64 4⟩,⟨false,.int .i64 0⟩,⟨false,.str []⟩,⟨false,.list k_2 [dT f,dT a]⟩]
def EMr (f a:Tp) (r:D) (i:Nat):Env:={slots:=[(1,⟨false,r⟩),(6,⟨false,.int .i64 i⟩)],locs:=[(2,2,0)],boxes:=[(2,bAq f a)],defers:=[]}
theorem zgfb (f a:Tp) (r r':D) (σ σ':Store) (h:C n_102 [dT f,r] σ=some (.ret ⟨false,r'⟩,σ')):exec C n none zb7 (EMr f a r 0) σ=some (.normal,EMr f a r' 1,σ'):=by
 have w1:IntKind.i64.wrap (0 + 1)=1:=by decide
 rw [dT_eq f] at h
 simp only [cT] at h
 simp only [zb7,EMr,bAq,sA,Nat.reduceAdd,Nat.reduceSub,Nat.reduceMul,Nat.reduceBEq,Nat.reduceLeDiff,Int.reduceBEq,Int.reduceBNe,Int.reduceLE,Int.reduceLT,Int.reduceGE,Int.reduceGT,Int.reduceNeg,kn,zeroI,lit1,lit2,lit3,lit4,lit5,lit6,lit7,lit8,Mx.part,dT_eq f,dT_eq a,cT,w1,h]
theorem zggb (f a:Tp) (r r':D) (σ σ':Store) (h:C n_102 [dT a,r] σ=some (.ret ⟨false,r'⟩,σ')):exec C n none zb7 (EMr f a r 1) σ=some (.normal,EMr f a r' 2,σ'):=by
 have w1:IntKind.i64.wrap (1 + 1)=2:=by decide
 rw [dT_eq a] at h
 simp only [cT] at h
 simp only [zb7,EMr,bAq,sA,Nat.reduceAdd,Nat.reduceSub,Nat.reduceMul,Nat.reduceBEq,Nat.reduceLeDiff,Int.reduceBEq,Int.reduceBNe,Int.reduceLE,Int.reduceLT,Int.reduceGE,Int.reduceGT,Int.reduceNeg,kn,zeroI,lit1,lit2,lit3,lit4,lit5,lit6,lit7,lit8,Mx.part,dT_eq f,dT_eq a,cT,w1,h]
theorem zm8b (f a:Tp) (r:D) (σ:Store):exec C n none zb7 (EMr f a r 2) σ=some (.exit 2,{EMr f a r 2 with slots:=[(1,⟨false,r⟩),(6,⟨false,.int .i64 2⟩),(33,⟨false,.bool false⟩)]},σ):=by
 simp only [zb7,EMr,bAq,sA,Nat.reduceAdd,Nat.reduceSub,Nat.reduceMul,Nat.reduceBEq,Nat.reduceLeDiff,Int.reduceBEq,Int.reduceBNe,Int.reduceLE,Int.reduceLT,Int.reduceGE,Int.reduceGT,Int.reduceNeg,kn,zeroI,lit1,lit2,lit3,lit4,lit5,lit6,lit7,lit8]
theorem zb2b (f x:Int) (s:List UInt8) (r:D) (σ:Store):exec C n none zb7 {slots:=[(1,⟨false,r⟩),(6,⟨false,.int .i64 0⟩)],locs:=[(2,2,0)],boxes:=[(2,[⟨false,.int .i64 f⟩,⟨false,.int .i64 x⟩,⟨false,.str s⟩,⟨false,.nils⟩])],defers:=[]} σ =
  some (.exit 2,{slots:=[(1,⟨false,r⟩),(6,⟨false,.int .i64 0⟩),(33,⟨false,.bool false⟩)],locs:=[(2,2,0)],boxes:=[(2,[⟨false,.int .i64 f⟩,⟨false,.int .i64 x⟩,⟨false,.str s⟩,⟨false,.nils⟩])],defers:=[]},σ):=by
 simp only [zb7,sA,Nat.reduceAdd,Nat.reduceSub,Nat.reduceMul,Nat.reduceBEq,Nat.reduceLeDiff,Int.reduceBEq,Int.reduceBNe,Int.reduceLE,Int.reduceLT,Int.reduceGE,Int.reduceGT,Int.reduceNeg,kn,zeroI,lit1,lit2,lit3,lit4,lit5,lit6,lit7,lit8]
end
def neN (l:List Nat) (x:Int) (i:Nat):Bool:=match l[i]? with
 | some y=>!((y:Int) == x)
 | none=>true
theorem zou {l:List Nat} {x:Int} {i:Nat} (h:i < l.length):neN l x i=!((l[i]:Int) == x):=by simp [neN,h]
theorem znw:∀ (t:Tp) (out:List Nat),posT t→out.length + nT t < 1000000→Evly fun n=>∀ σ r,NI σ r out→∃ r' σ',T n n_102 [dT t,r] σ=some (.ret ⟨false,r'⟩,σ')∧NI σ' r' (metA t out)
 | .con c,out,_,_=>(Evly.all (p:=fun _=>True) fun _=>trivial).step 2 fun m hm _ σ r hr=>by
   obtain ⟨j,rfl⟩:∃ j,m=j + 1:=⟨m - 1,by omega⟩
   refine ⟨r,σ,?_,hr⟩
   have hl:=za6 (k:=j) (zb2b (C:=T (j + 1)) (n:=j + 1) 3 0 c r σ)
   rw [T_fun (af:=zb5) rfl rfl]
   simp only [zb5,sA,Nat.reduceAdd,Nat.reduceSub,Nat.reduceMul,Nat.reduceBEq,Nat.reduceLeDiff,Int.reduceBEq,Int.reduceBNe,Int.reduceLE,Int.reduceLT,Int.reduceGE,Int.reduceGT,Int.reduceNeg,kn,zeroI,lit1,lit2,lit3,lit4,lit5,lit6,lit7,lit8,dT,hl]
 | .var c,out,_,_=>(Evly.all (p:=fun _=>True) fun _=>trivial).step 2 fun m hm _ σ r hr=>by
   obtain ⟨j,rfl⟩:∃ j,m=j + 1:=⟨m - 1,by omega⟩
   refine ⟨r,σ,?_,hr⟩
   have hl:=za6 (k:=j) (zb2b (C:=T (j + 1)) (n:=j + 1) 2 0 c r σ)
   rw [T_fun (af:=zb5) rfl rfl]
   simp only [zb5,sA,Nat.reduceAdd,Nat.reduceSub,Nat.reduceMul,Nat.reduceBEq,Nat.reduceLeDiff,Int.reduceBEq,Int.reduceBNe,Int.reduceLE,Int.reduceLT,Int.reduceGE,Int.reduceGT,Int.reduceNeg,kn,zeroI,lit1,lit2,lit3,lit4,lit5,lit6,lit7,lit8,dT,hl]
 | .hole x,out,hx,hb=>(Evly.all (p:=fun _=>True) fun _=>trivial).step (out.length + 4) fun m hm h σ r hr=>by
   simp only [nT] at hb
   simp only [posT] at hx
   have hxn:(x.toNat:Int)=x:=by omega
   have hloop:=zfb (body:=exec (T m) m none zcn) (EMq x r) (fun _=>σ) out.length (neN out x) (stop:=fun i=>(.ret,{slots:=[(4,⟨false,r⟩)],locs:=[],boxes:=[],defers:=[]},σ)) (fun _ _ h=>by cases h) (fun _ _ _ h=>by cases h)
    (fun i hi hp=>zjzb x r out i hr hi (by omega) (by rw [zou hi] at hp; simpa using hp)) (fun i hi hp=>zj0b x r out i hr hi (by rw [zou hi] at hp; simpa using hp)) (zm7b x r out hr) m 0 (by omega) (by omega)
   simp only [EMq,bHq,zeroI] at hloop
   rcases hloop with ⟨i,_,hi,hp,hb2,hrest⟩ | ⟨hp,hrest⟩
   ·have hc:out.contains x.toNat=true:=by
     rw [zou hi] at hp
     have:(out[i]:Int)=x:=by simpa using hp
     have:out[i]=x.toNat:=by omega
     rw [← this]; simp
    refine ⟨r,σ,?_,by simp only [metA,hc,if_true]; exact hr⟩
    rw [T_fun (af:=zb5) rfl rfl]
    simp only [zb5,sA,Nat.reduceAdd,Nat.reduceSub,Nat.reduceMul,Nat.reduceBEq,Nat.reduceLeDiff,Int.reduceBEq,Int.reduceBNe,Int.reduceLE,Int.reduceLT,Int.reduceGE,Int.reduceGT,Int.reduceNeg,kn,zeroI,lit1,lit2,lit3,lit4,lit5,lit6,lit7,lit8,dT,hrest]
   ·have hc:out.contains x.toNat=false:=by
     cases h:out.contains x.toNat with
     | false=>rfl
     | true =>
      have hm:x.toNat∈out:=by simpa using h
      obtain ⟨i,hi,he⟩:=List.getElem_of_mem hm
      have:=hp i (Nat.zero_le _) hi
      rw [zou hi,he,hxn] at this
      simp at this
    obtain ⟨r',σ',ha,hr'⟩:=zplb hr (by omega) x.toNat
    rw [hxn] at ha
    refine ⟨r',σ',?_,by simp only [metA,hc,Bool.false_eq_true,if_false]; exact hr'⟩
    rw [T_fun (af:=zb5) rfl rfl]
    simp only [zb5,sA,Nat.reduceAdd,Nat.reduceSub,Nat.reduceMul,Nat.reduceBEq,Nat.reduceLeDiff,Int.reduceBEq,Int.reduceBNe,Int.reduceLE,Int.reduceLT,Int.reduceGE,Int.reduceGT,Int.reduceNeg,kn,zeroI,lit1,lit2,lit3,lit4,lit5,lit6,lit7,lit8,memE,memOp,zdp,dT,hrest,ha]
 | .app f a,out,hx,hb=>by
   simp only [nT] at hb
   simp only [posT] at hx
   have hfl:=zp7 f out
   refine ((znw f out hx.1 (by omega)).and (znw a (metA f out) hx.2 (by omega))).step 4 fun m hm h σ r hr=>?_
   obtain ⟨r1,σ1,g1,hr1⟩:=h.1 σ r hr
   obtain ⟨r2,σ2,g2,hr2⟩:=h.2 σ1 r1 hr1
   refine ⟨r2,σ2,?_,hr2⟩
   obtain ⟨j,rfl⟩:∃ j,m=j + 3:=⟨m - 3,by omega⟩
   have hl:=(zb2 (k:=j + 2) (zgfb (C:=T (j + 3)) (n:=j + 3) f a r r1 σ σ1 g1)).trans ((zb2 (k:=j + 1) (zggb (C:=T (j + 3)) (n:=j + 3) f a r1 r2 σ1 σ2 g2)).trans (za6 (k:=j) (zm8b (C:=T (j + 3)) (n:=j + 3) f a r2 σ2)))
   simp only [EMr,bAq,zeroI] at hl
   rw [T_fun (af:=zb5) rfl rfl]
   simp only [zb5,sA,Nat.reduceAdd,Nat.reduceSub,Nat.reduceMul,Nat.reduceBEq,Nat.reduceLeDiff,Int.reduceBEq,Int.reduceBNe,Int.reduceLE,Int.reduceLT,Int.reduceGE,Int.reduceGT,Int.reduceNeg,kn,zeroI,lit1,lit2,lit3,lit4,lit5,lit6,lit7,lit8,dT,hl]
theorem zo9b {σ:Store} {r:D} {l:List Nat} (h:NI σ r l) (s:Nat) (e:Env) (hs:aget e.slots s=some ⟨false,r⟩):∃ σ',zbo [.slot s] e σ=some ({e with slots:=aset e.slots s ⟨false,dNs l⟩},σ'):=by
 rcases h with ⟨rfl,rfl⟩ | ⟨id,rfl,h5,h2,h3⟩
 ·refine ⟨σ,?_⟩
  simp only [zbo,zdf,hs,bindO,zab]
  rfl
 ·refine ⟨{objs:=adel1 σ.objs id,tys:=σ.tys,oth:=σ.oth,next:=σ.next},?_⟩
  have hr:=zhn (k:=k_int) (id:=id) (n:=39) (ds:=l.map dN) (os:=σ.objs) (os':=adel1 σ.objs id) h2 rfl rfl (fun d hd=>by obtain ⟨x,_,rfl⟩:=List.mem_map.1 hd; exact ⟨rfl,rfl⟩) (fun d hd=>by obtain ⟨x,_,rfl⟩:=List.mem_map.1 hd; rfl)
  rw [List.length_map] at hr
  have hd:dNs l=.list k_int (l.map dN):=by
   cases l with
   | nil=>exact absurd rfl h5
   | cons a b=>rfl
  simp only [zbo,zdf,hs,bindO,zab,hr,hd,Cell.keeps]
theorem zw5 (l:List Nat):noPtr (dNs l)=true:=by
 have h:zaz (l.map dN)=true:=by
  induction l with
  | nil=>rfl
  | cons x r ih=>simp only [List.map_cons,zaz,ih,Bool.and_true]; rfl
 cases l with
 | nil=>rfl
 | cons x r=>exact h
theorem zfab (t:Tp) (hp:posT t) (hb:nT t < 100000):∃ n σ',T n n_63 [dT t] σ0=some (.ret ⟨false,dNs (metA t [])⟩,σ'):=by
 obtain ⟨n,h⟩:=(znw t [] hp (by simp only [List.length_nil]; omega))
 obtain ⟨r,σ1,g1,hr⟩:=h n (Nat.le_refl _) σ0 .nils (.inl ⟨rfl,rfl⟩)
 obtain ⟨σ2,hz⟩:=zo9b hr 2 {slots:=[(2,⟨false,r⟩)],locs:=[],boxes:=[],defers:=[]} rfl
 refine ⟨n + 1,σ2,?_⟩
 rw [dT_eq t] at g1 ⊢
 simp only [cT] at g1 ⊢
 rw [T_fun (af:=zhj) rfl rfl]
 simp only [zhj,sA,Nat.reduceAdd,Nat.reduceSub,Nat.reduceMul,Nat.reduceBEq,Nat.reduceLeDiff,Int.reduceBEq,Int.reduceBNe,Int.reduceLE,Int.reduceLT,Int.reduceGE,Int.reduceGT,Int.reduceNeg,kn,zeroI,lit1,lit2,lit3,lit4,lit5,lit6,lit7,lit8,g1,zee,hz,aset]
 done
end Go.Fu
namespace Go.Fu
open Go Go.Mx
set_option maxRecDepth 10000
def it (n:Nat):List UInt8:=if n < 10 then [UInt8.ofNat (48 + n)] else [49,UInt8.ofNat (38 + n)]
def tn (n:Nat):List UInt8:=116 :: it n
theorem zpbb:Evly fun n=>∀ (x:Nat) σ,x < 20→T n n_23 [.int .i64 (x:Int)] σ=some (.ret ⟨false,.str (it x)⟩,σ):=any _ fun n x σ hx=>by
 have h:x=0∨x=1∨x=2∨x=3∨x=4∨x=5∨x=6∨x=7∨x=8∨x=9∨x=10∨x=11∨x=12∨x=13∨x=14∨x=15∨x=16∨x=17∨x=18∨x=19:=by omega
 rcases h with rfl | rfl | rfl | rfl | rfl | rfl | rfl | rfl | rfl | rfl | rfl | rfl | rfl | rfl | rfl | rfl | rfl | rfl | rfl | rfl <;> exact itoa0 n _ _ σ rfl
def varT (ms:List Nat):Tp→Tp
 | .hole n=>if (ms.any fun m=>n == (m:Int)) then .var (tn n.toNat) else .hole n
 | .app f a=>.app (varT ms f) (varT ms a)
 | .var s=>.var s
 | .con s=>.con s
def z4:List Cell:=[⟨false,.int .i64 0⟩,⟨false,.int .i64 0⟩,⟨false,.str []⟩,⟨false,.nils⟩]
def nF (ms:List Nat) (x:Int) (i:Nat):Bool:=match ms[i]? with
 | some m=>!(x == (m:Int))
 | none=>true
theorem zrb {ms:List Nat} {x:Int} {i:Nat} (h:i < ms.length):nF ms x i=!(x == (ms[i]:Int)):=by simp [nF,h]
end Go.Fu
