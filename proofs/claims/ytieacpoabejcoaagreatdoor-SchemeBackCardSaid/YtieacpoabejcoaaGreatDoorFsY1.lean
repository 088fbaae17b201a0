/-
 Two types become one: the program's.
-/
import Derived.Test.YtieacpoabejcoaaGreatDoorFsWh
import Derived.Test.YtieacpoabejcoaaGreatDoorFsWe
import Derived.Test.YtieacpoabejcoaaGreatDoorFsX18
set_option maxHeartbeats 4000000
set_option linter.unusedSimpArgs false
set_option linter.unusedVariables false
set_option linter.unusedSectionVars false
namespace Go.Fu.U
open Go Go.Mx Go.Fu
set_option maxRecDepth 100000
set_option maxHeartbeats 1000000
section
variable {C:CallF} {n:Nat} {σ:Store}
def Eon (p:Nat) (u v:Ty) (i:Nat):Env:={slots:=[(0,⟨false,.ptr p 0⟩),(59,⟨false,.int .i64 u.as_.length⟩),(60,⟨false,.int .i64 i⟩)],locs:=[(4,4,0),(5,5,0)],boxes:=[(4,bT u),(5,bT v)],defers:=[]}
theorem zn2b (p:Nat) (u v:Ty) (i:Nat) (hi:i < u.as_.length) (hj:i < v.as_.length) (hl:u.as_.length < 1000000) {σ':Store} (h1:C n_107 [.ptr p 0,dTy u.as_[i],dTy v.as_[i]] σ=some (.ret ⟨false,.int .i64 0⟩,σ')):exec C n none a_60 (Eon p u v i) σ=some (.normal,Eon p u v (i + 1),σ'):=by
 have hlt:((i:Int) < u.as_.length):=by omega
 have w:=zaj (i:=i) (by omega)
 have hx:=idx_T u.as_ i hi
 have hy:=idx_T v.as_ i hj
 generalize u.as_[i]=a at *
 generalize v.as_[i]=b at *
 simp only [zap,zaq] at h1 hx hy
 simp only [a_60,Eon,bT,sA,seval,kn,onel,natI,hlt,hx,hy,h1,w,bne_self_eq_false]
theorem zn3b (p:Nat) (u v:Ty) (i:Nat) (hi:i < u.as_.length) (hj:i < v.as_.length) (e:Int) (he:e≠0) {σ':Store} (h1:C n_107 [.ptr p 0,dTy u.as_[i],dTy v.as_[i]] σ=some (.ret ⟨false,.int .i64 e⟩,σ')):exec C n none a_60 (Eon p u v i) σ=some (.ret,{slots:=[(6,⟨false,.int .i64 e⟩)],locs:=[],boxes:=[],defers:=[]},σ'):=by
 have hlt:((i:Int) < u.as_.length):=by omega
 have hx:=idx_T u.as_ i hi
 have hy:=idx_T v.as_ i hj
 have hne:(e != 0)=true:=by simpa using he
 generalize u.as_[i]=a at *
 generalize v.as_[i]=b at *
 simp only [zap,zaq] at h1 hx hy
 simp only [a_60,Eon,bT,sA,seval,kn,onel,natI,hlt,hx,hy,h1,hne]
theorem zpwb (p:Nat) (u v:Ty):exec C n none a_60 (Eon p u v u.as_.length) σ=some (.exit 1,{Eon p u v u.as_.length with slots:=[(0,⟨false,.ptr p 0⟩),(59,⟨false,.int .i64 u.as_.length⟩),(60,⟨false,.int .i64 u.as_.length⟩),(61,⟨false,.bool false⟩)]},σ):=by
 have hlt:¬ ((u.as_.length:Int) < u.as_.length):=by omega
 simp only [a_60,Eon,bT,sA,seval,kn,onel,hlt]
end
def FineK (K:Kn):Prop:=∀ x∈K,Fine x.2
theorem FineK.snoc {K:Kn} {k:Int} {t:Ty} (h:FineK K) (ht:Fine t):FineK (K ++ [(k,t)]):=by
 intro x hx
 rcases List.mem_append.1 hx with hx | hx
 ·exact h x hx
 ·rw [List.mem_singleton.1 hx]
  exact ht
theorem BindK.fine {d:Nat} {K K':Kn} {k:Int} {t:Ty} (h:BindK d K k t K') (hK:FineK K) (ht:Fine t):FineK K':=by
 cases h with
 | own _ _=>exact hK
 | less _ _ _ _ _=>exact hK.snoc (znk _)
 | put _ _ _ _ _=>exact hK.snoc ht
def OnR (S:Specs) (p m q:Nat) (K':Kn) (e:Int) (ds:List D) (σ:Store):Prop:=∃ σ',Fm σ σ' m∧SK σ' p m q K'∧∃ N,∀ n,N≤n→TS S n n_107 ds σ=some (.ret ⟨false,.int .i64 e⟩,σ')
def onE (p:Nat) (u v:Ty) (e:Int):AExit × Env:=if e=0 then (.exit 1,{slots:=[(0,⟨false,.ptr p 0⟩),(59,⟨false,.int .i64 u.as_.length⟩),(60,⟨false,.int .i64 u.as_.length⟩),(61,⟨false,.bool false⟩)],locs:=[(4,4,0),(5,5,0)],boxes:=[(4,bT u),(5,bT v)],defers:=[]}) else (.ret,{slots:=[(6,⟨false,.int .i64 e⟩)],locs:=[],boxes:=[],defers:=[]})
theorem zcbb {S:Specs} {p m q d h:Nat} (u v:Ty) (hu:Fine u) (hv:Fine v) (IH:∀ K a b e K',OneK d h K a b e K'→FineK K→Fine a→Fine b→FineK K'∧∀ σ,SK σ p m q K→OnR S p m q K' e [.ptr p 0,dTy a,dTy b] σ):∀ (k i:Nat) (K:Kn) (e:Int) (K':Kn),i + k=u.as_.length→i + k=v.as_.length→OneL d h K (u.as_.drop i) (v.as_.drop i) e K'→FineK K→FineK K'∧∀ σ,SK σ p m q K→∃ σ',Fm σ σ' m∧SK σ' p m q K'∧∃ N,∀ n l,N≤n→N≤l→loopN (exec (TS S n) n none a_60) l (Eon p u v i) σ=some ((onE p u v e).1,(onE p u v e).2,σ')
 | 0,i,K,e,K',h1,h2,hL,hK=>by
  have:i=u.as_.length:=by omega
  subst this
  have e2:v.as_.drop u.as_.length=[]:=by rw [List.drop_eq_nil_iff]; omega
  rw [List.drop_length,e2] at hL
  cases hL
  refine ⟨hK,fun σ hB=>⟨σ,(Fr.refl σ).fm,hB,1,fun n l _ hl=>?_⟩⟩
  obtain ⟨l,rfl⟩:∃ k,l=k + 1:=⟨l - 1,by omega⟩
  exact ziu (zpwb p u v)
 | k + 1,i,K,e,K',h1,h2,hL,hK=>by
  have hi:i < u.as_.length:=by omega
  have hj:i < v.as_.length:=by omega
  have fu:=hu.few
  rw [List.drop_eq_getElem_cons hi,List.drop_eq_getElem_cons hj] at hL
  cases hL with
  | ok ho hr =>
   obtain ⟨hK1,r1⟩:=IH _ _ _ _ _ ho hK (hu.sub _ (List.getElem_mem hi)) (hv.sub _ (List.getElem_mem hj))
   obtain ⟨hK2,r2⟩:=zcbb u v hu hv IH k (i + 1) _ e K' (by omega) (by omega) hr hK1
   refine ⟨hK2,fun σ hB=>?_⟩
   obtain ⟨σ1,f1,s1,N1,g1⟩:=r1 σ hB
   obtain ⟨σ2,f2,s2,N2,g2⟩:=r2 σ1 s1
   refine ⟨σ2,f1.trans f2,s2,N1 + N2 + 1,fun n l hn hl=>?_⟩
   obtain ⟨l,rfl⟩:∃ k,l=k + 1:=⟨l - 1,by omega⟩
   rw [ziv (zn2b p u v i hi hj (by omega) (g1 n (by omega)))]
   exact g2 n l (by omega) (by omega)
  | no ho he =>
   obtain ⟨hK1,r1⟩:=IH _ _ _ _ _ ho hK (hu.sub _ (List.getElem_mem hi)) (hv.sub _ (List.getElem_mem hj))
   refine ⟨hK1,fun σ hB=>?_⟩
   obtain ⟨σ1,f1,s1,N1,g1⟩:=r1 σ hB
   refine ⟨σ1,f1,s1,N1 + 1,fun n l hn hl=>?_⟩
   obtain ⟨l,rfl⟩:∃ k,l=k + 1:=⟨l - 1,by omega⟩
   rw [zgi (zn3b p u v i hi hj e he (g1 n (by omega))),onE,if_neg he]
theorem zccb {S:Specs} (hS:UnifyS S) {p m q d:Nat}:∀ (h:Nat) (K:Kn) (a b:Ty) (e:Int) (K':Kn),OneK d h K a b e K'→FineK K→Fine a→Fine b→FineK K'∧∀ σ,SK σ p m q K→OnR S p m q K' e [.ptr p 0,dTy a,dTy b] σ
 | 0,K,a,b,e,K',hO,hK,ha,hb=>by cases hO
 | h + 1,K,a,b,e,K',hO,hK,ha,hb=>by
  have hS1:=hS.2.2.2.2.2.2.2.2.2.2.1
  cases hO with
  | left h1 h2 h3 hB =>
   rename_i u v
   have fu:=zd6 hK ha h1
   have fv:=zd6 hK hb h2
   refine ⟨hB.fine hK fv,fun σ hs=>?_⟩
   obtain ⟨σ1,f1,s1,N1,g1⟩:=zvo hS hK fv hB σ hs
   refine ⟨σ1,f1,s1,N1 + d + 3,fun n hn=>?_⟩
   obtain ⟨n,rfl⟩:∃ k,n=k + 2:=⟨n - 2,by omega⟩
   have l1:=zem hS hs h1 n (by omega)
   have l2:=zem hS hs h2 n (by omega)
   have g1:=g1 (n + 1) (by omega)
   have b1:(u.f == 1)=true:=by rw [h3]; rfl
   rw [zbe (af:=a_19) hS1 rfl rfl]
   simp only [zap,zaq] at l1 l2 g1
   simp only [a_19,sA,seval,kn,onel,zap,zaq,l1,l2,b1,g1]
  | right h1 h2 h3 h4 hB =>
   rename_i u v
   have fu:=zd6 hK ha h1
   have fv:=zd6 hK hb h2
   refine ⟨hB.fine hK fu,fun σ hs=>?_⟩
   obtain ⟨σ1,f1,s1,N1,g1⟩:=zvo hS hK fu hB σ hs
   refine ⟨σ1,f1,s1,N1 + d + 3,fun n hn=>?_⟩
   obtain ⟨n,rfl⟩:∃ k,n=k + 2:=⟨n - 2,by omega⟩
   have l1:=zem hS hs h1 n (by omega)
   have l2:=zem hS hs h2 n (by omega)
   have g1:=g1 (n + 1) (by omega)
   have b1:(u.f == 1)=false:=beq_false_of_ne h3
   have b2:(v.f == 1)=true:=by rw [h4]; rfl
   rw [zbe (af:=a_19) hS1 rfl rfl]
   simp only [zap,zaq] at l1 l2 g1
   simp only [a_19,sA,seval,kn,onel,zap,zaq,l1,l2,b1,b2,g1]
  | form h1 h2 h3 h4 h5 =>
   rename_i u v
   refine ⟨hK,fun σ hs=>⟨σ,(Fr.refl σ).fm,hs,d + 3,fun n hn=>?_⟩⟩
   obtain ⟨n,rfl⟩:∃ k,n=k + 2:=⟨n - 2,by omega⟩
   have l1:=zem hS hs h1 n (by omega)
   have l2:=zem hS hs h2 n (by omega)
   have b1:(u.f == 1)=false:=beq_false_of_ne h3
   have b2:(v.f == 1)=false:=beq_false_of_ne h4
   have b3:(u.f != v.f)=true:=by simpa using h5
   rw [zbe (af:=a_19) hS1 rfl rfl]
   simp only [zap,zaq] at l1 l2
   simp only [a_19,sA,seval,kn,onel,zap,zaq,l1,l2,b1,b2,b3]
  | name h1 h2 h3 h4 h5 h6 h7 =>
   rename_i u v
   refine ⟨hK,fun σ hs=>⟨σ,(Fr.refl σ).fm,hs,d + 3,fun n hn=>?_⟩⟩
   obtain ⟨n,rfl⟩:∃ k,n=k + 2:=⟨n - 2,by omega⟩
   have l1:=zem hS hs h1 n (by omega)
   have l2:=zem hS hs h2 n (by omega)
   have b1:(u.f == 1)=false:=beq_false_of_ne h3
   have b2:(v.f == 1)=false:=beq_false_of_ne h4
   have b3:(u.f != v.f)=false:=by rw [h5]; simp
   have b5:(u.f == 5)=false:=beq_false_of_ne h6
   have b6:(!(u.s == v.s))=true:=by simpa using h7
   have b7:(u.s == v.s)=false:=beq_false_of_ne h7
   rw [zbe (af:=a_19) hS1 rfl rfl]
   simp only [zap,zaq] at l1 l2
   simp only [a_19,sA,seval,kn,onel,zap,zaq,l1,l2,b1,b2,b3,b5,b6,b7]
  | args h1 h2 h3 h4 h5 h6 h7 h8 hL =>
   rename_i u v
   have fu:=zd6 hK ha h1
   have fv:=zd6 hK hb h2
   obtain ⟨hK2,r2⟩:=zcbb u v fu fv (fun K a b e K' hO hK ha hb=>zccb hS h K a b e K' hO hK ha hb) u.as_.length 0 K e K' (by omega) (by omega) (by simpa using hL) hK
   refine ⟨hK2,fun σ hs=>?_⟩
   obtain ⟨σ1,f1,s1,N1,g1⟩:=r2 σ hs
   refine ⟨σ1,f1,s1,N1 + d + 3,fun n hn=>?_⟩
   obtain ⟨n,rfl⟩:∃ k,n=k + 2:=⟨n - 2,by omega⟩
   have l1:=zem hS hs h1 n (by omega)
   have l2:=zem hS hs h2 n (by omega)
   have g1:=g1 (n + 1) (n + 1) (by omega) (by omega)
   have b1:(u.f == 1)=false:=beq_false_of_ne h3
   have b2:(v.f == 1)=false:=beq_false_of_ne h4
   have b3:(u.f != v.f)=false:=by rw [h5]; simp
   have b5:(u.f == 5)=false:=beq_false_of_ne h6
   have b7:(u.s == v.s)=true:=by rw [h7]; simp
   have hlen:=len_T u.as_
   rw [zbe (af:=a_19) hS1 rfl rfl]
   simp only [Eon,bT,zeroI] at g1
   simp only [zap,zaq] at l1 l2
   by_cases he:e=0
   ·subst he
    simp only [onE,if_pos,bT] at g1
    simp only [a_19,sA,seval,kn,onel,zap,zaq,l1,l2,b1,b2,b3,b5,b7,Bool.not_true,hlen,g1]
   ·simp only [onE,if_neg he] at g1
    simp only [a_19,sA,seval,kn,onel,zap,zaq,l1,l2,b1,b2,b3,b5,b7,Bool.not_true,hlen,g1]
structure Fp (σ σ':Store) (p m:Nat):Prop where
 le:σ.next≤σ'.next
 objs:∀ j,j < σ.next→j≠p→aget σ'.objs j=aget σ.objs j
 oth:∀ j,j < σ.next→j≠m→aget σ'.oth j=aget σ.oth j
 tys:∀ j,j < σ.next→aget σ'.tys j=aget σ.tys j
theorem unify_run {S:Specs} (hS:UnifyS S) {p m q d h:Nat} {K K':Kn} {a b:Ty} {e:Int} (hO:OneK d h K a b e K') (hK:FineK K) (ha:Fine a) (hb:Fine b) (σ:Store) (hs:SK σ p m q K):FineK K'∧∃ σ',Fp σ σ' p m∧(e=0→SK σ' p m q K')∧∃ N,∀ n,N≤n→TS S n n_202 [.ptr p 0,dTy a,dTy b] σ=some (.ret ⟨false,.int .i64 e⟩,σ'):=by
 obtain ⟨hK2,r⟩:=zccb hS h K a b e K' hO hK ha hb
 refine ⟨hK2,?_⟩
 have hS1:=hS.2.2.2.2.2.2.2.2.2.2.2.1
 have hS2:=hS.2.2.2.2.2.2.2.2.2.2.2.2.1
 obtain ⟨τ,hτ⟩:∃ τ,τ=GM σ (.map (esK K 0) K.length):=⟨_,rfl⟩
 have f0:Fr σ τ:=by rw [hτ]; exact fr_GM _ _
 have s0:SK τ p m q K:=SB.fr hs f0
 obtain ⟨σ1,f1,s1,N1,g1⟩:=r τ s0
 have hcl:∀ n,TS S (n + 1) n_190 [.map m] σ=some (.ret ⟨false,.map σ.next⟩,τ):=by
  intro n
  have hm:=hs.map
  rw [zbe (af:=a_133) hS2 rfl rfl]
  simp only [a_133,sA,seval,kn,onel,hm,zmob,← hτ]
 have ho:=hs.obj
 have ho1:=s1.obj
 by_cases he:e=0
 ·subst he
  refine ⟨σ1,⟨Nat.le_trans f0.le f1.le,fun j hj _=>(f1.objs j (Nat.lt_of_lt_of_le hj f0.le)).trans (f0.objs j hj),fun j hj hm=>(f1.oth j (Nat.lt_of_lt_of_le hj f0.le) hm).trans (f0.oth j hj),fun j hj=>(f1.tys j (Nat.lt_of_lt_of_le hj f0.le)).trans (f0.tys j hj)⟩,fun _=>s1,N1 + 3,fun n hn=>?_⟩
  obtain ⟨n,rfl⟩:∃ k,n=k + 2:=⟨n - 2,by omega⟩
  have g1:=g1 (n + 1) (by omega)
  have hcl:=hcl n
  rw [zbe (af:=a_94) hS1 rfl rfl]
  simp only [zap,zaq] at g1
  simp only [a_94,sA,seval,kn,onel,zap,zaq,ho,hcl,g1,bne_self_eq_false]
 ·have hne:(e != 0)=true:=by simpa using he
  refine ⟨SO σ1 p [⟨false,.int .i64 q⟩,⟨false,.map σ.next⟩],⟨Nat.le_trans f0.le f1.le,fun j hj hp=>?_,fun j hj hm=>(f1.oth j (Nat.lt_of_lt_of_le hj f0.le) hm).trans (f0.oth j hj),fun j hj=>(f1.tys j (Nat.lt_of_lt_of_le hj f0.le)).trans (f0.tys j hj)⟩,fun h=>absurd h he,N1 + 3,fun n hn=>?_⟩
  ·exact ((agB _ _ _ (beq_false_of_ne (Ne.symm hp)) _).trans (f1.objs j (Nat.lt_of_lt_of_le hj f0.le))).trans (f0.objs j hj)
  ·obtain ⟨n,rfl⟩:∃ k,n=k + 2:=⟨n - 2,by omega⟩
   have g1:=g1 (n + 1) (by omega)
   have hcl:=hcl n
   rw [zbe (af:=a_94) hS1 rfl rfl]
   simp only [zap,zaq] at g1
   simp only [a_94,sA,seval,kn,onel,zap,zaq,ho,hcl,g1,hne,ho1,zbpb]
end Go.Fu.U
namespace Go.Fu
open Go Go.Mx
set_option maxRecDepth 10000
def to:Tp→U.Ty
 | .hole x=>U.tMeta x
 | .var s=>U.tVar s
 | .con s=>U.tCon s
 | .app f a=>U.tApp (to f) (to a)
theorem znc:∀ t:Tp,U.dTy (to t)=dT t
 | .hole x=>znq x
 | .var s=>by simp [to,U.tVar,U.dTy,U.dTys,dT,dlist]
 | .con s=>by simp [to,U.tCon,U.dTy,U.dTys,dT,dlist]
 | .app f a=>by simp [to,U.tApp,U.dTy,U.dTys,dT,dlist,znc f,znc a]
theorem zyh:∀ {a b:Tp},to a=to b→a=b
 | .hole x,.hole y,h=>by
  simp only [to,U.tMeta,U.Ty.mk.injEq] at h
  rw [h.2.1]
 | .var x,.var y,h=>by
  simp only [to,U.tVar,U.Ty.mk.injEq] at h
  rw [h.2.2.1]
 | .con x,.con y,h=>by
  simp only [to,U.tCon,U.Ty.mk.injEq] at h
  rw [h.2.2.1]
 | .app f a,.app g b,h=>by
  simp only [to,U.tApp,U.Ty.mk.injEq,List.cons.injEq,and_true,true_and] at h
  rw [zyh h.1,zyh h.2]
 | .hole _,.var _,h=>by simp [to,U.tMeta,U.tVar] at h
 | .hole _,.con _,h=>by simp [to,U.tMeta,U.tCon] at h
 | .hole _,.app _ _,h=>by simp [to,U.tMeta,U.tApp] at h
 | .var _,.hole _,h=>by simp [to,U.tMeta,U.tVar] at h
 | .var _,.con _,h=>by simp [to,U.tVar,U.tCon] at h
 | .var _,.app _ _,h=>by simp [to,U.tVar,U.tApp] at h
 | .con _,.hole _,h=>by simp [to,U.tMeta,U.tCon] at h
 | .con _,.var _,h=>by simp [to,U.tVar,U.tCon] at h
 | .con _,.app _ _,h=>by simp [to,U.tCon,U.tApp] at h
 | .app _ _,.hole _,h=>by simp [to,U.tMeta,U.tApp] at h
 | .app _ _,.var _,h=>by simp [to,U.tVar,U.tApp] at h
 | .app _ _,.con _,h=>by simp [to,U.tCon,U.tApp] at h
theorem zvz {a b:Tp} (h:dT a=dT b):a=b:=by
 rw [← znc,← znc] at h
 exact zyh (U.dTy_inj h)
theorem zi9:∀ t:Tp,U.Fine (to t)
 | .hole x=>.mk (by simp) (fun _ h=>by cases h)
 | .var s=>U.fine_var s
 | .con s=>U.fine_con s
 | .app f a=>U.fine_app (zi9 f) (zi9 a)
def kkL:Nat→List Nat→U.Kn
 | _,[]=>[]
 | i,x :: r=>(((10 + i:Nat):Int),U.tMeta (x:Int)) :: kkL (i + 1) r
theorem zp5:∀ (l:List Nat) (i x:Nat),kkL i (l ++ [x])=kkL i l ++ [(((10 + i + l.length:Nat):Int),U.tMeta (x:Int))]
 | [],i,x=>rfl
 | y :: r,i,x=>by
  have e:10 + (i + 1) + r.length=10 + i + (y :: r).length:=by simp only [List.length_cons]; omega
  simp only [List.cons_append,kkL,zp5 r (i + 1) x,e]
theorem zos:∀ (l:List Nat) (i j:Nat) (h:j < l.length),U.kno ((10 + i + j:Nat):Int) (kkL i l)=some (U.tMeta (l[j]:Int))
 | x :: r,i,0,h=>by
  simp only [kkL,U.kno,Nat.add_zero,if_true,List.getElem_cons_zero]
 | x :: r,i,j + 1,h=>by
  have e:¬ (((10 + i:Nat):Int)=((10 + i + (j + 1):Nat):Int)):=by omega
  have e2:10 + i + (j + 1)=10 + (i + 1) + j:=by omega
  simp only [kkL,U.kno,if_neg e,List.getElem_cons_succ]
  rw [e2]
  exact zos r (i + 1) j (by simpa using h)
theorem zot:∀ (l:List Nat) (i:Nat) (k:Int),k < 10→U.kno k (kkL i l)=none
 | [],_,_,_=>rfl
 | x :: r,i,k,h=>by
  have e:¬ (((10 + i:Nat):Int)=k):=by omega
  simp only [kkL,U.kno,if_neg e]
  exact zot r (i + 1) k h
theorem zwq:∀ (l:List Nat) (i j:Nat),l.length≤j→U.kno ((10 + i + j:Nat):Int) (kkL i l)=none
 | [],_,_,_=>rfl
 | x :: r,i,j,h=>by
  simp only [List.length_cons] at h
  have e:¬ (((10 + i:Nat):Int)=((10 + i + j:Nat):Int)):=by omega
  have e2:10 + i + j=10 + (i + 1) + (j - 1):=by omega
  simp only [kkL,U.kno,if_neg e]
  rw [e2]
  exact zwq r (i + 1) (j - 1) (by omega)
theorem zgcb:∀ (l:List Nat) (i:Nat),(∀ y∈l,y < 6)→∀ x∈kkL i l,∃ j,∃ h:j < l.length,x.1=((10 + i + j:Nat):Int)
 | [],_,_,x,h=>by cases h
 | y :: r,i,hl,x,h=>by
  rcases List.mem_cons.1 h with rfl | h
  ·exact ⟨0,by simp,rfl⟩
  ·obtain ⟨j,hj,e⟩:=zgcb r (i + 1) (fun z hz=>hl z (List.mem_cons_of_mem _ hz)) x h
   exact ⟨j + 1,by simp only [List.length_cons]; omega,by rw [e]; congr 1; omega⟩
theorem zdu {K:U.Kn} {d:Nat} {k:Int} (h:U.kno k K=none):U.lookF (d + 1) K (U.tMeta k)=some (U.tMeta k):=by
 have e:(U.tMeta k).f=1:=rfl
 rw [U.lookF,if_pos e]
 show (match U.kno k K with | none=>_ | some u=>_)=_
 rw [h]
theorem zmp {K:U.Kn} {d:Nat} {k:Int} {x:U.Ty} (h:U.kno k K=some x):U.lookF (d + 1) K (U.tMeta k)=U.lookF d K x:=by
 have e:(U.tMeta k).f=1:=rfl
 rw [U.lookF,if_pos e]
 show (match U.kno k K with | none=>_ | some u=>_)=_
 rw [h]
theorem zef {K:U.Kn} {d:Nat} {t:U.Ty} (h:t.f≠1):U.lookF (d + 1) K t=some t:=by rw [U.lookF,if_neg h]
theorem ztj {K:U.Kn} {d:Nat} {k:Int} (h:U.kno k K=none):U.sizeF (d + 1) K (U.tMeta k)=some 1:=by
 have e:(if (U.tMeta k).f=1 then U.kno (U.tMeta k).n K else none)=none:=by
  rw [if_pos (show (U.tMeta k).f=1 from rfl)]
  exact h
 rw [U.sizeF,e]
 rfl
theorem zpcb (l:List Nat) (hl:∀ y∈l,y < 6) (d:Nat):U.FitK (d + 2) (kkL 0 l):=fun x hx=>by
 obtain ⟨j,hj,e⟩:=zgcb l 0 hl x hx
 refine ⟨1,?_,by omega⟩
 have h1:=zos l 0 j hj
 rw [e,U.sizeF_meta h1]
 have h6:=hl l[j] (List.getElem_mem hj)
 exact ztj (zot l 0 _ (by omega))
theorem zbwb {x:Nat}:∀ {l r:List Nat},x∈l→ixN x (l ++ r)=ixN x l
 | y :: l,r,h=>by
  simp only [List.cons_append,ixN]
  by_cases e:x=y
  ·rw [if_pos e,if_pos e]
  ·rw [if_neg e,if_neg e,zbwb ((List.mem_cons.1 h).resolve_left e)]
theorem zbvb {x:Nat}:∀ {l r:List Nat},¬ x∈l→ixN x (l ++ x :: r)=l.length
 | [],r,_=>by simp [ixN]
 | y :: l,r,h=>by
  have e:¬ x=y:=fun e=>h (by rw [e]; simp)
  have h':¬ x∈l:=fun hm=>h (List.mem_cons_of_mem _ hm)
  simp only [List.cons_append,ixN,if_neg e,zbvb h',List.length_cons]
theorem zp8:∀ (t:Tp) (out:List Nat),∃ r,metA t out=out ++ r
 | .con _,out=>⟨[],by simp [metA]⟩
 | .var _,out=>⟨[],by simp [metA]⟩
 | .hole x,out=>by
  unfold metA
  split
  ·exact ⟨[],by simp⟩
  ·exact ⟨[x.toNat],rfl⟩
 | .app f a,out=>by
  obtain ⟨r1,h1⟩:=zp8 f out
  obtain ⟨r2,h2⟩:=zp8 a (metA f out)
  exact ⟨r1 ++ r2,by simp only [metA]; rw [h2,h1,List.append_assoc]⟩
theorem zxm (ms:List Nat) (h6:∀ m∈ms,m < 6) (d:Nat):∀ (t:Tp) (out r:List Nat) (h:Nat),smB t→nT t≤h→metA t out ++ r=ms→U.OneK (d + 3) (h + 1) (kkL 0 out) (to (im ms t)) (to t) 0 (kkL 0 (metA t out))
 | .con c,out,r,h,_,_,_=>by
  have e:(to (.con c)).f≠1:=by show (3:Int)≠1; omega
  exact .args (zef e) (zef e) e e rfl (by show (3:Int)≠5; omega) rfl rfl .nil
 | .var c,out,r,h,_,_,_=>by
  have e:(to (.var c)).f≠1:=by show (2:Int)≠1; omega
  exact .args (zef e) (zef e) e e rfl (by show (2:Int)≠5; omega) rfl rfl .nil
 | .app f a,out,r,h,hb,hn,hm=>by
  simp only [nT] at hn
  obtain ⟨h,rfl⟩:∃ k,h=k + 1:=⟨h - 1,by omega⟩
  have e:(to (.app f a)).f≠1:=by show (4:Int)≠1; omega
  have e2:(to (im ms (.app f a))).f≠1:=by show (4:Int)≠1; omega
  obtain ⟨r2,h2⟩:=zp8 a (metA f out)
  have hm':metA a (metA f out) ++ r=ms:=hm
  have h1:metA f out ++ (r2 ++ r)=ms:=by rw [← List.append_assoc,← h2]; exact hm'
  exact .args (zef e2) (zef e) e2 e rfl (by show (4:Int)≠5; omega) rfl rfl (.ok (zxm ms h6 d f out (r2 ++ r) h hb.1 (by omega) h1) (.ok (zxm ms h6 d a (metA f out) r h hb.2 (by omega) hm') .nil))
 | .hole x,out,r,h,hb,hn,hm=>by
  have hx:(x.toNat:Int)=x:=by have:=hb.1; omega
  have hx6:x.toNat < 6:=by have:=hb.2; omega
  have hms:x.toNat∈ms:=by
   rw [← hm]
   refine List.mem_append.2 (.inl ?_)
   unfold metA
   split
   ·rename_i hc
    simpa using hc
   ·simp
  have low:∀ l,U.kno x (kkL 0 l)=none:=fun l=>zot l 0 x (by have:=hb.2; omega)
  have lb:U.lookF (d + 3) (kkL 0 out) (to (.hole x))=some (U.tMeta x):=zdu (low out)
  have ei:to (im ms (.hole x))=U.tMeta ((10 + ixN x.toNat ms:Nat):Int):=by simp only [im,if_pos hms,to]
  rw [ei]
  by_cases hc:x.toNat∈out
  ·have hmt:metA (.hole x) out=out:=by
    unfold metA
    rw [if_pos (by simpa using hc)]
   rw [hmt] at hm ⊢
   have hi:ixN x.toNat ms=ixN x.toNat out:=by rw [← hm,zbwb hc]
   have hlt:=zjm hc
   have hg:=zkx hc
   have hk:=zos out 0 (ixN x.toNat out) hlt
   rw [hg,hx,Nat.add_zero] at hk
   rw [hi]
   have la:U.lookF (d + 3) (kkL 0 out) (U.tMeta ((10 + ixN x.toNat out:Nat):Int))=some (U.tMeta x):=by
    rw [zmp hk]
    exact zdu (low out)
   exact .left la lb rfl (.own rfl rfl)
  ·have hmt:metA (.hole x) out=out ++ [x.toNat]:=by
    unfold metA
    rw [if_neg (by simpa using hc)]
   rw [hmt] at hm ⊢
   have hi:ixN x.toNat ms=out.length:=by
    rw [← hm,List.append_assoc]
    exact zbvb hc
   rw [hi,zp5,Nat.add_zero,hx]
   have hk:=zwq out 0 out.length (Nat.le_refl _)
   rw [Nat.add_zero] at hk
   have hout:∀ y∈out ++ [x.toNat],y < 6:=fun y hy=>h6 y (by rw [← hm]; exact List.mem_append.2 (.inl hy))
   have hfit:=zpcb (out ++ [x.toNat]) hout (d + 1)
   rw [zp5,Nat.add_zero,hx] at hfit
   refine .left (zdu hk) lb rfl (.put ?_ ?_ ?_ hk hfit)
   ·rintro ⟨_,e⟩
    have e:x=((10 + out.length:Nat):Int):=e
    omega
   ·rintro ⟨_,e⟩
    have e:x > ((10 + out.length:Nat):Int):=e
    omega
   ·rw [U.withinF]
    rw [zdu (low out)]
    have hne:¬ ((U.tMeta x).f=1∧(U.tMeta x).n=(U.tMeta ((10 + out.length:Nat):Int)).n):=by
     rintro ⟨_,e⟩
     have e:x=((10 + out.length:Nat):Int):=e
     omega
    simp only [Option.bind_some,if_neg hne]
    rfl
theorem zvj (ms:List Nat) (h6:∀ m∈ms,m < 6):∀ (d:Nat) (t:Tp) (out:List Nat),smB t→(∀ x∈metA t out,x∈ms)→nT t≤d→U.applyF (d + 3) (kkL 0 ms) (to (im ms t))=some (to t)∧U.applyF (d + 3) (kkL 0 ms) (to t)=some (to t)
 | d,.con c,out,_,_,_=>by
  have e:(to (.con c)).f≠1:=by show (3:Int)≠1; omega
  have h:U.applyF (d + 3) (kkL 0 ms) (to (.con c))=some (to (.con c)):=by
   rw [U.applyF,zef e]
   rfl
  exact ⟨h,h⟩
 | d,.var c,out,_,_,_=>by
  have e:(to (.var c)).f≠1:=by show (2:Int)≠1; omega
  have h:U.applyF (d + 3) (kkL 0 ms) (to (.var c))=some (to (.var c)):=by
   rw [U.applyF,zef e]
   rfl
  exact ⟨h,h⟩
 | d,.app f a,out,hb,hm,hn=>by
  simp only [nT] at hn
  obtain ⟨d,rfl⟩:∃ k,d=k + 1:=⟨d - 1,by omega⟩
  have e:(to (.app f a)).f≠1:=by show (4:Int)≠1; omega
  have e2:(to (im ms (.app f a))).f≠1:=by show (4:Int)≠1; omega
  have h1:=zvj ms h6 d f out hb.1 (fun x hx=>hm x (zjq a _ x hx)) (by omega)
  have h2:=zvj ms h6 d a (metA f out) hb.2 hm (by omega)
  constructor
  ·rw [U.applyF,zef e2]
   show (U.mapF (U.applyF (d + 3) (kkL 0 ms)) [to (im ms f),to (im ms a)]).bind _=_
   simp only [U.mapF,h1.1,h2.1,Option.bind_some]
   rfl
  ·rw [U.applyF,zef e]
   show (U.mapF (U.applyF (d + 3) (kkL 0 ms)) [to f,to a]).bind _=_
   simp only [U.mapF,h1.2,h2.2,Option.bind_some]
   rfl
 | d,.hole x,out,hb,hm,hn=>by
  have hx:(x.toNat:Int)=x:=by have:=hb.1; omega
  have hms:x.toNat∈ms:=by
   apply hm
   unfold metA
   split
   ·rename_i hc
    simpa using hc
   ·simp
  have low:U.kno x (kkL 0 ms)=none:=zot ms 0 x (by have:=hb.2; omega)
  have hlt:=zjm hms
  have hk:=zos ms 0 (ixN x.toNat ms) hlt
  rw [zkx hms,hx,Nat.add_zero] at hk
  have ei:to (im ms (.hole x))=U.tMeta ((10 + ixN x.toNat ms:Nat):Int):=by simp only [im,if_pos hms,to]
  constructor
  ·rw [ei,U.applyF,zmp hk,zdu low]
   rfl
  ·show U.applyF (d + 3) (kkL 0 ms) (U.tMeta x)=some (U.tMeta x)
   rw [U.applyF,zdu low]
   rfl
end Go.Fu
namespace Go.Fu
open Go Go.Mx
set_option maxRecDepth 10000
section
variable {C:CallF} {n:Nat} {σ:Store}
def EEs (l:List (List UInt8)) (i:Nat):Env:={slots:=[(0,⟨false,dSs l⟩),(1,⟨false,dSs l⟩),(12,⟨false,.int .i64 l.length⟩),(13,⟨false,.int .i64 i⟩)],locs:=[],boxes:=[],defers:=[]}
theorem zjqb (l:List (List UInt8)) (i:Nat) (h:i < l.length) (hl:l.length < 1000):exec C n none a_87 (EEs l i) σ=some (.normal,EEs l (i + 1),σ):=by
 have hi:((i:Int) < (l.length:Int)):=by omega
 have hx:zaw 1 (dSs l) i=some (.eptr (.str l[i])):=idx_S l i h
 have he:(l[i] == l[i])=true:=by simp
 simp only [a_87,EEs,sA,Nat.reduceAdd,Nat.reduceSub,Nat.reduceMul,Nat.reduceBEq,Nat.reduceLeDiff,Int.reduceBEq,Int.reduceBNe,Int.reduceLE,Int.reduceLT,Int.reduceGE,Int.reduceGT,Int.reduceNeg,kn,zeroI,lit1,lit2,lit3,lit4,lit5,lit6,lit7,lit8,fnq,hi,hx,he,zaj (i:=i) (by omega)]
theorem zm0b (l:List (List UInt8)):exec C n none a_87 (EEs l l.length) σ=some (.exit 0,{EEs l l.length with slots:=[(0,⟨false,dSs l⟩),(1,⟨false,dSs l⟩),(12,⟨false,.int .i64 l.length⟩),(13,⟨false,.int .i64 l.length⟩),(14,⟨false,.bool false⟩)]},σ):=by
 have hi:¬ ((l.length:Int) < (l.length:Int)):=by omega
 simp only [a_87,EEs,sA,Nat.reduceAdd,Nat.reduceSub,Nat.reduceMul,Nat.reduceBEq,Nat.reduceLeDiff,Int.reduceBEq,Int.reduceBNe,Int.reduceLE,Int.reduceLT,Int.reduceGE,Int.reduceGT,Int.reduceNeg,kn,hi]
def EEp (ps:List Pr) (i:Nat):Env:={slots:=[(1,⟨false,dPs ps⟩),(2,⟨false,.fn (.func n_49) [] []⟩),(15,⟨false,dPs ps⟩),(16,⟨false,.int .i64 ps.length⟩),(17,⟨false,.int .i64 i⟩)],locs:=[],boxes:=[],defers:=[]}
theorem zjpb (ps:List Pr) (i:Nat) (h:i < ps.length) (hl:ps.length < 1000) (hc:C n_49 [dP ps[i],dP ps[i]] σ=some (.ret ⟨false,.bool true⟩,σ)):exec C n none a_86 (EEp ps i) σ=some (.normal,EEp ps (i + 1),σ):=by
 have hi:((i:Int) < (ps.length:Int)):=by omega
 have hx:zaw 5 (dPs ps) i=some (.eptr (dP ps[i])):=idx_P ps i h
 simp only [dP,cT] at hc hx
 simp only [a_86,EEp,sA,Nat.reduceAdd,Nat.reduceSub,Nat.reduceMul,Nat.reduceBEq,Nat.reduceLeDiff,Int.reduceBEq,Int.reduceBNe,Int.reduceLE,Int.reduceLT,Int.reduceGE,Int.reduceGT,Int.reduceNeg,kn,zeroI,lit1,lit2,lit3,lit4,lit5,lit6,lit7,lit8,fnq,Mx.part,hi,hx,hc,zaj (i:=i) (by omega)]
theorem zmzb (ps:List Pr):exec C n none a_86 (EEp ps ps.length) σ=some (.exit 0,{EEp ps ps.length with slots:=[(1,⟨false,dPs ps⟩),(2,⟨false,.fn (.func n_49) [] []⟩),(15,⟨false,dPs ps⟩),(16,⟨false,.int .i64 ps.length⟩),(17,⟨false,.int .i64 ps.length⟩),(18,⟨false,.bool false⟩)]},σ):=by
 have hi:¬ ((ps.length:Int) < (ps.length:Int)):=by omega
 simp only [a_86,EEp,sA,Nat.reduceAdd,Nat.reduceSub,Nat.reduceMul,Nat.reduceBEq,Nat.reduceLeDiff,Int.reduceBEq,Int.reduceBNe,Int.reduceLE,Int.reduceLT,Int.reduceGE,Int.reduceGT,Int.reduceNeg,kn,hi]
end
theorem zmnb (l:List (List UInt8)) (hl:l.length < 1000):Evly fun n=>∀ σ,T n n_224 [dSs l,dSs l] σ=some (.ret ⟨false,.bool true⟩,σ) :=
 (Evly.all (p:=fun _=>True) fun _=>trivial).step (l.length + 2) fun m hm _ σ=>by
 have hloop:=zbz (body:=exec (T m) m none a_87) (EEs l) (fun _=>σ) l.length (r:=_) (fun _ _ h=>by cases h) (fun i hi=>zjqb l i hi hl) (zm0b l) 0 m (by omega) (by omega)
 have hln:lenOf (dSs l)=some l.length:=by simp only [dSs,zbs,List.length_map]
 have hne:((l.length:Int) != (l.length:Int))=false:=by simp
 simp only [EEs,zeroI] at hloop
 rw [T_fun (af:=a_154) rfl rfl]
 simp only [a_154,sA,Nat.reduceAdd,Nat.reduceSub,Nat.reduceMul,Nat.reduceBEq,Nat.reduceLeDiff,Int.reduceBEq,Int.reduceBNe,Int.reduceLE,Int.reduceLT,Int.reduceGE,Int.reduceGT,Int.reduceNeg,kn,zeroI,lit1,lit2,lit3,lit4,lit5,lit6,lit7,lit8,fnq,hln,hne,hloop]
theorem ziqb (p:Pr):byC p p=0:=by
 have h1:cmpS p.cls p.cls=0:=zop.2 rfl
 have h2:cmpS (prT p.ty 0) (prT p.ty 0)=0:=zop.2 rfl
 unfold byC
 rw [h1,h2]
 rfl
theorem zhxb (p:Pr) (hp:okP p):Evly fun n=>∀ σ,T n n_49 [dP p,dP p] σ=some (.ret ⟨false,.bool true⟩,σ):=(zsh p p hp hp).step 0 fun m _ h σ=>by
 have h1:=h σ
 rw [ziqb] at h1
 simp only [dP,cT] at h1 ⊢
 rw [T_fun (af:=a_148) rfl rfl]
 simp only [a_148,sA,Nat.reduceAdd,Nat.reduceSub,Nat.reduceMul,Nat.reduceBEq,Nat.reduceLeDiff,Int.reduceBEq,Int.reduceBNe,Int.reduceLE,Int.reduceLT,Int.reduceGE,Int.reduceGT,Int.reduceNeg,kn,zeroI,lit1,lit2,lit3,lit4,lit5,lit6,lit7,lit8,fnq,h1]
theorem zmmb (ps:List Pr) (hl:ps.length < 1000) (hok:∀ p∈ps,okP p):Evly fun n=>∀ σ,T n n_223 [dPs ps,dPs ps,.fn (.func n_49) [] []] σ=some (.ret ⟨false,.bool true⟩,σ):=by
 have hc:Evly fun n=>∀ i,i < ps.length→∀ h:i < ps.length,∀ σ,T n n_49 [dP ps[i],dP ps[i]] σ=some (.ret ⟨false,.bool true⟩,σ):=Evly.below _ fun i hi=>(zhxb ps[i] (hok _ (List.getElem_mem hi))).mono fun n h _ σ=>h σ
 refine hc.step (ps.length + 2) fun m hm h σ=>?_
 have hloop:=zbz (body:=exec (T m) m none a_86) (EEp ps) (fun _=>σ) ps.length (r:=_) (fun _ _ h=>by cases h) (fun i hi=>zjpb ps i hi hl (h i hi hi σ)) (zmzb ps) 0 m (by omega) (by omega)
 have hln:lenOf (dPs ps)=some ps.length:=by simp only [dPs,zbs,List.length_map]
 have hne:((ps.length:Int) != (ps.length:Int))=false:=by simp
 simp only [EEp,zeroI] at hloop
 rw [T_fun (af:=a_153) rfl rfl]
 simp only [a_153,sA,Nat.reduceAdd,Nat.reduceSub,Nat.reduceMul,Nat.reduceBEq,Nat.reduceLeDiff,Int.reduceBEq,Int.reduceBNe,Int.reduceLE,Int.reduceLT,Int.reduceGE,Int.reduceGT,Int.reduceNeg,kn,zeroI,lit1,lit2,lit3,lit4,lit5,lit6,lit7,lit8,fnq,hln,hne,hloop]
theorem zhhb:Evly fun n=>∀ (s:List UInt8) σ,T n n_201 [.nils,.str s] σ=some (.ret ⟨false,.int .i64 (-1)⟩,σ):=⟨3,fun n hn s σ=>by
 obtain ⟨m,rfl⟩:∃ m,n=m + 2:=⟨n - 2,by omega⟩
 have hl:loopN (exec (T (m + 1)) (m + 1) none a_187) (m + 1) {slots:=[(0,⟨false,.nils⟩),(1,⟨false,.str s⟩),(8,⟨false,.int .i64 0⟩),(9,⟨false,.int .i64 0⟩)],locs:=[],boxes:=[],defers:=[]} σ=some (.exit 0,{slots:=[(0,⟨false,.nils⟩),(1,⟨false,.str s⟩),(8,⟨false,.int .i64 0⟩),(9,⟨false,.int .i64 0⟩),(10,⟨false,.bool false⟩)],locs:=[],boxes:=[],defers:=[]},σ):=za6 (by
  simp only [a_187,sA,Nat.reduceAdd,Nat.reduceSub,Nat.reduceMul,Nat.reduceBEq,Nat.reduceLeDiff,Int.reduceBEq,Int.reduceBNe,Int.reduceLE,Int.reduceLT,Int.reduceGE,Int.reduceGT,Int.reduceNeg,kn,zeroI,lit1,lit2,lit3,lit4,lit5,lit6,lit7,lit8,fnq])
 rw [T_fun (af:=a_162) rfl rfl]
 simp only [a_162,sA,Nat.reduceAdd,Nat.reduceSub,Nat.reduceMul,Nat.reduceBEq,Nat.reduceLeDiff,Int.reduceBEq,Int.reduceBNe,Int.reduceLE,Int.reduceLT,Int.reduceGE,Int.reduceGT,Int.reduceNeg,kn,zeroI,lit1,lit2,lit3,lit4,lit5,lit6,lit7,lit8,fnq,hl]⟩
section
variable {C:CallF} {n:Nat} {σ:Store}
def ESm (f a:Tp) (i:Nat):Env:={slots:=[(2,⟨false,.nils⟩),(3,⟨false,.nils⟩),(97,⟨false,.int .i64 2⟩),(98,⟨false,.int .i64 i⟩)],locs:=[(4,4,0),(5,5,0)],boxes:=[(4,bA f a),(5,bA f a)],defers:=[]}
theorem zghb (f a:Tp) (h:C n_106 [dT f,dT f,.nils,.nils] σ=some (.ret ⟨false,.bool true⟩,σ)):exec C n none a_44 (ESm f a 0) σ=some (.normal,ESm f a 1,σ):=by
 have w1:IntKind.i64.wrap (0 + 1)=1:=by decide
 rw [dT_eq f] at h
 simp only [cT] at h
 simp only [a_44,ESm,bA,sA,Nat.reduceAdd,Nat.reduceSub,Nat.reduceMul,Nat.reduceBEq,Nat.reduceLeDiff,Int.reduceBEq,Int.reduceBNe,Int.reduceLE,Int.reduceLT,Int.reduceGE,Int.reduceGT,Int.reduceNeg,kn,zeroI,lit1,lit2,lit3,lit4,lit5,lit6,lit7,lit8,fnq,Mx.part,dT_eq f,dT_eq a,cT,w1,h]
theorem zgib (f a:Tp) (h:C n_106 [dT a,dT a,.nils,.nils] σ=some (.ret ⟨false,.bool true⟩,σ)):exec C n none a_44 (ESm f a 1) σ=some (.normal,ESm f a 2,σ):=by
 have w1:IntKind.i64.wrap (1 + 1)=2:=by decide
 rw [dT_eq a] at h
 simp only [cT] at h
 simp only [a_44,ESm,bA,sA,Nat.reduceAdd,Nat.reduceSub,Nat.reduceMul,Nat.reduceBEq,Nat.reduceLeDiff,Int.reduceBEq,Int.reduceBNe,Int.reduceLE,Int.reduceLT,Int.reduceGE,Int.reduceGT,Int.reduceNeg,kn,zeroI,lit1,lit2,lit3,lit4,lit5,lit6,lit7,lit8,fnq,Mx.part,dT_eq f,dT_eq a,cT,w1,h]
theorem zncb (f a:Tp):exec C n none a_44 (ESm f a 2) σ=some (.exit 1,{ESm f a 2 with slots:=[(2,⟨false,.nils⟩),(3,⟨false,.nils⟩),(97,⟨false,.int .i64 2⟩),(98,⟨false,.int .i64 2⟩),(99,⟨false,.bool false⟩)]},σ):=by
 simp only [a_44,ESm,sA,Nat.reduceAdd,Nat.reduceSub,Nat.reduceMul,Nat.reduceBEq,Nat.reduceLeDiff,Int.reduceBEq,Int.reduceBNe,Int.reduceLE,Int.reduceLT,Int.reduceGE,Int.reduceGT,Int.reduceNeg,kn,zeroI,lit1,lit2,lit3,lit4,lit5,lit6,lit7,lit8,fnq]
theorem zb3b (f x:Int) (s:List UInt8):exec C n none a_44 {slots:=[(2,⟨false,.nils⟩),(3,⟨false,.nils⟩),(97,⟨false,.int .i64 0⟩),(98,⟨false,.int .i64 0⟩)],locs:=[(4,4,0),(5,5,0)],boxes:=[(4,[⟨false,.int .i64 f⟩,⟨false,.int .i64 x⟩,⟨false,.str s⟩,⟨false,.nils⟩]),(5,[⟨false,.int .i64 f⟩,⟨false,.int .i64 x⟩,⟨false,.str s⟩,⟨false,.nils⟩])],defers:=[]} σ =
  some (.exit 1,{slots:=[(2,⟨false,.nils⟩),(3,⟨false,.nils⟩),(97,⟨false,.int .i64 0⟩),(98,⟨false,.int .i64 0⟩),(99,⟨false,.bool false⟩)],locs:=[(4,4,0),(5,5,0)],boxes:=[(4,[⟨false,.int .i64 f⟩,⟨false,.int .i64 x⟩,⟨false,.str s⟩,⟨false,.nils⟩]),(5,[⟨false,.int .i64 f⟩,⟨false,.int .i64 x⟩,⟨false,.str s⟩,⟨false,.nils⟩])],defers:=[]},σ):=by
 simp only [a_44,sA,Nat.reduceAdd,Nat.reduceSub,Nat.reduceMul,Nat.reduceBEq,Nat.reduceLeDiff,Int.reduceBEq,Int.reduceBNe,Int.reduceLE,Int.reduceLT,Int.reduceGE,Int.reduceGT,Int.reduceNeg,kn,zeroI,lit1,lit2,lit3,lit4,lit5,lit6,lit7,lit8,fnq]
end
theorem zqk:∀ t:Tp,Evly fun n=>∀ σ,T n n_106 [dT t,dT t,.nils,.nils] σ=some (.ret ⟨false,.bool true⟩,σ)
 | .var s=>zhhb.step 2 fun m hm h σ=>by
   have h1:=h s σ
   have he:(s == s)=true:=by simp
   rw [T_fun (af:=a_36) rfl rfl]
   simp only [a_36,sA,Nat.reduceAdd,Nat.reduceSub,Nat.reduceMul,Nat.reduceBEq,Nat.reduceLeDiff,Int.reduceBEq,Int.reduceBNe,Int.reduceLE,Int.reduceLT,Int.reduceGE,Int.reduceGT,Int.reduceNeg,kn,zeroI,lit1,lit2,lit3,lit4,lit5,lit6,lit7,lit8,fnq,dT,h1,he]
 | .con s=>(Evly.all (p:=fun _=>True) fun _=>trivial).step 2 fun m hm _ σ=>by
   obtain ⟨j,rfl⟩:∃ j,m=j + 1:=⟨m - 1,by omega⟩
   have hl:=za6 (k:=j) (zb3b (C:=T (j + 1)) (n:=j + 1) (σ:=σ) 3 0 s)
   have he:(s == s)=true:=by simp
   rw [T_fun (af:=a_36) rfl rfl]
   simp only [a_36,sA,Nat.reduceAdd,Nat.reduceSub,Nat.reduceMul,Nat.reduceBEq,Nat.reduceLeDiff,Int.reduceBEq,Int.reduceBNe,Int.reduceLE,Int.reduceLT,Int.reduceGE,Int.reduceGT,Int.reduceNeg,kn,zeroI,lit1,lit2,lit3,lit4,lit5,lit6,lit7,lit8,fnq,dT,hl,he]
 | .hole x=>(Evly.all (p:=fun _=>True) fun _=>trivial).step 2 fun m hm _ σ=>by
   obtain ⟨j,rfl⟩:∃ j,m=j + 1:=⟨m - 1,by omega⟩
   have hl:=za6 (k:=j) (zb3b (C:=T (j + 1)) (n:=j + 1) (σ:=σ) 1 x [])
   have he:(([]:List UInt8) == [])=true:=by simp
   have hx:(x != x)=false:=by simp
   rw [T_fun (af:=a_36) rfl rfl]
   simp only [a_36,sA,Nat.reduceAdd,Nat.reduceSub,Nat.reduceMul,Nat.reduceBEq,Nat.reduceLeDiff,Int.reduceBEq,Int.reduceBNe,Int.reduceLE,Int.reduceLT,Int.reduceGE,Int.reduceGT,Int.reduceNeg,kn,zeroI,lit1,lit2,lit3,lit4,lit5,lit6,lit7,lit8,fnq,dT,hl,he,hx]
 | .app f a=>((zqk f).and (zqk a)).step 4 fun m hm h σ=>by
   obtain ⟨j,rfl⟩:∃ j,m=j + 3:=⟨m - 3,by omega⟩
   have hl:=(zb2 (k:=j + 2) (zghb (C:=T (j + 3)) (n:=j + 3) f a (h.1 σ))).trans ((zb2 (k:=j + 1) (zgib (C:=T (j + 3)) (n:=j + 3) f a (h.2 σ))).trans (za6 (k:=j) (zncb (C:=T (j + 3)) (n:=j + 3) f a)))
   have he:(([]:List UInt8) == [])=true:=by simp
   simp only [ESm,bA,zeroI] at hl
   rw [T_fun (af:=a_36) rfl rfl]
   simp only [a_36,sA,Nat.reduceAdd,Nat.reduceSub,Nat.reduceMul,Nat.reduceBEq,Nat.reduceLeDiff,Int.reduceBEq,Int.reduceBNe,Int.reduceLE,Int.reduceLT,Int.reduceGE,Int.reduceGT,Int.reduceNeg,kn,zeroI,lit1,lit2,lit3,lit4,lit5,lit6,lit7,lit8,fnq,dT,hl,he]
theorem zcmb (t:Tp):Evly fun n=>∀ σ,T n n_199 [dT t,dT t] σ=some (.ret ⟨false,.bool true⟩,σ):=(zqk t).step 0 fun m _ h σ=>by
 have h1:=h σ
 rw [dT_eq t] at h1 ⊢
 simp only [cT] at h1 ⊢
 rw [T_fun (af:=a_160) rfl rfl]
 simp only [a_160,sA,Nat.reduceAdd,Nat.reduceSub,Nat.reduceMul,Nat.reduceBEq,Nat.reduceLeDiff,Int.reduceBEq,Int.reduceBNe,Int.reduceLE,Int.reduceLT,Int.reduceGE,Int.reduceGT,Int.reduceNeg,kn,zeroI,lit1,lit2,lit3,lit4,lit5,lit6,lit7,lit8,fnq,h1]
theorem zacb (x y:D) (hx:x.ok=true∧∃ a b c u,x=.agg (dSs a :: .nils :: dPs b :: cT c)∧u=c) (hy:∃ a b c u,y=.agg (dSs a :: .nils :: dPs b :: cT c)∧u=c) (L:List (List UInt8)) (P:List Pr) (t:Tp) (hL:L.length < 1000) (hP:P.length < 1000) (hok:∀ p∈P,okP p)
  (h1:Evly fun n=>∀ σ,WF σ→∃ σ',T n n_73 [x] σ=some (.ret ⟨false,scD L P t⟩,σ')∧Ext σ σ') (h2:Evly fun n=>∀ σ,WF σ→∃ σ',T n n_73 [y] σ=some (.ret ⟨false,scD L P t⟩,σ')∧Ext σ σ') :
  Evly fun n=>∀ σ,WF σ→∃ σ',T n n_120 [x,y] σ=some (.ret ⟨false,.bool true⟩,σ')∧Ext σ σ' :=
 (h1.and (h2.and ((zmnb L hL).and ((zmmb P hP hok).and (zcmb t))))).step 2 fun m hm h σ hw=>by
 obtain ⟨e1,e2,e3,e4,e5⟩:=h
 obtain ⟨σ1,g1,x1⟩:=e1 σ hw
 obtain ⟨σ2,g2,x2⟩:=e2 σ1 x1.wf
 have f3:=e3 σ2
 have f4:=e4 σ2
 have f5:=e5 σ2
 refine ⟨σ2,?_,x1.trans x2⟩
 obtain ⟨_,a,b,c,u,rfl,_⟩:=hx
 obtain ⟨a',b',c',u',rfl,_⟩:=hy
 rw [dT_eq t] at f5
 simp only [scD,cT] at g1 g2 f5 ⊢
 rw [T_fun (af:=a_147) rfl rfl]
 simp only [a_147,sA,Nat.reduceAdd,Nat.reduceSub,Nat.reduceMul,Nat.reduceBEq,Nat.reduceLeDiff,Int.reduceBEq,Int.reduceBNe,Int.reduceLE,Int.reduceLT,Int.reduceGE,Int.reduceGT,Int.reduceNeg,kn,zeroI,lit1,lit2,lit3,lit4,lit5,lit6,lit7,lit8,fnq,g1,g2,f3,f4,f5]
end Go.Fu
