/-
 The free names of core.
-/
import Derived.Test.YtldfbnbckiifeaaGreatDoorFgL
set_option maxHeartbeats 4000000
set_option linter.unusedSimpArgs false
set_option linter.unusedVariables false
set_option linter.unusedSectionVars false
namespace Go.Fu
open Go Go.Mx
set_option maxRecDepth 10000
def hasN (l:List Tx) (s:Tx):Bool:=l.any (· == s)
def c0:Co:=.mk 0 0 [] [] [] []
def newF (c:Co) (g s h:List Tx):Bool:=(((c.f == 1) && !hasN g c.s) && hasN s c.s) && !hasN h c.s
def freeM:Nat→Co→List Tx→List Tx→List Tx→List Tx
 | 0,_,_,_,h=>h
 | k + 1,c,g,s,h=>ifB (newF c g s h) (h ++ [c.s]) ((List.range (zae c).length).foldl (fun h i=>freeM k ((zae c).getD i c0) (g ++ zay c i) s h) h)
theorem zl2 {α β:Type} {f g:β→α→β}:∀ (l:List α) (b:β),(∀ a∈l,∀ b,f b a=g b a)→l.foldl f b=l.foldl g b
 | [],_,_=>rfl
 | a :: l,b,h=>by
  simp only [List.foldl_cons]
  rw [h a (List.mem_cons_self ..) b]
  exact zl2 l _ fun x hx=>h x (List.mem_cons_of_mem _ hx)
theorem zcgb:∀ (m:Nat) (c:Co),c.size=m→∀ (k k':Nat) (g s h:List Tx),c.size≤k→c.size≤k'→freeM k c g s h=freeM k' c g s h:=by
 intro m
 induction m using Nat.strongRecOn with
 | ind m ih =>
  intro c hm k k' g s h hk hk'
  have hp:=zck c
  obtain ⟨k,rfl⟩:∃ j,k=j + 1:=⟨k - 1,by omega⟩
  obtain ⟨k',rfl⟩:∃ j,k'=j + 1:=⟨k' - 1,by omega⟩
  simp only [freeM]
  congr 1
  refine zl2 _ _ fun i hi b=>?_
  have hi:=List.mem_range.1 hi
  rw [zaq _ _ _ hi]
  have hlt:=zfp c _ (List.getElem_mem hi)
  exact ih _ (by omega) _ rfl _ _ _ _ _ (by omega) (by omega)
theorem zkd:∀ (m:Nat) (c:Co) (g s h:List Tx),(freeM m c g s h).length≤h.length + c.size
 | 0,c,g,s,h=>by simp [freeM]
 | m + 1,c,g,s,h=>by
  simp only [freeM]
  have hp:=zck c
  cases newF c g s h with
  | true=>simp only [zac,List.length_append,List.length_cons,List.length_nil]; omega
  | false =>
   simp only [zab]
   have hf:∀ (n:Nat) (h:List Tx),n≤(zae c).length→((List.range n).foldl (fun h i=>freeM m ((zae c).getD i c0) (g ++ zay c i) s h) h).length≤h.length + szK ((zae c).take n):=by
    intro n
    induction n with
    | zero=>intro h _; simp
    | succ n ihn =>
     intro h hn
     rw [List.range_succ,List.foldl_append]
     simp only [List.foldl_cons,List.foldl_nil]
     have h1:=zkd m ((zae c).getD n c0) (g ++ zay c n) s ((List.range n).foldl (fun h i=>freeM m ((zae c).getD i c0) (g ++ zay c i) s h) h)
     have h2:=ihn h (by omega)
     rw [← za9 (zae c) n (by omega),zei]
     rw [zaq _ _ _ (show n < (zae c).length by omega)] at h1 ⊢
     simp only [szK,Nat.add_zero]
     omega
   have:=hf (zae c).length h (Nat.le_refl _)
   rw [List.take_length] at this
   have hs:szK (zae c)≤c.size:=by
    have hsz:=za2 c
    have hbs:∀ l:List (Tx × Co),szK (l.map Prod.snd)≤szB l:=by
     intro l
     induction l with
     | nil=>simp [szK,szB]
     | cons x r ih=>obtain ⟨t,d⟩:=x; simp only [List.map_cons,szK,szB]; omega
    have has:∀ l:List (Hd × Co),szK (l.map Prod.snd)≤szA l:=by
     intro l
     induction l with
     | nil=>simp [szK,szA]
     | cons x r ih=>obtain ⟨t,d⟩:=x; simp only [List.map_cons,szK,szA]; omega
    rw [zae,zei,zei]
    have:=hbs c.bs
    have:=has c.al
    omega
   omega
def SFr:Specs:=[(n_18,sp_in),(n_36,zj2),(n_35,zqc),(n_3,zh1),(n_44,fun ds c=>∀ co g s h,ds=[dCo co,dSs g,dSs s,dSs h]→c=⟨false,dSs (freeM co.size co g s h)⟩)]
def zbbb:List D→Cell→Prop:=fun ds c=>∀ co g s h,ds=[dCo co,dSs g,dSs s,dSs h]→c=⟨false,dSs (freeM co.size co g s h)⟩
theorem call_Free' {S:Specs} (hS:aget S n_44=some zbbb) (co:Co) (g s h:List Tx) (hp:OkP n_44 [dCo co,dSs g,dSs s,dSs h] ⟨false,dSs (freeM co.size co g s h)⟩) (n:Nat) (σ:Store):T S (n + 1) n_44 [dCo co,dSs g,dSs s,dSs h] σ=some (.ret ⟨false,dSs (freeM co.size co g s h)⟩,σ):=by
 obtain ⟨c,h1,h2⟩:=T_orc (S:=S) hS rfl (c:=⟨false,dSs (freeM co.size co g s h)⟩) (fun co' g' s' h' e=>by
  simp only [List.cons.injEq,and_true] at e
  rw [zcs e.1,zba e.2.1,zba e.2.2.1,zba e.2.2.2]) hp
 rw [h2,h1 co g s h rfl]
section
variable {C:CallF} {n:Nat} {σ:Store}
def hadM (c:Co) (g s h:List Tx) (i:Nat):List Tx:=(List.range i).foldl (fun h i=>freeM ((zae c).getD i c0).size ((zae c).getD i c0) (g ++ zay c i) s h) h
theorem zs7 (c:Co) (g s h:List Tx) (i:Nat) (hi:i < (zae c).length):hadM c g s h (i + 1)=freeM (zae c)[i].size (zae c)[i] (g ++ zay c i) s (hadM c g s h i):=by
 rw [hadM,List.range_succ,List.foldl_append]
 simp only [List.foldl_cons,List.foldl_nil,zaq _ _ _ hi]
 rfl
theorem zh9b (c:Co) (g s h:List Tx) (hn:newF c g s h=false):hadM c g s h (zae c).length=freeM c.size c g s h:=by
 have hp:=zck c
 obtain ⟨k,hk⟩:∃ k,c.size=k + 1:=⟨c.size - 1,by omega⟩
 rw [hk]
 simp only [freeM,hn,zab,hadM]
 refine zl2 _ _ fun i hi b=>?_
 have hi:=List.mem_range.1 hi
 rw [zaq _ _ _ hi]
 have hlt:=zfp c _ (List.getElem_mem hi)
 exact zcgb _ _ rfl _ _ _ _ _ (Nat.le_refl _) (by omega)
def Efr (c:Co) (g s h:List Tx) (i:Nat):Env:={slots:=[(1,⟨false,dSs g⟩),(2,⟨false,dSs s⟩),(3,⟨false,dSs (hadM c g s h i)⟩),(12,⟨false,dCs (zae c)⟩),(13,⟨false,.int .i64 i⟩)],locs:=[(4,4,0)],boxes:=[(4,bC c)],defers:=[]}
theorem zkub (c:Co) (g s h:List Tx) (i:Nat) (hi:i < (zae c).length) (hl:(zae c).length < 100000000) (hg:C n_35 [dCo c,.int .i64 i] σ=some (.ret ⟨false,dSs (zay c i)⟩,σ)) (hb:C n_3 [dSs g,dSs (zay c i)] σ=some (.ret ⟨false,dSs (g ++ zay c i)⟩,σ))
  (hc:C n_44 [dCo (zae c)[i],dSs (g ++ zay c i),dSs s,dSs (hadM c g s h i)] σ=some (.ret ⟨false,dSs (freeM (zae c)[i].size (zae c)[i] (g ++ zay c i) s (hadM c g s h i))⟩,σ)):exec C n none a_101 (Efr c g s h i) σ=some (.normal,Efr c g s h (i + 1),σ):=by
 have hlt:((i:Int) < ((zae c).length:Int)):=by omega
 have hx:=idx_C (zae c) i hi
 have hd:=zaf (zae c)[i]
 rw [← zs7 c g s h i hi] at hc
 rw [hd] at hc hx
 rw [zaf c,zaj] at hg
 simp only [a_101,Efr,bC,sA,seval,kn,len_C,hlt,natI,hx,zgb,zcc,hg,hb,hc,zag (i:=i) (by omega)]
theorem znmb (c:Co) (g s h:List Tx):exec C n none a_101 (Efr c g s h (zae c).length) σ=some (.exit 0,{Efr c g s h (zae c).length with slots:=[(1,⟨false,dSs g⟩),(2,⟨false,dSs s⟩),(3,⟨false,dSs (hadM c g s h (zae c).length)⟩),(12,⟨false,dCs (zae c)⟩),(13,⟨false,.int .i64 (zae c).length⟩),(51,⟨false,.bool false⟩)]},σ):=by
 have hi:¬ (((zae c).length:Int) < ((zae c).length:Int)):=by omega
 simp only [a_101,Efr,bC,sA,seval,kn,len_C,hi]
end
theorem zvv (c:Co) (g s h:List Tx):∀ i,i≤(zae c).length→(hadM c g s h i).length≤h.length + szK ((zae c).take i)
 | 0,_=>by simp [hadM]
 | i + 1,hi=>by
  rw [zs7 c g s h i (by omega)]
  have h1:=zkd (zae c)[i].size (zae c)[i] (g ++ zay c i) s (hadM c g s h i)
  have h2:=zvv c g s h i (by omega)
  rw [← za9 (zae c) i (by omega),zei]
  simp only [szK,Nat.add_zero]
  omega
theorem zg3b (c:Co):szK (zae c)≤c.size:=by
 have hsz:=za2 c
 have hbs:∀ l:List (Tx × Co),szK (l.map Prod.snd)≤szB l:=by
  intro l
  induction l with
  | nil=>simp [szK,szB]
  | cons x r ih=>obtain ⟨t,d⟩:=x; simp only [List.map_cons,szK,szB]; omega
 have has:∀ l:List (Hd × Co),szK (l.map Prod.snd)≤szA l:=by
  intro l
  induction l with
  | nil=>simp [szK,szA]
  | cons x r ih=>obtain ⟨t,d⟩:=x; simp only [List.map_cons,szK,szA]; omega
 rw [zae,zei,zei]
 have:=hbs c.bs
 have:=has c.al
 omega
theorem zxo (l:List Co) (i:Nat) (h:i < l.length):szK (l.take i) + l[i].size≤szK l:=by
 have:szK l=szK (l.take (i + 1)) + szK (l.drop (i + 1)):=by rw [← zei,List.take_append_drop]
 rw [this,← za9 l i h,zei]
 simp only [szK]
 omega
theorem zqw (c:Co) (i:Nat) (hi:i < (zae c).length):(zay c i).length + (zae c)[i].size≤c.size:=by
 have hsz:=za2 c
 have hlen:=ze9 c
 have hb:=zbv c.bs
 unfold zay
 split
 ·rw [zaq _ _ _ (by simp; omega),List.getElem_map]
  have hm:=ze0 c.al _ (List.getElem_mem (show i - (c.bs.length + c.ks.length) < c.al.length by omega))
  have he:(zae c)[i]=c.al[i - (c.bs.length + c.ks.length)].2:=by
   simp only [zae]
   rw [List.getElem_append_right (by simp; omega),List.getElem_map]
   congr 2
   simp
  rw [he]
  omega
 ·rename_i hge
  have hm:(zae c)[i].size≤szB c.bs - c.bs.length + szK c.ks:=by
   have hin:(zae c)[i]∈c.bs.map Prod.snd ++ c.ks:=by
    simp only [zae]
    rw [List.getElem_append_left (by simp; omega)]
    exact List.getElem_mem _
   have hbl:∀ (l:List (Tx × Co)) (x:Tx × Co),x∈l→x.2.size + l.length≤szB l:=by
    intro l
    induction l with
    | nil=>intro x hx; cases hx
    | cons y r ihl =>
     intro x hx
     obtain ⟨s,c'⟩:=y
     simp only [szB,List.length_cons]
     rcases List.mem_cons.1 hx with rfl | hx
     ·have:=zbv r; simp only; omega
     ·have:=ihl x hx; omega
   rcases List.mem_append.1 hin with h4 | h4
   ·obtain ⟨p,hp,e⟩:=List.mem_map.1 h4
    have:=hbl c.bs p hp
    rw [← e]
    omega
   ·have:=zg8 c.ks _ h4
    omega
  simp
  omega
theorem zejb:∀ (k:Nat) (c:Co) (g s h:List Tx),c.size=k→g.length + c.size < 100000000→h.length + c.size < 100000000→s.length < 100000000→OkP n_44 [dCo c,dSs g,dSs s,dSs h] ⟨false,dSs (freeM c.size c g s h)⟩:=by
 intro k
 induction k using Nat.strongRecOn with
 | ind k ih =>
  intro c g s h hk hl hlh hls
  have hlen:=ze9 c
  have hsz:=za2 c
  have hb:=zbv c.bs
  have hks:=zft c.ks
  have ha:=zc6 c.al
  have hsp:=zg3b c
  have h1:=zji (S:=SFr) rfl g c.s (by omega) 0 σ0
  have h2:=zji (S:=SFr) rfl s c.s (by omega) 0 σ0
  have h3:=zji (S:=SFr) rfl h c.s (by omega) 0 σ0
  have h4:=zi2 (S:=SFr) rfl c (by omega) 0 σ0
  have hn1:∀ l t,List.any l (fun x=>x == t)=hasN l t:=fun _ _=>rfl
  rw [hn1] at h1 h2 h3
  cases hnew:newF c g s h with
  | true =>
   have hk2:freeM c.size c g s h=h ++ [c.s]:=by
    obtain ⟨j,hj⟩:∃ j,c.size=j + 1:=⟨c.size - 1,by have:=zck c; omega⟩
    rw [hj,freeM,hnew]
    rfl
   rw [hk2]
   refine OkP.weak (o:=true) rfl (zas (af:=a_49) (n:=1) (σ':=σ0) (zav SFr 1) rfl rfl (by simp [zal,za4,zau]) (zau _) ?_)
   simp only [newF,Bool.and_eq_true,Bool.not_eq_true'] at hnew
   obtain ⟨⟨⟨e1,e2⟩,e3⟩,e4⟩:=hnew
   rw [e2] at h1
   rw [e3] at h2
   rw [e4] at h3
   have hap:=ze6 h c.s true (fun _=>rfl) (by omega)
   simp only [a_49,sA,seval,kn,zaf c,zaj,zbk,zbj,zbi,h1,h2,h3,e1,zlo,appS0 h false (by omega),hap]
  | false =>
   refine zas (af:=a_49) (n:=c.size + 1) (σ':=σ0) (zav SFr 1) rfl rfl (by simp [zal,za4,zau]) (zau _) ?_
   have hg:∀ i (hi:i < (zae c).length),T SFr 1 n_35 [dCo c,.int .i64 i] σ0=some (.ret ⟨false,dSs (zay c i)⟩,σ0):=fun i hi=>zqn (S:=SFr) rfl c i hi (by omega) 0 σ0
   have hbo:∀ i (hi:i < (zae c).length),T SFr 1 n_3 [dSs g,dSs (zay c i)] σ0=some (.ret ⟨false,dSs (g ++ zay c i)⟩,σ0):=fun i hi=>zfw (S:=SFr) rfl g (zay c i) (by have:=zqw c i hi; omega) 0 σ0
   have hrec:∀ i (hi:i < (zae c).length),T SFr 1 n_44 [dCo (zae c)[i],dSs (g ++ zay c i),dSs s,dSs (hadM c g s h i)] σ0=some (.ret ⟨false,dSs (freeM (zae c)[i].size (zae c)[i] (g ++ zay c i) s (hadM c g s h i))⟩,σ0):=fun i hi=>by
    have hlt:=zfp c _ (List.getElem_mem hi)
    have hgs:=zqw c i hi
    have hhl:=zvv c g s h i (by omega)
    have htk:=zxo (zae c) i hi
    exact call_Free' (S:=SFr) rfl _ _ _ _ (ih _ (by omega) (zae c)[i] _ _ _ rfl (by simp; omega) (by omega) hls) 0 σ0
   have hl0:=za6 (body:=exec (T SFr 1) (c.size + 1) none a_101) (Efr c g s h) (fun _=>σ0) (zae c).length (r:=_) (fun _ _ h=>by cases h) (fun i hi=>zkub c g s h i hi (by omega) (hg i hi) (hbo i hi) (hrec i hi)) (znmb c g s h) 0 (c.size + 1) (by omega) (by omega)
   rw [zh9b c g s h hnew] at hl0
   have hh0:hadM c g s h 0=h:=rfl
   simp only [Efr,bC,zeroI,hh0] at hl0
   simp only [zaf c,zaj] at h4
   simp only [newF] at hnew
   cases e1:(c.f == 1) with
   | false=>simp only [a_49,sA,seval,kn,zaf c,zaj,zbk,zbj,zbi,h1,h2,h3,h4,e1,hl0]
   | true =>
    cases e2:hasN g c.s with
    | true =>
     rw [e2] at h1
     simp only [a_49,sA,seval,kn,zaf c,zaj,zbk,zbj,zbi,h1,h2,h3,h4,e1,hl0]
    | false =>
     rw [e2] at h1
     cases e3:hasN s c.s with
     | false =>
      rw [e3] at h2
      simp only [a_49,sA,seval,kn,zaf c,zaj,zbk,zbj,zbi,h1,h2,h3,h4,e1,hl0]
     | true =>
      rw [e3] at h2
      simp only [e1,e2,e3,Bool.not_false,Bool.and_self,Bool.true_and,Bool.not_eq_false'] at hnew
      rw [hnew] at h3
      simp only [a_49,sA,seval,kn,zaf c,zaj,zbk,zbj,zbi,h1,h2,h3,h4,e1,hl0]
end Go.Fu
namespace Go.Fu
open Go Go.Mx
set_option maxRecDepth 10000
def mapB (F:Co→List Su→Co × List Su):List (Tx × Co)→List Su→List (Tx × Co) × List Su
 | [],m=>([],m)
 | p :: r,m=>((p.1,(F p.2 m).1) :: (mapB F r (F p.2 m).2).1,(mapB F r (F p.2 m).2).2)
def mapK (F:Co→List Su→Co × List Su):List Co→List Su→List Co × List Su
 | [],m=>([],m)
 | p :: r,m=>((F p m).1 :: (mapK F r (F p m).2).1,(mapK F r (F p m).2).2)
def mapA (F:Hd→Co→List Su→Co × List Su):List (Hd × Co)→List Su→List (Hd × Co) × List Su
 | [],m=>([],m)
 | p :: r,m=>((p.1,(F p.1 p.2 m).1) :: (mapA F r (F p.1 p.2 m).2).1,(mapA F r (F p.1 p.2 m).2).2)
theorem ztd (F:Co→List Su→Co × List Su) (p:Tx × Co):∀ (l:List (Tx × Co)) (m:List Su),mapB F (l ++ [p]) m=((mapB F l m).1 ++ [(p.1,(F p.2 (mapB F l m).2).1)],(F p.2 (mapB F l m).2).2)
 | [],m=>rfl
 | q :: l,m=>by simp only [List.cons_append,mapB,ztd F p l]
theorem zte (F:Co→List Su→Co × List Su) (p:Co):∀ (l:List Co) (m:List Su),mapK F (l ++ [p]) m=((mapK F l m).1 ++ [(F p (mapK F l m).2).1],(F p (mapK F l m).2).2)
 | [],m=>rfl
 | q :: l,m=>by simp only [List.cons_append,mapK,zte F p l]
theorem ztc (F:Hd→Co→List Su→Co × List Su) (p:Hd × Co):∀ (l:List (Hd × Co)) (m:List Su),mapA F (l ++ [p]) m=((mapA F l m).1 ++ [(p.1,(F p.1 p.2 (mapA F l m).2).1)],(F p.1 p.2 (mapA F l m).2).2)
 | [],m=>rfl
 | q :: l,m=>by simp only [List.cons_append,mapA,ztc F p l]
theorem zl8 {F G:Co→List Su→Co × List Su}:∀ (l:List (Tx × Co)) (m:List Su),(∀ p∈l,∀ m,F p.2 m=G p.2 m)→mapB F l m=mapB G l m
 | [],m,_=>rfl
 | p :: l,m,h=>by
  simp only [mapB]
  rw [h p (List.mem_cons_self ..) m,zl8 l _ fun q hq=>h q (List.mem_cons_of_mem _ hq)]
theorem zl9 {F G:Co→List Su→Co × List Su}:∀ (l:List Co) (m:List Su),(∀ p∈l,∀ m,F p m=G p m)→mapK F l m=mapK G l m
 | [],m,_=>rfl
 | p :: l,m,h=>by
  simp only [mapK]
  rw [h p (List.mem_cons_self ..) m,zl9 l _ fun q hq=>h q (List.mem_cons_of_mem _ hq)]
theorem zl7 {F G:Hd→Co→List Su→Co × List Su}:∀ (l:List (Hd × Co)) (m:List Su),(∀ p∈l,∀ m,F p.1 p.2 m=G p.1 p.2 m)→mapA F l m=mapA G l m
 | [],m,_=>rfl
 | p :: l,m,h=>by
  simp only [mapA]
  rw [h p (List.mem_cons_self ..) m,zl7 l _ fun q hq=>h q (List.mem_cons_of_mem _ hq)]
theorem zv1 (F:Co→List Su→Co × List Su):∀ (l:List (Tx × Co)) (m:List Su),(mapB F l m).1.length=l.length
 | [],m=>rfl
 | p :: l,m=>by simp only [mapB,List.length_cons,zv1 F l]
theorem zv3 (F:Co→List Su→Co × List Su):∀ (l:List Co) (m:List Su),(mapK F l m).1.length=l.length
 | [],m=>rfl
 | p :: l,m=>by simp only [mapK,List.length_cons,zv3 F l]
theorem zvz (F:Hd→Co→List Su→Co × List Su):∀ (l:List (Hd × Co)) (m:List Su),(mapA F l m).1.length=l.length
 | [],m=>rfl
 | p :: l,m=>by simp only [mapA,List.length_cons,zvz F l]
theorem zno (F:Co→List Su→Co × List Su):∀ (l:List (Tx × Co)) (m:List Su),(∀ p∈l,∀ m,(F p.2 m).2.length≤m.length + p.2.size)→(mapB F l m).2.length≤m.length + szB l
 | [],m,_=>by simp [mapB]
 | (s,c) :: l,m,h=>by
  have h1:=h (s,c) (List.mem_cons_self ..) m
  have h2:=zno F l (F c m).2 fun q hq=>h q (List.mem_cons_of_mem _ hq)
  simp only [mapB,szB] at h1 h2 ⊢
  omega
theorem znp (F:Co→List Su→Co × List Su):∀ (l:List Co) (m:List Su),(∀ p∈l,∀ m,(F p m).2.length≤m.length + p.size)→(mapK F l m).2.length≤m.length + szK l
 | [],m,_=>by simp [mapK]
 | c :: l,m,h=>by
  have h1:=h c (List.mem_cons_self ..) m
  have h2:=znp F l (F c m).2 fun q hq=>h q (List.mem_cons_of_mem _ hq)
  simp only [mapK,szK] at h1 h2 ⊢
  omega
theorem znn (F:Hd→Co→List Su→Co × List Su):∀ (l:List (Hd × Co)) (m:List Su),(∀ p∈l,∀ m,(F p.1 p.2 m).2.length≤m.length + p.2.size)→(mapA F l m).2.length≤m.length + szA l
 | [],m,_=>by simp [mapA]
 | (s,c) :: l,m,h=>by
  have h1:=h (s,c) (List.mem_cons_self ..) m
  have h2:=znn F l (F s c m).2 fun q hq=>h q (List.mem_cons_of_mem _ hq)
  simp only [mapA,szA] at h1 h2 ⊢
  omega
def zdz (c:Co) (lz:Bool):Bool:=lz && (((c.f == 9) || (c.f == 10)) || (c.f == 11))
def liftN (t:Tx) (m:List Su):Tx:=(t ++ [37]) ++ itoaN ((m.length:Int) + 1)
def liftM (c:Co) (ar:List Tx) (t:Tx) (m:List Su):Co × List Su:=(zdy (varC (liftN t m)) (freeM c.size c [] ar []),m ++ [⟨liftN t m,freeM c.size c [] ar [],c⟩])
def flatM:Nat→Co→Bool→List Tx→Tx→List Su→Co × List Su
 | 0,c,_,_,_,m=>(c,m)
 | k + 1,c,lz,ar,t,m=>ifB (zdz c lz) (liftM c ar t m) (
     (.mk c.f c.n c.s (mapK (fun x m=>flatM k x (lz || (c.f == 4)) (ar ++ c.bs.map Prod.fst) t m) c.ks (mapB (fun x m=>flatM k x true (ar ++ c.bs.map Prod.fst) t m) c.bs m).2).1 (mapB (fun x m=>flatM k x true (ar ++ c.bs.map Prod.fst) t m) c.bs m).1
      (mapA (fun h x m=>flatM k x false (ar ++ h.vars) t m) c.al (mapK (fun x m=>flatM k x (lz || (c.f == 4)) (ar ++ c.bs.map Prod.fst) t m) c.ks (mapB (fun x m=>flatM k x true (ar ++ c.bs.map Prod.fst) t m) c.bs m).2).2).1),
     (mapA (fun h x m=>flatM k x false (ar ++ h.vars) t m) c.al (mapK (fun x m=>flatM k x (lz || (c.f == 4)) (ar ++ c.bs.map Prod.fst) t m) c.ks (mapB (fun x m=>flatM k x true (ar ++ c.bs.map Prod.fst) t m) c.bs m).2).2).2)
theorem zl0:∀ (n:Nat) (c:Co),c.size=n→∀ (k k':Nat) (lz:Bool) (ar:List Tx) (t:Tx) (m:List Su),c.size≤k→c.size≤k'→flatM k c lz ar t m=flatM k' c lz ar t m:=by
 intro n
 induction n using Nat.strongRecOn with
 | ind n ih =>
  intro c hn k k' lz ar t m hk hk'
  have hp:=zck c
  have hsz:=za2 c
  obtain ⟨k,rfl⟩:∃ j,k=j + 1:=⟨k - 1,by omega⟩
  obtain ⟨k',rfl⟩:∃ j,k'=j + 1:=⟨k' - 1,by omega⟩
  have hB:∀ m,mapB (fun x m=>flatM k x true (ar ++ c.bs.map Prod.fst) t m) c.bs m=mapB (fun x m=>flatM k' x true (ar ++ c.bs.map Prod.fst) t m) c.bs m:=fun m=>zl8 _ _ fun p hp m=>by
   have:=zgi c.bs p hp
   exact ih _ (by omega) _ rfl _ _ _ _ _ _ (by omega) (by omega)
  have hK:∀ m,mapK (fun x m=>flatM k x (lz || (c.f == 4)) (ar ++ c.bs.map Prod.fst) t m) c.ks m=mapK (fun x m=>flatM k' x (lz || (c.f == 4)) (ar ++ c.bs.map Prod.fst) t m) c.ks m:=fun m=>zl9 _ _ fun p hp m=>by
   have:=zg8 c.ks p hp
   exact ih _ (by omega) _ rfl _ _ _ _ _ _ (by omega) (by omega)
  have hA:∀ m,mapA (fun h x m=>flatM k x false (ar ++ h.vars) t m) c.al m=mapA (fun h x m=>flatM k' x false (ar ++ h.vars) t m) c.al m:=fun m=>zl7 _ _ fun p hp m=>by
   have:=ze0 c.al p hp
   exact ih _ (by omega) _ rfl _ _ _ _ _ _ (by omega) (by omega)
  simp only [flatM,hB,hK,hA]
theorem zi4:∀ (k:Nat) (c:Co) (lz:Bool) (ar:List Tx) (t:Tx) (m:List Su),(flatM k c lz ar t m).2.length≤m.length + c.size
 | 0,c,lz,ar,t,m=>by simp [flatM]
 | k + 1,c,lz,ar,t,m=>by
  have hp:=zck c
  have hsz:=za2 c
  simp only [flatM]
  cases zdz c lz with
  | true=>simp only [zac,liftM,List.length_append,List.length_cons,List.length_nil]; omega
  | false =>
   simp only [zab]
   have h1:=zno (fun x m=>flatM k x true (ar ++ c.bs.map Prod.fst) t m) c.bs m fun p _ m=>zi4 k p.2 _ _ _ m
   have h2:=znp (fun x m=>flatM k x (lz || (c.f == 4)) (ar ++ c.bs.map Prod.fst) t m) c.ks (mapB (fun x m=>flatM k x true (ar ++ c.bs.map Prod.fst) t m) c.bs m).2 fun p _ m=>zi4 k p _ _ _ m
   have h3:=znn (fun h x m=>flatM k x false (ar ++ h.vars) t m) c.al (mapK (fun x m=>flatM k x (lz || (c.f == 4)) (ar ++ c.bs.map Prod.fst) t m) c.ks (mapB (fun x m=>flatM k x true (ar ++ c.bs.map Prod.fst) t m) c.bs m).2).2 fun p _ m=>zi4 k p.2 _ _ _ m
   omega
def flM (c:Co) (lz:Bool) (ar:List Tx) (t:Tx) (m:List Su):Co × List Su:=flatM c.size c lz ar t m
def fB (c:Co) (ar:List Tx) (t:Tx) (m:List Su) (i:Nat):List (Tx × Co) × List Su:=mapB (fun x m=>flM x true (ar ++ c.bs.map Prod.fst) t m) (c.bs.take i) m
def fK (c:Co) (lz:Bool) (ar:List Tx) (t:Tx) (m:List Su) (i:Nat):List Co × List Su:=mapK (fun x m=>flM x (lz || (c.f == 4)) (ar ++ c.bs.map Prod.fst) t m) (c.ks.take i) m
def fA (c:Co) (ar:List Tx) (t:Tx) (m:List Su) (i:Nat):List (Hd × Co) × List Su:=mapA (fun h x m=>flM x false (ar ++ h.vars) t m) (c.al.take i) m
theorem zkmb (c:Co) (ar:List Tx) (t:Tx) (m:List Su) (i:Nat) (h:i < c.bs.length):fB c ar t m (i + 1)=((fB c ar t m i).1 ++ [(c.bs[i].1,(flM c.bs[i].2 true (ar ++ c.bs.map Prod.fst) t (fB c ar t m i).2).1)],(flM c.bs[i].2 true (ar ++ c.bs.map Prod.fst) t (fB c ar t m i).2).2):=by
 rw [fB,← za9 c.bs i h,ztd]
 rfl
theorem zknb (c:Co) (lz:Bool) (ar:List Tx) (t:Tx) (m:List Su) (i:Nat) (h:i < c.ks.length):fK c lz ar t m (i + 1)=((fK c lz ar t m i).1 ++ [(flM c.ks[i] (lz || (c.f == 4)) (ar ++ c.bs.map Prod.fst) t (fK c lz ar t m i).2).1],(flM c.ks[i] (lz || (c.f == 4)) (ar ++ c.bs.map Prod.fst) t (fK c lz ar t m i).2).2):=by
 rw [fK,← za9 c.ks i h,zte]
 rfl
theorem zklb (c:Co) (ar:List Tx) (t:Tx) (m:List Su) (i:Nat) (h:i < c.al.length):fA c ar t m (i + 1)=((fA c ar t m i).1 ++ [(c.al[i].1,(flM c.al[i].2 false (ar ++ c.al[i].1.vars) t (fA c ar t m i).2).1)],(flM c.al[i].2 false (ar ++ c.al[i].1.vars) t (fA c ar t m i).2).2):=by
 rw [fA,← za9 c.al i h,ztc]
 rfl
theorem zic (c:Co) (lz:Bool) (ar:List Tx) (t:Tx) (m:List Su) (h:zdz c lz=false):flM c lz ar t m=(.mk c.f c.n c.s (fK c lz ar t (fB c ar t m c.bs.length).2 c.ks.length).1 (fB c ar t m c.bs.length).1 (fA c ar t (fK c lz ar t (fB c ar t m c.bs.length).2 c.ks.length).2 c.al.length).1,
  (fA c ar t (fK c lz ar t (fB c ar t m c.bs.length).2 c.ks.length).2 c.al.length).2):=by
 have hp:=zck c
 have hsz:=za2 c
 obtain ⟨k,hk⟩:∃ j,c.size=j + 1:=⟨c.size - 1,by omega⟩
 have hB:∀ m,mapB (fun x m=>flatM k x true (ar ++ c.bs.map Prod.fst) t m) c.bs m=mapB (fun x m=>flM x true (ar ++ c.bs.map Prod.fst) t m) c.bs m:=fun m=>zl8 _ _ fun p hp m=>by
  have:=zgi c.bs p hp
  exact zl0 _ _ rfl _ _ _ _ _ _ (by omega) (Nat.le_refl _)
 have hK:∀ m,mapK (fun x m=>flatM k x (lz || (c.f == 4)) (ar ++ c.bs.map Prod.fst) t m) c.ks m=mapK (fun x m=>flM x (lz || (c.f == 4)) (ar ++ c.bs.map Prod.fst) t m) c.ks m:=fun m=>zl9 _ _ fun p hp m=>by
  have:=zg8 c.ks p hp
  exact zl0 _ _ rfl _ _ _ _ _ _ (by omega) (Nat.le_refl _)
 have hA:∀ m,mapA (fun h x m=>flatM k x false (ar ++ h.vars) t m) c.al m=mapA (fun h x m=>flM x false (ar ++ h.vars) t m) c.al m:=fun m=>zl7 _ _ fun p hp m=>by
  have:=ze0 c.al p hp
  exact zl0 _ _ rfl _ _ _ _ _ _ (by omega) (Nat.le_refl _)
 rw [flM,hk,flatM,h]
 simp only [zab,hB,hK,hA,fB,fK,fA,List.take_length]
theorem zjs (c:Co) (lz:Bool) (ar:List Tx) (t:Tx) (m:List Su) (h:zdz c lz=true):flM c lz ar t m=liftM c ar t m:=by
 have hp:=zck c
 obtain ⟨k,hk⟩:∃ j,c.size=j + 1:=⟨c.size - 1,by omega⟩
 rw [flM,hk,flatM,h]
 rfl
theorem zpl (c:Co) (lz:Bool) (ar:List Tx) (t:Tx) (m:List Su):(flM c lz ar t m).2.length≤m.length + c.size:=zi4 _ _ _ _ _ _
theorem za0b (c:Co) (ar:List Tx) (t:Tx) (m:List Su) (i:Nat):(fB c ar t m i).2.length≤m.length + szB (c.bs.take i):=zno _ _ _ fun p _ m=>zpl _ _ _ _ _
theorem za1b (c:Co) (lz:Bool) (ar:List Tx) (t:Tx) (m:List Su) (i:Nat):(fK c lz ar t m i).2.length≤m.length + szK (c.ks.take i):=znp _ _ _ fun p _ m=>zpl _ _ _ _ _
theorem zkkb (c:Co) (ar:List Tx) (t:Tx) (m:List Su) (i:Nat):(fA c ar t m i).2.length≤m.length + szA (c.al.take i):=znn _ _ _ fun p _ m=>zpl _ _ _ _ _
end Go.Fu
