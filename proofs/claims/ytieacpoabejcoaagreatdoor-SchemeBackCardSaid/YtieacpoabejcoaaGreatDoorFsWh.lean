/-
 Sizes,and whether something is too great: the program's.
-/
import Derived.Test.YtieacpoabejcoaaGreatDoorFsWe
set_option maxHeartbeats 4000000
set_option linter.unusedSimpArgs false
set_option linter.unusedVariables false
set_option linter.unusedSectionVars false
namespace Go.Fu.U
open Go Go.Mx Go.Fu
set_option maxRecDepth 100000
set_option maxHeartbeats 1000000
def entQ (x:Int × D) (b:Nat):D × D × Nat:=(.int .i64 x.1,x.2,b)
def esQ:List (Int × D)→Nat→List (D × D × Nat)
 | [],_=>[]
 | x :: r,b=>entQ x b :: esQ r (b + 1)
theorem zv5:∀ (l:List (Int × D)) (x:Int × D) (b:Nat),esQ (l ++ [x]) b=esQ l b ++ [entQ x (b + l.length)]
 | [],x,b=>rfl
 | y :: r,x,b=>by
  have h:b + 1 + r.length=b + (y :: r).length:=by simp only [List.length_cons]; omega
  simp only [List.cons_append,esQ,zv5 r x (b + 1),h]
def knoQ (k:Int):List (Int × D)→Option D
 | []=>none
 | x :: r=>if x.1=k then some x.2 else knoQ k r
theorem znt (k:Int) (y:Int × D):∀ l:List (Int × D),knoQ k (l ++ [y])=match knoQ k l with
  | some t=>some t
  | none=>if y.1=k then some y.2 else none
 | []=>rfl
 | x :: r=>by
  simp only [List.cons_append,knoQ,znt k y r]
  by_cases h:x.1=k
  ·simp only [if_pos h]
  ·simp only [if_neg h]
theorem zly {k:Int}:∀ {l:List (Int × D)} (b:Nat),knoQ k l=none→findM (.int .i64 k) (esQ l b)=some none
 | [],_,_=>rfl
 | x :: r,b,h=>by
  simp only [knoQ] at h
  by_cases hx:x.1=k
  ·rw [if_pos hx] at h
   cases h
  ·rw [if_neg hx] at h
   have h1:(k == x.1)=false:=by
    cases e:k == x.1 with
    | false=>rfl
    | true=>exact absurd (eq_of_beq e).symm hx
   have hs:sameD (.int .i64 k) (.int .i64 x.1)=some (k == x.1):=rfl
   simp only [esQ,entQ,findM,hs,h1,bindO,zab,zad,zly (b + 1) h]
   rfl
theorem zir {k:Int} {t:D}:∀ {l:List (Int × D)} (b:Nat),knoQ k l=some t→∃ c j,findM (.int .i64 k) (esQ l b)=some (some (t,c,j))∧(esQ l b).set j (.int .i64 k,t,c)=esQ l b
 | [],_,h=>by cases h
 | x :: r,b,h=>by
  have hs:sameD (.int .i64 k) (.int .i64 x.1)=some (k == x.1):=rfl
  simp only [knoQ] at h
  by_cases hx:x.1=k
  ·rw [if_pos hx] at h
   cases h
   have h1:(k == x.1)=true:=by rw [hx]; simp
   refine ⟨b,0,by simp only [esQ,entQ,findM,hs,h1,bindO,zab,zac],?_⟩
   rw [← hx]
   rfl
  ·rw [if_neg hx] at h
   have h1:(k == x.1)=false:=by
    cases e:k == x.1 with
    | false=>rfl
    | true=>exact absurd (eq_of_beq e).symm hx
   obtain ⟨c,j,hr,hr2⟩:=zir (b + 1) h
   refine ⟨c,j + 1,?_,?_⟩
   ·simp only [esQ,entQ,findM,hs,h1,bindO,zab,zad,hr]
   ·simp only [esQ,List.set_cons_succ,hr2]
def NVal (K:Kn) (N:List (Int × D)):Prop:=∀ k e,knoQ k N=some e→∃ v d,e=.int .i64 ((v:Nat):Int)∧sizeF d K (tMeta k)=some v
theorem zui {q r:Ty→Option Nat}:∀ {l:List Ty} {n v:Nat},(∀ x∈l,∀ v,q x=some v→r x=some v)→sumF q n l=some v→sumF r n l=some v
 | [],_,_,_,h=>h
 | x :: l,n,v,hq,h=>by
  simp only [sumF] at h ⊢
  cases h1:q x with
  | none=>rw [h1] at h; cases h
  | some w =>
   rw [h1] at h
   rw [hq x (by simp) w h1]
   exact zui (fun y hy=>hq y (by simp [hy])) h
theorem zmk {K:Kn}:∀ {d:Nat} {t:Ty} {v:Nat},sizeF d K t=some v→sizeF (d + 1) K t=some v
 | 0,_,_,h=>by cases h
 | d + 1,t,v,h=>by
  rw [sizeF] at h ⊢
  cases hx:(if t.f=1 then kno t.n K else none) with
  | some x =>
   rw [hx] at h
   exact zmk h
  | none =>
   rw [hx] at h
   exact zui (fun x _ v h=>zmk h) h
theorem sizeF_meta {K:Kn} {d:Nat} {k:Int} {x:Ty} (h:kno k K=some x):sizeF (d + 1) K (tMeta k)=sizeF d K x:=by
 have e:(if (tMeta k).f=1 then kno (tMeta k).n K else none)=some x:=by
  rw [if_pos (show (tMeta k).f=1 from rfl)]
  exact h
 rw [sizeF,e]
theorem zx1 {K:Kn} {d e:Nat} {t:Ty} {v:Nat} (h:sizeF d K t=some v) (hd:d≤e):sizeF e K t=some v:=by
 induction hd with
 | refl=>exact h
 | step _ ih=>exact zmk ih
theorem zuh {K:Kn} {d e:Nat} {t:Ty} {v w:Nat} (h:sizeF d K t=some v) (h':sizeF e K t=some w):v=w:=by
 have h1:=zx1 h (Nat.le_max_left d e)
 have h2:=zx1 h' (Nat.le_max_right d e)
 rw [h1] at h2
 exact Option.some.inj h2
theorem zyc {q:Ty→Option Nat}:∀ {l:List Ty} {n v:Nat},n≤501→sumF q n l=some v→v≤501
 | [],_,_,hn,h=>by
  cases h
  exact hn
 | x :: l,n,v,hn,h=>by
  simp only [sumF] at h
  cases h1:q x with
  | none=>rw [h1] at h; cases h
  | some w =>
   rw [h1] at h
   exact zyc (Nat.min_le_right _ _) h
theorem zoi {K:Kn}:∀ {d:Nat} {t:Ty} {v:Nat},sizeF d K t=some v→v≤501
 | 0,_,_,h=>by cases h
 | d + 1,t,v,h=>by
  rw [sizeF] at h
  cases hx:(if t.f=1 then kno t.n K else none) with
  | some x =>
   rw [hx] at h
   exact zoi h
  | none =>
   rw [hx] at h
   refine zyc ?_ h
   by_cases h4:t.f=4
   ·rw [if_pos h4]; omega
   ·rw [if_neg h4]; omega
theorem zm2 {α:Type} (k:Nat) (v:α):∀ l:List (Nat × α),adel1 (aset l k v) k=adel1 l k
 | []=>by simp [aset,adel1,ifB]
 | (a,x) :: r=>by
  simp only [aset]
  cases e:a == k with
  | true=>simp [adel1,ifB,e]
  | false =>
   cases hb:Nat.ble k a with
   | true=>simp [adel1,ifB,e]
   | false=>simp only [zad,adel1,e,zm2 k v r]
theorem zgc {α:Type} (a b:Nat):∀ l:List (Nat × α),adel1 (adel1 l a) b=adel1 (adel1 l b) a
 | []=>rfl
 | (k,x) :: r=>by
  simp only [adel1]
  cases e1:k == a with
  | true =>
   cases e2:k == b with
   | true=>simp only [zac,zgc a b r]
   | false=>simp only [zac,zad,adel1,e1,zgc a b r]
  | false =>
   cases e2:k == b with
   | true=>simp only [zac,zad,adel1,e2,zgc a b r]
   | false=>simp only [zad,adel1,e1,e2,zgc a b r]
theorem zbf {α:Type} (a j:Nat) (h:a≠j):∀ l:List (Nat × α),aget (adel1 l a) j=aget l j
 | []=>rfl
 | (k,x) :: r=>by
  simp only [adel1]
  cases e1:k == a with
  | true =>
   have e2:(k == j)=false:=by
    cases e:k == j with
    | false=>rfl
    | true=>exact absurd ((eq_of_beq e1).symm.trans (eq_of_beq e)) h
   simp only [zac,aget,e2,zad,zbf a j h r]
  | false =>
   simp only [zad,aget,zbf a j h r]
structure NR (σ σ':Store) (nm:Nat):Prop where
 objs:σ'.objs=σ.objs
 tys:σ'.tys=σ.tys
 next:σ'.next=σ.next
 oth:adel1 σ'.oth nm=adel1 σ.oth nm
theorem NR.refl (σ:Store) (nm:Nat):NR σ σ nm:=⟨rfl,rfl,rfl,rfl⟩
theorem NR.trans {a b c:Store} {nm:Nat} (h:NR a b nm) (k:NR b c nm):NR a c nm:=⟨k.objs.trans h.objs,k.tys.trans h.tys,k.next.trans h.next,k.oth.trans h.oth⟩
theorem NR.SM (σ:Store) (nm:Nat) (x:Oth):NR σ (SM σ nm x) nm:=⟨rfl,rfl,rfl,zm2 _ _ _⟩
theorem NR.other {a b:Store} {nm:Nat} (h:NR a b nm) (j:Nat) (hj:nm≠j):aget b.oth j=aget a.oth j:=by
 rw [← zbf nm j hj b.oth,h.oth,zbf nm j hj]
theorem NR.sb {σ σ':Store} {nm p m n c:Nat} {es:List (D × D × Nat)} (h:NR σ σ' nm) (hm:nm≠m) (hB:SB σ p m n es c):SB σ' p m n es c :=
 ⟨by rw [h.objs]; exact hB.obj,(h.other m hm).trans hB.map,by rw [h.next]; exact hB.lt,by rw [h.next]; exact hB.ltm⟩
section
variable {C:CallF} {n:Nat} {σ:Store}
def Esz (p nm:Nat) (L:List Ty) (i:Nat) (v:Nat):Env:={slots:=[(0,⟨false,.ptr p 0⟩),(2,⟨false,.map nm⟩),(11,⟨false,.int .i64 v⟩),(54,⟨false,dTl L⟩),(55,⟨false,.int .i64 L.length⟩),(56,⟨false,.int .i64 i⟩)],locs:=[],boxes:=[],defers:=[]}
theorem zoob (p nm:Nat) (L:List Ty) (i:Nat) (hi:i < L.length) (hl:L.length < 1000000) (v w:Nat) (hv:v≤501) (hw:w≤501) {σ':Store} (h1:C n_77 [.ptr p 0,dTy L[i],.map nm] σ=some (.ret ⟨false,.int .i64 w⟩,σ')):exec C n none a_96 (Esz p nm L i v) σ=some (.normal,Esz p nm L (i + 1) (min (v + w) 501),σ'):=by
 have hlt:((i:Int) < L.length):=by omega
 have w1:=zaj (i:=i) (by omega)
 have hx:=idx_T L i hi
 have w2:IntKind.i64.wrap ((v:Int) + (w:Int))=((v + w:Nat):Int):=by
  rw [zb3 (by omega) (by omega)]
  rfl
 have e:(ifB (decide ((501:Int) < ((v + w:Nat):Int))) (501:Int) ((v + w:Nat):Int))=((min (v + w) 501:Nat):Int):=by
  by_cases h:v + w≤501
  ·have:¬ ((501:Int) < ((v + w:Nat):Int)):=by omega
   rw [decide_eq_false this,zad,Nat.min_eq_left h]
  ·have:((501:Int) < ((v + w:Nat):Int)):=by omega
   rw [decide_eq_true this,zac,Nat.min_eq_right (by omega)]
   rfl
 generalize L[i]=f at *
 simp only [zap,zaq] at hx h1
 simp only [a_96,Esz,sA,seval,kn,onel,hlt,natI,hx,h1,w1,w2,e]
theorem zp7b (p nm:Nat) (L:List Ty) (v:Nat):exec C n none a_96 (Esz p nm L L.length v) σ=some (.exit 0,{Esz p nm L L.length v with slots:=[(0,⟨false,.ptr p 0⟩),(2,⟨false,.map nm⟩),(11,⟨false,.int .i64 v⟩),(54,⟨false,dTl L⟩),(55,⟨false,.int .i64 L.length⟩),(56,⟨false,.int .i64 L.length⟩),(57,⟨false,.bool false⟩)]},σ):=by
 have hlt:¬ ((L.length:Int) < L.length):=by omega
 simp only [a_96,Esz,sA,seval,kn,onel,hlt]
end
def SzR (S:Specs) (K:Kn) (p nm:Nat) (t:Ty) (v B:Nat) (σ:Store):Prop:=∃ σ' N',NR σ σ' nm∧aget σ'.oth nm=some (.map (esQ N' 0) N'.length)∧NVal K N'∧∀ n,B≤n→TS S n n_77 [.ptr p 0,dTy t,.map nm] σ=some (.ret ⟨false,.int .i64 (v:Nat)⟩,σ')
theorem zchb {S:Specs} {K:Kn} {p nm:Nat} {Q:Store→Prop} (L:List Ty) (hL:L.length < 1000000) (q:Ty→Option Nat) (hq:∀ t v,q t=some v→v≤501) (hQ:∀ σ σ',NR σ σ' nm→Q σ→Q σ')
  (hC:∀ i (hi:i < L.length) v,q L[i]=some v→∃ B,∀ σ N,Q σ→aget σ.oth nm=some (.map (esQ N 0) N.length)→NVal K N→SzR S K p nm L[i] v B σ):∀ (k i n0 v:Nat),i + k=L.length→n0≤501→sumF q n0 (L.drop i)=some v→∃ B,∀ σ N,Q σ→aget σ.oth nm=some (.map (esQ N 0) N.length)→NVal K N→∃ σ' N',NR σ σ' nm∧aget σ'.oth nm=some (.map (esQ N' 0) N'.length)∧NVal K N'∧∀ n m,B≤n→B≤m→loopN (exec (TS S n) n none a_96) m (Esz p nm L i n0) σ=some (.exit 0,{slots:=[(0,⟨false,.ptr p 0⟩),(2,⟨false,.map nm⟩),(11,⟨false,.int .i64 v⟩),(54,⟨false,dTl L⟩),(55,⟨false,.int .i64 L.length⟩),(56,⟨false,.int .i64 L.length⟩),(57,⟨false,.bool false⟩)],locs:=[],boxes:=[],defers:=[]},σ')
 | 0,i,n0,v,h,h0,ha=>by
  have:i=L.length:=by omega
  subst this
  rw [List.drop_length] at ha
  cases ha
  refine ⟨1,fun σ N hσ hN hV=>⟨σ,N,NR.refl σ nm,hN,hV,fun n m _ hm=>?_⟩⟩
  obtain ⟨m,rfl⟩:∃ k,m=k + 1:=⟨m - 1,by omega⟩
  exact ziu (zp7b p nm L _)
 | k + 1,i,n0,v,h,h0,ha=>by
  have hi:i < L.length:=by omega
  rw [List.drop_eq_getElem_cons hi] at ha
  simp only [sumF] at ha
  cases h1:q L[i] with
  | none=>rw [h1] at ha; cases ha
  | some w =>
   rw [h1] at ha
   simp only [Option.bind_some] at ha
   obtain ⟨B1,s1⟩:=hC i hi w h1
   obtain ⟨B2,s2⟩:=zchb L hL q hq hQ hC k (i + 1) (min (n0 + w) 501) v (by omega) (Nat.min_le_right _ _) (by simpa using ha)
   refine ⟨B1 + B2 + 1,fun σ N hσ hN hV=>?_⟩
   obtain ⟨σ1,N1,f1,m1,v1,r1⟩:=s1 σ N hσ hN hV
   obtain ⟨σ2,N2,f2,m2,v2,r2⟩:=s2 σ1 N1 (hQ _ _ f1 hσ) m1 v1
   refine ⟨σ2,N2,f1.trans f2,m2,v2,fun n m hn hm=>?_⟩
   obtain ⟨m,rfl⟩:∃ k,m=k + 1:=⟨m - 1,by omega⟩
   rw [ziv (zoob p nm L i hi hL n0 w h0 (hq _ _ h1) (r1 n (by omega)))]
   exact r2 n m (by omega) (by omega)
theorem zqm {S:Specs} (hS:UnifyS S) {p m q c nm:Nat} {K:Kn} (hK:∀ x∈K,Fine x.2) (hnm:nm≠m):∀ (d:Nat) (t:Ty) (v:Nat),Fine t→sizeF d K t=some v→∃ B,∀ σ N,SB σ p m q (esK K 0) c→aget σ.oth nm=some (.map (esQ N 0) N.length)→NVal K N→SzR S K p nm t v B σ
 | 0,_,_,_,h=>by cases h
 | d + 1,t,v,ht,h=>by
  have hS1:=hS.2.2.2.2.2.2.2.1
  have hkd:keyD false (.int .i64 t.n)=true:=rfl
  have h0:=h
  rw [sizeF] at h
  cases hx:(if t.f=1 then kno t.n K else none) with
  | some x =>
   rw [hx] at h
   simp only at h
   have h1:t.f=1:=by
    by_cases e:t.f=1
    ·exact e
    ·rw [if_neg e] at hx; cases hx
   rw [if_pos h1] at hx
   have b1:(t.f == 1)=true:=by rw [h1]; rfl
   obtain ⟨c1,j1,hf1⟩:=zj2 0 hx
   simp only [zap,zaq] at hf1
   obtain ⟨B1,s1⟩:=zqm hS hK hnm d x v (hK _ (zsr hx)) h
   refine ⟨B1 + 2,fun σ N hB hN hV=>?_⟩
   have ho:=hB.obj
   have hma:mapOf σ.oth (.map m)=some (esK K 0):=by simp only [mapOf,hB.map,bindO,zab]
   have hmn:mapOf σ.oth (.map nm)=some (esQ N 0):=by simp only [mapOf,hN,bindO,zab]
   cases hn:knoQ t.n N with
   | some e =>
    obtain ⟨w,d',rfl,hw⟩:=hV _ _ hn
    have ev:v=w:=by
     refine zuh h0 (e:=d') ?_
     cases d' with
     | zero=>cases hw
     | succ d' =>
      rw [sizeF_meta hx] at hw
      have e:(if t.f=1 then kno t.n K else none)=some x:=by rw [if_pos h1,hx]
      rw [sizeF,e]
      exact hw
    subst ev
    obtain ⟨c2,j2,hf2,_⟩:=zir 0 hn
    refine ⟨σ,N,NR.refl _ _,hN,hV,fun n hn=>?_⟩
    obtain ⟨n,rfl⟩:∃ k,n=k + 1:=⟨n - 1,by omega⟩
    rw [zbe (af:=a_20) hS1 rfl rfl]
    simp only [a_20,sA,seval,kn,onel,zap,zaq,ho,hma,hmn,hkd,hf1,hf2,b1]
   | none =>
    have hf2:=zly 0 hn
    obtain ⟨σ1,N1,f1,m1,v1,r1⟩:=s1 σ N hB hN hV
    have hv:=zoi h
    have ma1:mapAt σ1.oth (.map nm)=some (nm,esQ N1 0,N1.length):=by simp only [mapAt,m1,bindO,zab]
    have szt:sizeF (d + 1) K (tMeta t.n)=some v:=by
     rw [sizeF_meta hx]
     exact h
    cases hn1:knoQ t.n N1 with
    | some e =>
     obtain ⟨w,d',rfl,hw⟩:=v1 _ _ hn1
     have ev:v=w:=zuh szt hw
     subst ev
     obtain ⟨c2,j2,hf3,hset⟩:=zir 0 hn1
     have hmn2:mapOf (SM σ1 nm (.map (esQ N1 0) N1.length)).oth (.map nm)=some (esQ N1 0):=by simp only [mapOf,zku,bindO,zab]
     refine ⟨SM σ1 nm (.map (esQ N1 0) N1.length),N1,f1.trans (NR.SM _ _ _),zku,v1,fun n hn=>?_⟩
     obtain ⟨n,rfl⟩:∃ k,n=k + 1:=⟨n - 1,by omega⟩
     have r1:=r1 n (by omega)
     rw [zbe (af:=a_20) hS1 rfl rfl]
     simp only [zap,zaq] at r1
     simp only [a_20,sA,seval,kn,onel,zap,zaq,ho,hma,hmn,hkd,hf1,hf2,b1,r1,memE,mUpd,ma1,hf3,hset,hmn2]
    | none =>
     have hf3:=zly 0 hn1
     have esn:esQ N1 0 ++ [((D.int .i64 t.n),(D.int .i64 (v:Int)),N1.length)]=esQ (N1 ++ [(t.n,.int .i64 (v:Int))]) 0:=by
      rw [zv5,Nat.zero_add]
      rfl
     have eln:N1.length + 1=(N1 ++ [(t.n,D.int .i64 (v:Int))]).length:=by simp
     have hV2:NVal K (N1 ++ [(t.n,.int .i64 (v:Int))]):=by
      intro k e hk
      rw [znt] at hk
      cases hk1:knoQ k N1 with
      | some e' =>
       rw [hk1] at hk
       cases hk
       exact v1 _ _ hk1
      | none =>
       rw [hk1] at hk
       simp only at hk
       by_cases e0:t.n=k
       ·rw [if_pos e0] at hk
        cases hk
        subst e0
        exact ⟨v,d + 1,rfl,szt⟩
       ·rw [if_neg e0] at hk
        cases hk
     have hkn:knoQ t.n (N1 ++ [(t.n,.int .i64 (v:Int))])=some (.int .i64 (v:Int)):=by
      rw [znt,hn1]
      simp only [if_pos]
     obtain ⟨c4,j4,hf4,_⟩:=zir 0 hkn
     generalize hNN:N1 ++ [(t.n,D.int .i64 (v:Int))]=N2 at *
     have hmn2:mapOf (SM σ1 nm (.map (esQ N2 0) N2.length)).oth (.map nm)=some (esQ N2 0):=by simp only [mapOf,zku,bindO,zab]
     refine ⟨SM σ1 nm (.map (esQ N2 0) N2.length),N2,f1.trans (NR.SM _ _ _),zku,hV2,fun n hn=>?_⟩
     obtain ⟨n,rfl⟩:∃ k,n=k + 1:=⟨n - 1,by omega⟩
     have r1:=r1 n (by omega)
     rw [zbe (af:=a_20) hS1 rfl rfl]
     simp only [zap,zaq] at r1
     simp only [a_20,sA,seval,kn,onel,zap,zaq,ho,hma,hmn,hkd,hf1,hf2,b1,r1,memE,mUpd,ma1,hf3,esn,eln,hmn2,hf4]
  | none =>
   rw [hx] at h
   simp only at h
   have few:=ht.few
   obtain ⟨B1,s1⟩:=zchb (S:=S) (K:=K) (p:=p) (nm:=nm) (Q:=fun σ=>SB σ p m q (esK K 0) c) t.as_ (by omega) (sizeF d K) (fun _ _ h=>zoi h) (fun σ σ' hr hq=>hr.sb hnm hq) (fun i hi w hw=>zqm hS hK hnm d t.as_[i] w (ht.sub _ (List.getElem_mem hi)) hw) t.as_.length 0 (if t.f=4 then 0 else 1) v (by omega) (by by_cases e:t.f=4 <;> simp [e]) (by simpa using h)
   refine ⟨B1 + 2,fun σ N hB hN hV=>?_⟩
   have ho:=hB.obj
   have hma:mapOf σ.oth (.map m)=some (esK K 0):=by simp only [mapOf,hB.map,bindO,zab]
   obtain ⟨σ1,N1,f1,m1,v1,r1⟩:=s1 σ N hB hN hV
   refine ⟨σ1,N1,f1,m1,v1,fun n hn=>?_⟩
   obtain ⟨n,rfl⟩:∃ k,n=k + 1:=⟨n - 1,by omega⟩
   have r1:=r1 n n (by omega) (by omega)
   have hlen:=len_T t.as_
   rw [zbe (af:=a_20) hS1 rfl rfl]
   simp only [Esz,zeroI] at r1
   cases hk:kno t.n K with
   | none =>
    have hf1:=zj1 0 hk
    by_cases h4:t.f=4
    ·have b4:(t.f == 4)=true:=by rw [h4]; rfl
     rw [if_pos h4] at r1
     simp only [zeroI] at r1
     simp only [a_20,sA,seval,kn,onel,zap,zaq,ho,hma,hkd,hf1,b4,hlen,r1]
    ·have b4:(t.f == 4)=false:=beq_false_of_ne h4
     rw [if_neg h4] at r1
     simp only [oneI] at r1
     simp only [a_20,sA,seval,kn,onel,zap,zaq,ho,hma,hkd,hf1,b4,hlen,r1]
   | some x =>
    have h1:t.f≠1:=by
     intro e
     rw [if_pos e,hk] at hx
     cases hx
    have b1:(t.f == 1)=false:=beq_false_of_ne h1
    obtain ⟨c1,j1,hf1⟩:=zj2 0 hk
    simp only [zap,zaq] at hf1
    by_cases h4:t.f=4
    ·have b4:(t.f == 4)=true:=by rw [h4]; rfl
     rw [if_pos h4] at r1
     simp only [zeroI] at r1
     simp only [a_20,sA,seval,kn,onel,zap,zaq,ho,hma,hkd,hf1,b1,b4,hlen,r1]
    ·have b4:(t.f == 4)=false:=beq_false_of_ne h4
     rw [if_neg h4] at r1
     simp only [oneI] at r1
     simp only [a_20,sA,seval,kn,onel,zap,zaq,ho,hma,hkd,hf1,b1,b4,hlen,r1]
end Go.Fu.U
namespace Go.Fu.U
open Go Go.Mx Go.Fu
set_option maxRecDepth 100000
set_option maxHeartbeats 1000000
theorem zjo {seen:List Nat} {x:D × D × Nat}:∀ {es:List (D × D × Nat)},x∈leftM seen es→x∈es∧mem seen x.2.2=false
 | [],h=>by cases h
 | y :: r,h=>by
  simp only [leftM] at h
  cases e:mem seen y.2.2 with
  | true =>
   rw [e,zac] at h
   exact ⟨List.mem_cons_of_mem _ (zjo h).1,(zjo h).2⟩
  | false =>
   rw [e,zad] at h
   rcases List.mem_cons.1 h with rfl | h
   ·exact ⟨List.mem_cons_self,e⟩
   ·exact ⟨List.mem_cons_of_mem _ (zjo h).1,(zjo h).2⟩
theorem zwt (b:Nat) (seen:List Nat):∀ es:List (D × D × Nat),(leftM (b :: seen) es).length≤(leftM seen es).length
 | []=>Nat.le_refl _
 | y :: r=>by
  have ih:=zwt b seen r
  simp only [leftM,mem]
  cases e:b == y.2.2 with
  | true =>
   rw [zac,zac]
   cases mem seen y.2.2 with
   | true=>exact ih
   | false =>
    rw [zad]
    exact Nat.le_trans ih (Nat.le_succ _)
  | false =>
   rw [zad]
   cases mem seen y.2.2 with
   | true=>exact ih
   | false =>
    simp only [zad,List.length_cons]
    omega
theorem zp6 {seen:List Nat} {x:D × D × Nat}:∀ {es:List (D × D × Nat)},x∈leftM seen es→(leftM (x.2.2 :: seen) es).length < (leftM seen es).length
 | [],h=>by cases h
 | y :: r,h=>by
  simp only [leftM] at h
  have hle:=zwt x.2.2 seen r
  simp only [leftM,mem]
  cases e:mem seen y.2.2 with
  | true =>
   rw [e,zac] at h
   have ih:=zp6 h
   cases x.2.2 == y.2.2 with
   | true=>simpa [ifB] using ih
   | false=>simpa [ifB] using ih
  | false =>
   rw [e,zad] at h
   rcases List.mem_cons.1 h with rfl | h
   ·simp only [beq_self_eq_true,zac,zad,List.length_cons]
    omega
   ·have ih:=zp6 h
    cases x.2.2 == y.2.2 with
    | true =>
     simp only [zac,zad,List.length_cons]
     omega
    | false =>
     simp only [zad,List.length_cons]
     omega
theorem zrt {B:Env→Store→Option (AExit × Env × Store)} {it nx more out:Nat} {drop clr:List Nat} {R:AExit × Env × Store} (es:List (D × D × Nat)) (Inv:List Nat→Env→Store→Prop)
  (h1:∀ seen e σ,Inv seen e σ→∃ p q,addr e (.tmp it)=some p∧mitOf σ.oth p=some q∧q.seen=seen∧q.es=es∧oldM q.since q.es=true∧Nat.ble q.since q.stepped=true∧∀ x∈leftM seen es,∃ e' σ',B (setM1 e nx more [.bool true,x.1,x.2.1] true) (stepM q x.2.2 σ)=some (.normal,e',σ')∧Inv (x.2.2 :: seen) e' σ')
  (h2:∀ seen e σ,Inv seen e σ→finM drop clr .normal (setM1 e nx more [.bool false] false) σ=R) :
  ∀ (n:Nat) (seen:List Nat) (e:Env) (σ:Store),Inv seen e σ→(leftM seen es).length < n→rangeN B it nx more out drop clr n e σ=some R
 | 0,_,_,_,_,h=>absurd h (by omega)
 | n + 1,seen,e,σ,hI,hn=>by
  obtain ⟨p,q,g1,g2,g3,g4,g5,g6,g7⟩:=h1 seen e σ hI
  have key:∀ x∈leftM seen es,goM out drop clr (rangeN B it nx more out drop clr n) (B (setM1 e nx more [.bool true,x.1,x.2.1] true) (stepM q x.2.2 σ))=some R:=by
   intro x hx
   obtain ⟨e',σ',r1,r2⟩:=g7 x hx
   rw [r1]
   exact zrt es Inv h1 h2 n _ e' σ' r2 (by have:=zp6 hx; omega)
  have h3:=h2 seen e σ hI
  rw [g4] at g5
  rw [rangeN]
  simp only [g1,g2,bindO,zab,g5,g6,Bool.and_self,zac,g3,g4]
  cases hl:leftM seen es with
  | nil=>simp only [h3]
  | cons x r =>
   rw [hl] at key
   have k1:=key x (by simp)
   have k2:allR (fun y=>goM out drop clr (rangeN B it nx more out drop clr n) (B (setM1 e nx more [.bool true,y.1,y.2.1] true) (stepM q y.2.2 σ))) R r=true:=zbdb fun y hy=>key y (by simp [hy])
   simp only [k1,k2,bindO,zab,zac]
theorem zbmb:∀ (K:Kn) (b s:Nat),b + K.length≤s→oldM s (esK K b)=true
 | [],_,_,_=>rfl
 | x :: r,b,s,h=>by
  have h1:Nat.ble (b + 1) s=true:=by rw [Nat.ble_eq]; simp only [List.length_cons] at h; omega
  simp only [esK,entK,oldM,h1,Bool.true_and]
  exact zbmb r (b + 1) s (by simp only [List.length_cons] at h; omega)
theorem zbkb:∀ (K:Kn) (b:Nat) (x:D × D × Nat),x∈esK K b→b≤x.2.2∧∃ y∈K,x.1=.int .i64 y.1∧x.2.1=dTy y.2∧entAt x.2.2 (esK K b)=some (x.1,x.2.1)
 | y :: r,b,x,h=>by
  simp only [esK] at h
  rcases List.mem_cons.1 h with rfl | h
  ·refine ⟨Nat.le_refl _,y,List.mem_cons_self,rfl,rfl,?_⟩
   simp only [esK,entK,entAt,beq_self_eq_true,zac]
  ·obtain ⟨h1,z,h2,h3,h4,h5⟩:=zbkb r (b + 1) x h
   refine ⟨by omega,z,List.mem_cons_of_mem _ h2,h3,h4,?_⟩
   have:(b == x.2.2)=false:=by
    cases e:b == x.2.2 with
    | false=>rfl
    | true =>
     have:=eq_of_beq e
     omega
   simp only [esK,entK,entAt,this,zad,h5]
theorem zt1:∀ (es:List (D × D × Nat)),leftM [] es=es
 | []=>rfl
 | x :: r=>by simp only [leftM,mem,zad,zt1 r]
theorem zblb:∀ (K:Kn) (b:Nat),(esK K b).length=K.length
 | [],_=>rfl
 | x :: r,b=>by simp only [esK,List.length_cons,zblb r (b + 1)]
def Egr (p nm it:Nat) (o:Option D):Env:={slots:=match o with
 | none=>[(0,⟨false,.ptr p 0⟩),(3,⟨false,.map nm⟩),(10,⟨false,.ptr it 0⟩)]
 | some t=>[(0,⟨false,.ptr p 0⟩),(3,⟨false,.map nm⟩),(10,⟨false,.ptr it 0⟩),(11,⟨false,t⟩),(20,⟨false,.bool false⟩)],locs:=[],boxes:=[],defers:=[]}
section
variable {C:CallF} {n:Nat} {σ:Store}
theorem zmrb (p m nm it:Nat) (o:Option D) (k:Int) (t:D) (b:Nat) (v:Nat) (hv:v≤500) (since:Nat) (seen:List Nat) (cl:Nat) (es:List (D × D × Nat)) (hit:mitOf σ.oth (.ptr it 0)=some ⟨it,m,since,b :: seen,cl,es,cl⟩) (hen:entAt b es=some (.int .i64 k,t)) (h0:C n_25 [.int .i64 k] σ=some (.ret ⟨false,dTy (tMeta k)⟩,σ)) {σ':Store} (h1:C n_77 [.ptr p 0,dTy (tMeta k),.map nm] σ=some (.ret ⟨false,.int .i64 (v:Nat)⟩,σ')):exec C n none a_95 (setM1 (Egr p nm it o) 11 12 [.bool true,.int .i64 k,t] true) σ=some (.normal,Egr p nm it (some (.tup [.bool true,.int .i64 k,t])),σ'):=by
 have hg:¬ ((v:Int) > 500):=by omega
 generalize tMeta k=u at *
 simp only [zap,zaq] at h0 h1
 cases o with
 | none=>simp only [a_95,Egr,setM1,sA,seval,kn,onel,hit,hen,h0,h1,hg,beq_self_eq_true]
 | some d=>simp only [a_95,Egr,setM1,sA,seval,kn,onel,hit,hen,h0,h1,hg,beq_self_eq_true]
end
theorem znk (n:Int):Fine (tMeta n):=.mk (by simp) (fun _ h=>by cases h)
theorem ztt {P:Int × Ty→Nat→Prop} (hm:∀ x a b,a≤b→P x a→P x b):∀ (K:Kn),(∀ x∈K,∃ B,P x B)→∃ B,∀ x∈K,P x B
 | [],_=>⟨0,fun _ h=>by cases h⟩
 | x :: r,h=>by
  obtain ⟨B1,h1⟩:=h x (by simp)
  obtain ⟨B2,h2⟩:=ztt hm r fun y hy=>h y (by simp [hy])
  refine ⟨B1 + B2,fun y hy=>?_⟩
  rcases List.mem_cons.1 hy with rfl | hy
  ·exact hm _ _ _ (by omega) h1
  ·exact hm _ _ _ (by omega) (h2 y hy)
theorem zmob {σ:Store} {x:Oth}:({objs:=σ.objs,tys:=σ.tys,oth:=(σ.next,x) :: σ.oth,next:=σ.next + 1}:Store)=GM σ x:=rfl
structure GrI (τ:Store) (p m q nm it:Nat) (K:Kn) (seen:List Nat) (e:Env) (ρ:Store):Prop where
 env:∃ o,e=Egr p nm it o
 objs:ρ.objs=τ.objs
 tys:ρ.tys=τ.tys
 next:ρ.next=τ.next
 oth:adel1 (adel1 ρ.oth it) nm=adel1 (adel1 τ.oth it) nm
 it:aget ρ.oth it=some (.mit m K.length seen K.length)
 sb:SB ρ p m q (esK K 0) K.length
 nm:∃ N,aget ρ.oth nm=some (.map (esQ N 0) N.length)∧NVal K N
theorem zi6b {S:Specs} (hMe:aget S n_25=some sp_meta) {τ:Store} {p m q nm it B:Nat} {K:Kn} (hne:nm≠it) (hnm2:nm≠m) (him:it≠m) (hB:∀ x∈K,∃ v,v≤500∧∀ σ N,SB σ p m q (esK K 0) K.length→aget σ.oth nm=some (.map (esQ N 0) N.length)→NVal K N→SzR S K p nm (tMeta x.1) v B σ) (n:Nat) (hn:B + 2≤n) (seen:List Nat) (e:Env) (ρ:Store) (h:GrI τ p m q nm it K seen e ρ):∃ p' q',addr e (.tmp 10)=some p'∧mitOf ρ.oth p'=some q'∧q'.seen=seen∧q'.es=esK K 0∧oldM q'.since q'.es=true∧Nat.ble q'.since q'.stepped=true∧∀ x∈leftM seen (esK K 0),∃ e' σ',exec (TS S n) n none a_95 (setM1 e 11 12 [.bool true,x.1,x.2.1] true) (stepM q' x.2.2 ρ)=some (.normal,e',σ')∧GrI τ p m q nm it K (x.2.2 :: seen) e' σ':=by
 obtain ⟨o,rfl⟩:=h.env
 refine ⟨.ptr it 0,⟨it,m,K.length,seen,K.length,esK K 0,K.length⟩,?_,?_,rfl,rfl,zbmb K 0 _ (by show 0 + K.length≤K.length; omega),by rw [Nat.ble_eq]; exact Nat.le_refl _,fun x hx=>?_⟩
 ·cases o <;> rfl
 ·simp only [mitOf,h.it,h.sb.map,bindO,zab]
 ·obtain ⟨_,y,hy,e1,e2,e3⟩:=zbkb K 0 x (zjo hx).1
  obtain ⟨N,hN,hV⟩:=h.nm
  obtain ⟨k,t,b⟩:=x
  simp only at e1 e2 e3
  subst e1
  subst e2
  obtain ⟨ρ1,hρ1⟩:∃ ρ1,ρ1=stepM ⟨it,m,K.length,seen,K.length,esK K 0,K.length⟩ b ρ:=⟨_,rfl⟩
  have em:(it == m)=false:=beq_false_of_ne him
  have en:(it == nm)=false:=beq_false_of_ne (Ne.symm hne)
  have i1:aget ρ1.oth it=some (.mit m K.length (b :: seen) K.length):=by
   rw [hρ1]
   exact agA _ _ _
  have sb1:SB ρ1 p m q (esK K 0) K.length:=by
   rw [hρ1]
   exact ⟨h.sb.obj,(agB _ _ _ em _).trans h.sb.map,h.sb.lt,h.sb.ltm⟩
  have n1:aget ρ1.oth nm=some (.map (esQ N 0) N.length):=by
   rw [hρ1]
   exact (agB _ _ _ en _).trans hN
  have mi:mitOf ρ1.oth (.ptr it 0)=some ⟨it,m,K.length,b :: seen,K.length,esK K 0,K.length⟩:=by
   simp only [mitOf,i1,sb1.map,bindO,zab]
  obtain ⟨v,hv,hs⟩:=hB y hy
  obtain ⟨σ',N',f1,m1,v1,r1⟩:=hs ρ1 N sb1 n1 hV
  obtain ⟨n,rfl⟩:∃ k,n=k + 1:=⟨n - 1,by omega⟩
  refine ⟨Egr p nm it (some (.tup [.bool true,.int .i64 y.1,dTy y.2])),σ',?_,⟨⟨some (.tup [.bool true,.int .i64 y.1,dTy y.2]),rfl⟩,?_,?_,?_,?_,?_,f1.sb hnm2 sb1,N',m1,v1⟩⟩
  ·rw [← hρ1]
   exact zmrb p m nm it o y.1 _ b v hv K.length seen K.length (esK K 0) mi e3 (zm7 hMe _ _ _) (r1 _ (by omega))
  ·rw [f1.objs,hρ1]
   exact h.objs
  ·rw [f1.tys,hρ1]
   exact h.tys
  ·rw [f1.next,hρ1]
   exact h.next
  ·rw [zgc,f1.oth,zgc,hρ1]
   show adel1 (adel1 (aset ρ.oth it _) it) nm=_
   rw [zm2]
   exact h.oth
  ·rw [f1.other it hne]
   exact i1
theorem zf3b {S:Specs} (hS:UnifyS S) {p m q d:Nat} {K:Kn} (hK:∀ x∈K,Fine x.2) (hF:FitK d K) (σ:Store) (hB:SB σ p m q (esK K 0) K.length):∃ σ',Fr σ σ'∧∃ N,∀ n,N≤n→TS S n n_182 [.ptr p 0] σ=some (.ret ⟨false,.bool false⟩,σ'):=by
 have hS2:=hS.2.2.2.2.2.2.2.2.1
 have hMe:=hS.2.2.2.2.2.2.2.2.2.2.2.2.2.2.2.1
 obtain ⟨nm,hnm⟩:∃ nm,nm=σ.next:=⟨_,rfl⟩
 obtain ⟨it,hit⟩:∃ it,it=σ.next + 1:=⟨_,rfl⟩
 have hne:nm≠it:=by omega
 have hpm:=hB.lt
 have hmm:=hB.ltm
 have hnm2:nm≠m:=by omega
 have him:it≠m:=by omega
 obtain ⟨τ0,hτ0⟩:∃ τ0,τ0=GM σ (.map [] 0):=⟨_,rfl⟩
 obtain ⟨τ,hτ⟩:∃ τ,τ=GM τ0 (.mit m K.length [] K.length):=⟨_,rfl⟩
 obtain ⟨Z,hZ⟩:∃ Z:Store,Z={objs:=adel1 (adel1 τ.objs it) nm,tys:=τ.tys,oth:=adel1 (adel1 τ.oth it) nm,next:=τ.next}:=⟨_,rfl⟩
 have f00:Fr σ τ0:=by rw [hτ0]; exact fr_GM _ _
 have f0:Fr σ τ:=by rw [hτ]; exact f00.trans (fr_GM _ _)
 have hB0:=hB.fr f00
 have hB1:=hB.fr f0
 have hno:aget τ.oth nm=some (.map (esQ [] 0) ([]:List (Int × D)).length):=by
  rw [hτ,hτ0,hnm]
  exact (agC _ _ _ _ (by show σ.next + 1≠σ.next; omega)).trans (agS _ _ _)
 have hio:aget τ.oth it=some (.mit m K.length [] K.length):=by
  rw [hτ,hτ0,hit]
  exact agS _ _ _
 have hn0:τ0.next=it:=by rw [hτ0,hit]; rfl
 have hn2:τ.next=σ.next + 2:=by rw [hτ,hτ0]; rfl
 have key:∃ N,∀ n l,N≤n→K.length + 1≤l→rangeN (exec (TS S n) n none a_95) 10 11 12 0 [it,nm] [4,10,11,12,13,14,15,16,17,18,19,20] l (Egr p nm it none) τ=some (.normal,{slots:=[(0,⟨false,.ptr p 0⟩),(3,⟨false,.map nm⟩)],locs:=[],boxes:=[],defers:=[]},Z):=by
  obtain ⟨B,hBd⟩:=ztt (P:=fun x B=>∃ v,v≤500∧∀ σ N,SB σ p m q (esK K 0) K.length→aget σ.oth nm=some (.map (esQ N 0) N.length)→NVal K N→SzR S K p nm (tMeta x.1) v B σ) (fun x a b hab ⟨v,hv,h⟩=>⟨v,hv,fun σ N h1 h2 h3=>by
    obtain ⟨σ',N',g1,g2,g3,g4⟩:=h σ N h1 h2 h3
    exact ⟨σ',N',g1,g2,g3,fun n hn=>g4 n (Nat.le_trans hab hn)⟩⟩) K (fun x hx=>by
    obtain ⟨v,hs,hv⟩:=hF x hx
    obtain ⟨B,hB⟩:=zqm hS hK hnm2 (p:=p) (q:=q) (c:=K.length) d (tMeta x.1) v (znk _) hs
    exact ⟨B,v,hv,hB⟩)
  refine ⟨B + 2,fun n l hn hl=>?_⟩
  refine zrt (esK K 0) (GrI τ p m q nm it K) (fun seen e ρ h=>zi6b hMe hne hnm2 him hBd n hn seen e ρ h) (fun seen e ρ h=>?_) l [] (Egr p nm it none) τ ⟨⟨none,rfl⟩,rfl,rfl,rfl,rfl,hio,hB1,[],hno,fun _ _ h=>by cases h⟩ (by rw [zt1,zblb]; omega)
  obtain ⟨o,rfl⟩:=h.env
  have e1:zg4 [it,nm] ρ=Z:=by
   rw [hZ,← h.objs,← h.tys,← h.next,← h.oth]
   rfl
  rw [finM,e1]
  cases o <;> rfl
 obtain ⟨N,hN⟩:=key
 refine ⟨Z,?_,N + K.length + 4,fun n hn=>?_⟩
 ·refine ⟨?_,fun j hj=>?_,fun j hj=>?_,fun j hj=>?_⟩
  ·rw [hZ]
   show σ.next≤τ.next
   omega
  ·rw [hZ]
   show aget (adel1 (adel1 τ.objs it) nm) j=_
   rw [zbf nm j (by omega),zbf it j (by omega)]
   exact f0.objs j hj
  ·rw [hZ]
   show aget (adel1 (adel1 τ.oth it) nm) j=_
   rw [zbf nm j (by omega),zbf it j (by omega)]
   exact f0.oth j hj
  ·rw [hZ]
   exact f0.tys j hj
 ·obtain ⟨n,rfl⟩:∃ k,n=k + 1:=⟨n - 1,by omega⟩
  have hr:=hN n n (by omega) (by omega)
  have ho:=hB0.obj
  have hm:=hB0.map
  rw [zbe (af:=a_165) hS2 rfl rfl]
  simp only [Egr] at hr
  have hid:∀ (a b:Nat),idsAt {slots:=[(0,⟨false,.ptr p 0⟩),(3,⟨false,.map a⟩),(10,⟨false,.ptr b 0⟩)],locs:=[],boxes:=[],defers:=[]} [10,3]=[b,a]:=fun _ _=>rfl
  have hτl:({objs:=τ0.objs,tys:=τ0.tys,oth:=(it,.mit m K.length [] K.length) :: τ0.oth,next:=it + 1}:Store)=τ:=by rw [hτ,GM,hn0]
  simp only [a_165,sA,seval,kn,onel,memE,mMake,← hnm,← hτ0,ho,hm,hn0,hτl,zo5,hid,hr]
end Go.Fu.U
namespace Go.Fu.U
open Go Go.Mx Go.Fu
set_option maxRecDepth 100000
set_option maxHeartbeats 1000000
structure Fm (σ σ':Store) (m:Nat):Prop where
 le:σ.next≤σ'.next
 objs:∀ j,j < σ.next→aget σ'.objs j=aget σ.objs j
 oth:∀ j,j < σ.next→j≠m→aget σ'.oth j=aget σ.oth j
 tys:∀ j,j < σ.next→aget σ'.tys j=aget σ.tys j
theorem Fr.fm {σ σ':Store} {m:Nat} (h:Fr σ σ'):Fm σ σ' m:=⟨h.le,h.objs,fun j hj _=>h.oth j hj,h.tys⟩
theorem Fm.trans {a b c:Store} {m:Nat} (h:Fm a b m) (k:Fm b c m):Fm a c m :=
 ⟨Nat.le_trans h.le k.le,fun j hj=>(k.objs j (Nat.lt_of_lt_of_le hj h.le)).trans (h.objs j hj),fun j hj hm=>(k.oth j (Nat.lt_of_lt_of_le hj h.le) hm).trans (h.oth j hj hm),fun j hj=>(k.tys j (Nat.lt_of_lt_of_le hj h.le)).trans (h.tys j hj)⟩
def SK (σ:Store) (p m n:Nat) (K:Kn):Prop:=SB σ p m n (esK K 0) K.length
theorem SK.put {σ:Store} {p m n:Nat} {K:Kn} (h:SK σ p m n K) (k:Int) (t:Ty):SK (SM σ m (.map (esK (K ++ [(k,t)]) 0) (K ++ [(k,t)]).length)) p m n (K ++ [(k,t)]):=⟨h.obj,zku,h.lt,h.ltm⟩
theorem Fm.SM {σ:Store} {m:Nat} (x:Oth):Fm σ (SM σ m x) m :=
 ⟨Nat.le_refl _,fun _ _=>rfl,fun j _ hj=>agB _ _ _ (beq_false_of_ne (Ne.symm hj)) _,fun _ _=>rfl⟩
theorem zvo {S:Specs} (hS:UnifyS S) {p m q d:Nat} {K K':Kn} (hK:∀ x∈K,Fine x.2) {k:Int} {t:Ty} (ht:Fine t) (hb:BindK d K k t K') (σ:Store) (hB:SK σ p m q K):∃ σ',Fm σ σ' m∧SK σ' p m q K'∧∃ N,∀ n,N≤n→TS S n n_181 [.ptr p 0,.int .i64 k,dTy t] σ=some (.ret ⟨false,.int .i64 0⟩,σ'):=by
 have hS1:=hS.2.2.2.2.2.2.2.2.2.1
 have hMe:=hS.2.2.2.2.2.2.2.2.2.2.2.2.2.2.2.1
 have hAp:=hS.2.2.2.2.2.2.2.2.2.2.2.2.2.2.2.2
 -- what is put behind
 have tail:∀ (k':Int) (t':Ty),Fine t'→withinF d K k' t'=some false→kno k' K=none→FitK d (K ++ [(k',t')])→∃ σ1 σ2,Fr σ σ1∧Fm σ1 σ2 m∧SK σ2 p m q (K ++ [(k',t')])∧SK σ1 p m q K∧∃ N,∀ n,N≤n→TS S n n_127 [.ptr p 0,.int .i64 k',dTy t'] σ=some (.ret ⟨false,.bool false⟩,σ1)∧TS S n n_67 [dTy t',.nils] σ1=some (.ret ⟨false,dTy t'⟩,σ1)∧TS S n n_182 [.ptr p 0] (SM σ1 m (.map (esK (K ++ [(k',t')]) 0) (K ++ [(k',t')]).length))=some (.ret ⟨false,.bool false⟩,σ2):=by
  intro k' t' ht' hw hk hf
  obtain ⟨σ1,f1,N1,r1⟩:=zsd hS hK d t' false ht' hw σ hB
  have hB1:SK σ1 p m q K:=SB.fr hB f1
  have hB2:=hB1.put k' t'
  have hK2:∀ x∈K ++ [(k',t')],Fine x.2:=by
   intro x hx
   rcases List.mem_append.1 hx with hx | hx
   ·exact hK x hx
   ·rw [List.mem_singleton.1 hx]
    exact ht'
  obtain ⟨σ2,f2,N2,r2⟩:=zf3b hS hK2 hf _ hB2
  refine ⟨σ1,σ2,f1,(Fm.SM _).trans f2.fm,SB.fr hB2 f2,hB1,N1 + N2 + 2,fun n hn=>⟨r1 n (by omega),?_,r2 n (by omega)⟩⟩
  obtain ⟨n,rfl⟩:∃ k,n=k + 1:=⟨n - 1,by omega⟩
  exact zirb hAp t' [] ht' (fun _ h=>by cases h) (by simp) n σ1
 have upd:∀ (k':Int) (t':Ty) (σ1:Store),SK σ1 p m q K→kno k' K=none→mapAt σ1.oth (.map m)=some (m,esK K 0,K.length)∧findM (.int .i64 k') (esK K 0)=some none∧esK K 0 ++ [(D.int .i64 k',dTy t',K.length)]=esK (K ++ [(k',t')]) 0∧K.length + 1=(K ++ [(k',t')]).length:=by
  intro k' t' σ1 h hk
  refine ⟨?_,zj1 0 hk,?_,by simp⟩
  ·simp only [mapAt,h.map,bindO,zab]
  ·rw [zv4,Nat.zero_add]
   rfl
 have hok:∀ t:Ty,(D.agg (cTy t)).ok=true:=fun t=>by
  rw [← zap]
  exact zhab t
 cases hb with
 | own h1 h2 =>
  refine ⟨σ,(Fr.refl σ).fm,hB,1,fun n hn=>?_⟩
  obtain ⟨n,rfl⟩:∃ k,n=k + 1:=⟨n - 1,by omega⟩
  have b1:(t.f == 1)=true:=by rw [h1]; rfl
  have b2:(t.n == k)=true:=by rw [h2]; simp
  rw [zbe (af:=a_45) hS1 rfl rfl]
  simp only [a_45,sA,seval,kn,onel,zap,zaq,b1,b2]
 | less h1 h2 hw hk hs =>
  obtain ⟨σ1,σ2,f1,f2,s2,s1,N,hN⟩:=tail t.n (tMeta k) (znk _) hw hk hs
  refine ⟨σ2,f1.fm.trans f2,s2,N + 2,fun n hn=>?_⟩
  obtain ⟨n,rfl⟩:∃ k,n=k + 1:=⟨n - 1,by omega⟩
  obtain ⟨r1,r2,r3⟩:=hN n (by omega)
  obtain ⟨u1,u2,u3,u4⟩:=upd t.n (tMeta k) σ1 s1 hk
  obtain ⟨n,rfl⟩:∃ k,n=k + 1:=⟨n - 1,by omega⟩
  have h0:=zm7 hMe k n σ
  have ho:=s1.obj
  have b1:(t.f == 1)=true:=by rw [h1]; rfl
  have b2:(t.n == k)=false:=beq_false_of_ne (by omega)
  have b3:t.n > k:=h2
  have kd:keyD false (.int .i64 t.n)=true:=rfl
  have hk2:=hok (tMeta k)
  rw [zbe (af:=a_45) hS1 rfl rfl]
  generalize K ++ [(t.n,tMeta k)]=K2 at *
  generalize tMeta k=u at *
  simp only [zap,zaq] at h0 r1 r2 u3 hk2
  simp only [a_45,sA,seval,kn,onel,zap,zaq,b1,b2,b3,h0,r1,r2,r3,memE,mUpd,ho,u1,u2,u3,u4,kd,hk2]
 | put h1 h2 hw hk hs =>
  obtain ⟨σ1,σ2,f1,f2,s2,s1,N,hN⟩:=tail k t ht hw hk hs
  refine ⟨σ2,f1.fm.trans f2,s2,N + 2,fun n hn=>?_⟩
  obtain ⟨n,rfl⟩:∃ k,n=k + 1:=⟨n - 1,by omega⟩
  obtain ⟨r1,r2,r3⟩:=hN n (by omega)
  obtain ⟨u1,u2,u3,u4⟩:=upd k t σ1 s1 hk
  have ho:=s1.obj
  have kd:keyD false (.int .i64 k)=true:=rfl
  have hk2:=hok t
  rw [zbe (af:=a_45) hS1 rfl rfl]
  generalize K ++ [(k,t)]=K2 at *
  simp only [zap,zaq] at r1 r2 u3 hk2
  cases b1:t.f == 1 with
  | true =>
   have b2:(t.n == k)=false:=beq_false_of_ne fun e=>h1 ⟨eq_of_beq b1,e⟩
   have b3:¬ (t.n > k):=fun e=>h2 ⟨eq_of_beq b1,e⟩
   simp only [a_45,sA,seval,kn,onel,zap,zaq,b1,b2,b3,r1,r2,r3,memE,mUpd,ho,u1,u2,u3,u4,kd,hk2]
  | false =>
   simp only [a_45,sA,seval,kn,onel,zap,zaq,b1,r1,r2,r3,memE,mUpd,ho,u1,u2,u3,u4,kd,hk2]
end Go.Fu.U
