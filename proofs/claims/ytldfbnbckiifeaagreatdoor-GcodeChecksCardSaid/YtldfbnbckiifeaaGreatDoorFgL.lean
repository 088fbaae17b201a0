/-
 What is right is not refused.
-/
import Derived.Test.YtldfbnbckiifeaaGreatDoorFgH
set_option maxHeartbeats 4000000
set_option linter.unusedSimpArgs false
set_option linter.unusedVariables false
set_option linter.unusedSectionVars false
namespace Go.Fu
open Go Go.Mx
set_option maxRecDepth 10000
def SDb:Specs:=[(n_25,zgv),(n_26,zmo),(n_36,zj2),(n_76,zj1)]
section
variable {C:CallF} {n:Nat} {σ:Store}
def Eda (c:Co) (i:Nat):Env:={slots:=[(3,⟨false,.bool false⟩),(4,⟨false,.int .i64 i⟩)],locs:=[(1,1,0)],boxes:=[(1,bC c)],defers:=[]}
theorem zkib (c:Co) (i:Nat) (h:i < c.al.length) (hl:c.size < 100000000) (hc:C n_26 [dSs c.al[i].1.vars] σ=some (.ret ⟨false,.bool false⟩,σ)):exec C n none a_110 (Eda c i) σ=some (.normal,Eda c (i + 1),σ):=by
 have ha:=zc6 c.al
 have hsz:=za2 c
 have hi:((i:Int) < (c.al.length:Int)):=by omega
 have hp:=partA c.al[i]
 simp only [a_110,Eda,bC,sA,seval,kn,len_A,hi,natI,idx_A _ i h,agg?_dA,hp,zew,hc,zag (i:=i) (by omega)]
theorem zneb (c:Co):exec C n none a_110 (Eda c c.al.length) σ=some (.exit 0,{Eda c c.al.length with slots:=[(3,⟨false,.bool false⟩),(4,⟨false,.int .i64 c.al.length⟩),(15,⟨false,.bool false⟩)]},σ):=by
 have hi:¬ ((c.al.length:Int) < (c.al.length:Int)):=by omega
 simp only [a_110,Eda,bC,sA,seval,kn,len_A,hi]
def Edb (l:List Co) (i:Nat):Env:={slots:=[(3,⟨false,.bool false⟩),(6,⟨false,dCs l⟩),(7,⟨false,.int .i64 i⟩)],locs:=[],boxes:=[],defers:=[]}
theorem zkjb (l:List Co) (i:Nat) (h:i < l.length) (hl:l.length < 100000000) (hc:C n_76 [dCo l[i]] σ=some (.ret ⟨false,.bool false⟩,σ)):exec C n none a_111 (Edb l i) σ=some (.normal,Edb l (i + 1),σ):=by
 have hi:((i:Int) < (l.length:Int)):=by omega
 have hx:=idx_C l i h
 have hd:=zaf l[i]
 rw [hd] at hc hx
 simp only [a_111,Edb,sA,seval,kn,len_C,hi,natI,hx,zgb,hc,zag (i:=i) (by omega)]
theorem znfb (l:List Co):exec C n none a_111 (Edb l l.length) σ=some (.exit 2,{Edb l l.length with slots:=[(3,⟨false,.bool false⟩),(6,⟨false,dCs l⟩),(7,⟨false,.int .i64 l.length⟩),(38,⟨false,.bool false⟩)]},σ):=by
 have hi:¬ ((l.length:Int) < (l.length:Int)):=by omega
 simp only [a_111,Edb,sA,seval,kn,len_C,hi]
end
theorem zcmb {ns:List Tx} {c:Co} (h:Good ns c):zce (c.bs.map Prod.fst)=false:=by
 cases h <;> first | rfl | assumption
theorem zqx {ns:List Tx} {c:Co} (h:Good ns c):∀ a∈c.al,HdOk a.1:=by
 cases h <;> first | (intro a ha; cases ha; done) | assumption
theorem zve:∀ (k:Nat) (c:Co) (ns:List Tx),c.size=k→Good ns c→c.size < 100000000→OkP n_76 [dCo c] ⟨false,.bool false⟩:=by
 intro k
 induction k using Nat.strongRecOn with
 | ind k ih =>
  intro c ns hk h hl
  have hlen:=ze9 c
  have hsz:=za2 c
  have hb:=zbv c.bs
  have hks:=zft c.ks
  have ha:=zc6 c.al
  refine zas (af:=a_173) (n:=c.size + 1) (σ':=σ0) (zav SDb 1) rfl rfl (by simp [zal,za4]) rfl ?_
  have h1:=zi0 (S:=SDb) rfl c hl 0 σ0
  have h2:=zhc (S:=SDb) rfl (c.bs.map Prod.fst) (by simp; omega) 0 σ0
  rw [zcmb h] at h2
  have h3:=zi2 (S:=SDb) rfl c hl 0 σ0
  have hv:∀ i (hi:i < c.al.length),T SDb 1 n_26 [dSs c.al[i].1.vars] σ0=some (.ret ⟨false,.bool false⟩,σ0):=fun i hi=>by
   have hm:=ze0 c.al _ (List.getElem_mem hi)
   have:=zhc (S:=SDb) rfl c.al[i].1.vars (by omega) 0 σ0
   rw [(zqx h _ (List.getElem_mem hi)).2.1] at this
   exact this
  have hrec:∀ i (hi:i < (zae c).length),T SDb 1 n_76 [dCo (zae c)[i]] σ0=some (.ret ⟨false,.bool false⟩,σ0):=fun i hi=>by
   have hlt:=zfp c _ (List.getElem_mem hi)
   exact zi1 (S:=SDb) rfl rfl (ih _ (by omega) (zae c)[i] _ rfl (zni h i hi) (by omega)) 0 σ0
  have hl0:=za6 (body:=exec (T SDb 1) (c.size + 1) none a_110) (Eda c) (fun _=>σ0) c.al.length (r:=_) (fun _ _ h=>by cases h) (fun i hi=>zkib c i hi hl (hv i hi)) (zneb c) 0 (c.size + 1) (by omega) (by omega)
  have hl1:=za6 (body:=exec (T SDb 1) (c.size + 1) none a_111) (Edb (zae c)) (fun _=>σ0) (zae c).length (r:=_) (fun _ _ h=>by cases h) (fun i hi=>zkjb (zae c) i hi (by omega) (hrec i hi)) (znfb (zae c)) 0 (c.size + 1) (by omega) (by omega)
  simp only [Eda,bC,zeroI] at hl0
  simp only [Edb,zeroI] at hl1
  simp only [zaf c,zaj] at h1 h3
  simp only [a_173,sA,seval,kn,zaf c,zaj,zbk,zbj,zbi,h1,h2,h3,hl0,hl1]
def SSt:Specs:=[(n_18,sp_in),(n_46,zqb),(n_25,zgv),(n_36,zj2),(n_35,zqc),(n_3,zh1),(n_79,zj1)]
section
variable {C:CallF} {n:Nat} {σ:Store}
def Esa (ns:List Tx) (c:Co) (i:Nat):Env:={slots:=[(0,⟨false,dFs FL⟩),(1,⟨false,dSs ns⟩),(9,⟨false,.int .i64 i⟩)],locs:=[(5,5,0)],boxes:=[(5,bC c)],defers:=[]}
theorem zl8b (ns:List Tx) (c:Co) (i:Nat) (h:i < c.al.length) (hl:c.size < 100000000) (hh:HdOk c.al[i].1) (hc:C n_46 [dFs FL,.str c.al[i].1.name,.int .i64 c.al[i].1.vars.length] σ=some (.ret ⟨false,.bool (zc2 FL c.al[i].1.name c.al[i].1.vars.length)⟩,σ)) :
  exec C n none a_69 (Esa ns c i) σ=some (.normal,Esa ns c (i + 1),σ):=by
 have ha:=zc6 c.al
 have hsz:=za2 c
 have hi:((i:Int) < (c.al.length:Int)):=by omega
 have hp:=partA c.al[i]
 have w:=zag (i:=i) (by omega)
 obtain ⟨_,_,hf | hf | hf⟩:=hh
 ·rw [hf.2] at hc
  simp only [a_69,Esa,bC,sA,seval,kn,len_A,hi,natI,idx_A _ i h,agg?_dA,hp,zew,len_S,hc,hf.1,w]
 ·simp only [a_69,Esa,bC,sA,seval,kn,len_A,hi,natI,idx_A _ i h,agg?_dA,hp,zew,len_S,hc,hf.1,w]
 ·simp only [a_69,Esa,bC,sA,seval,kn,len_A,hi,natI,idx_A _ i h,agg?_dA,hp,zew,len_S,hc,hf.1,w]
theorem zoob (ns:List Tx) (c:Co):exec C n none a_69 (Esa ns c c.al.length) σ=some (.exit 0,{Esa ns c c.al.length with slots:=[(0,⟨false,dFs FL⟩),(1,⟨false,dSs ns⟩),(9,⟨false,.int .i64 c.al.length⟩),(50,⟨false,.bool false⟩)]},σ):=by
 have hi:¬ ((c.al.length:Int) < (c.al.length:Int)):=by omega
 simp only [a_69,Esa,bC,sA,seval,kn,len_A,hi]
def Esb (ns:List Tx) (c:Co) (i:Nat):Env:={slots:=[(0,⟨false,dFs FL⟩),(1,⟨false,dSs ns⟩),(11,⟨false,dCs (zae c)⟩),(12,⟨false,.int .i64 i⟩)],locs:=[(5,5,0)],boxes:=[(5,bC c)],defers:=[]}
theorem zl9b (ns:List Tx) (c:Co) (i:Nat) (h:i < (zae c).length) (hl:(zae c).length < 100000000) (hg:C n_35 [dCo c,.int .i64 i] σ=some (.ret ⟨false,dSs (zay c i)⟩,σ)) (hb:C n_3 [dSs ns,dSs (zay c i)] σ=some (.ret ⟨false,dSs (ns ++ zay c i)⟩,σ))
  (hc:C n_79 [dFs FL,dSs (ns ++ zay c i),dCo (zae c)[i]] σ=some (.ret ⟨false,.bool false⟩,σ)):exec C n none a_125 (Esb ns c i) σ=some (.normal,Esb ns c (i + 1),σ):=by
 have hi:((i:Int) < ((zae c).length:Int)):=by omega
 have hx:=idx_C (zae c) i h
 have hd:=zaf (zae c)[i]
 rw [hd] at hc hx
 rw [zaf c,zaj] at hg
 simp only [a_125,Esb,bC,sA,seval,kn,len_C,hi,natI,hx,zgb,zcc,hg,hb,hc,zag (i:=i) (by omega)]
theorem zoqb (ns:List Tx) (c:Co):exec C n none a_125 (Esb ns c (zae c).length) σ=some (.exit 2,{Esb ns c (zae c).length with slots:=[(0,⟨false,dFs FL⟩),(1,⟨false,dSs ns⟩),(11,⟨false,dCs (zae c)⟩),(12,⟨false,.int .i64 (zae c).length⟩),(84,⟨false,.bool false⟩)]},σ):=by
 have hi:¬ (((zae c).length:Int) < ((zae c).length:Int)):=by omega
 simp only [a_125,Esb,bC,sA,seval,kn,len_C,hi]
end
theorem zcjb (c:Co) (i:Nat) (hi:i < (zae c).length):(zay c i).length≤c.size:=by
 have hsz:=za2 c
 have hb:=zbv c.bs
 have hlen:=ze9 c
 unfold zay
 split
 ·rw [zaq _ _ _ (by simp; omega),List.getElem_map]
  have:=ze0 c.al _ (List.getElem_mem (show i - (c.bs.length + c.ks.length) < c.al.length by omega))
  omega
 ·simp; omega
theorem zfmb {ns:List Tx} {c:Co} (h:Good ns c):(c.f=1∧ns.any (· == c.s)=true)∨(c.f=2∧zc2 FL c.s (-1)=true)∨((c.f == 1)=false∧(c.f == 2)=false):=by
 cases h with
 | int _=>exact .inr (.inr ⟨rfl,rfl⟩)
 | con h=>exact .inr (.inl ⟨rfl,h⟩)
 | var h=>exact .inl ⟨rfl,h⟩
 | fail=>exact .inr (.inr ⟨rfl,rfl⟩)
 | app _ _=>exact .inr (.inr ⟨rfl,rfl⟩)
 | prim _ _ _=>exact .inr (.inr ⟨rfl,rfl⟩)
 | lt _ _ _=>exact .inr (.inr ⟨rfl,rfl⟩)
 | cas _ _ _=>exact .inr (.inr ⟨rfl,rfl⟩)
theorem zxk:∀ (k:Nat) (c:Co) (ns:List Tx),c.size=k→Good ns c→ns.length + c.size < 100000000→OkP n_79 [dFs FL,dSs ns,dCo c] ⟨false,.bool false⟩:=by
 intro k
 induction k using Nat.strongRecOn with
 | ind k ih =>
  intro c ns hk h hl
  have hlen:=ze9 c
  have hsz:=za2 c
  have hb:=zbv c.bs
  have hks:=zft c.ks
  have ha:=zc6 c.al
  refine zas (af:=a_124) (n:=c.size + 1) (σ':=σ0) (zav SSt 1) rfl rfl (by simp [zal,za4,zau,zde]) rfl ?_
  have h1:=zji (S:=SSt) rfl ns c.s (by omega) 0 σ0
  have h2:=zlt (S:=SSt) rfl FL c.s (-1) (by decide) 0 σ0
  have h3:=zi2 (S:=SSt) rfl c (by omega) 0 σ0
  have hg:∀ i (hi:i < (zae c).length),T SSt 1 n_35 [dCo c,.int .i64 i] σ0=some (.ret ⟨false,dSs (zay c i)⟩,σ0):=fun i hi=>zqn (S:=SSt) rfl c i hi (by omega) 0 σ0
  have hbo:∀ i (hi:i < (zae c).length),T SSt 1 n_3 [dSs ns,dSs (zay c i)] σ0=some (.ret ⟨false,dSs (ns ++ zay c i)⟩,σ0):=fun i hi=>zfw (S:=SSt) rfl ns (zay c i) (by have:=zcjb c i hi; omega) 0 σ0
  have hf:∀ i (hi:i < c.al.length),T SSt 1 n_46 [dFs FL,.str c.al[i].1.name,.int .i64 c.al[i].1.vars.length] σ0=some (.ret ⟨false,.bool (zc2 FL c.al[i].1.name c.al[i].1.vars.length)⟩,σ0):=fun i hi=>zlt (S:=SSt) rfl FL _ _ (by decide) 0 σ0
  have hrec:∀ i (hi:i < (zae c).length),T SSt 1 n_79 [dFs FL,dSs (ns ++ zay c i),dCo (zae c)[i]] σ0=some (.ret ⟨false,.bool false⟩,σ0):=fun i hi=>by
   have hlt:=zfp c _ (List.getElem_mem hi)
   have hgl:(zay c i).length + (zae c)[i].size≤c.size:=by
    unfold zay
    split
    ·rw [zaq _ _ _ (by simp; omega),List.getElem_map]
     have hm:=ze0 c.al _ (List.getElem_mem (show i - (c.bs.length + c.ks.length) < c.al.length by omega))
     have he:(zae c)[i]=c.al[i - (c.bs.length + c.ks.length)].2:=by
      simp only [zae]
      rw [List.getElem_append_right (by simp; omega),List.getElem_map]
      congr 2
      simp
     rw [he]
     omega
    ·rename_i hge
     have hm:(zae c)[i].size≤szB c.bs - c.bs.length + szK c.ks:=by
      have hin:(zae c)[i]∈c.bs.map Prod.snd ++ c.ks:=by
       simp only [zae]
       rw [List.getElem_append_left (by simp; omega)]
       exact List.getElem_mem _
      have hbl:∀ (l:List (Tx × Co)) (x:Tx × Co),x∈l→x.2.size + l.length≤szB l:=by
       intro l
       induction l with
       | nil=>intro x hx; cases hx
       | cons y r ihl =>
        intro x hx
        obtain ⟨s,c'⟩:=y
        simp only [szB,List.length_cons]
        rcases List.mem_cons.1 hx with rfl | hx
        ·have:=zbv r; simp only; omega
        ·have:=ihl x hx; omega
      rcases List.mem_append.1 hin with h4 | h4
      ·obtain ⟨p,hp,e⟩:=List.mem_map.1 h4
       have:=hbl c.bs p hp
       rw [← e]
       omega
      ·have:=zg8 c.ks _ h4
       omega
     simp
     omega
   exact zi1 (S:=SSt) rfl rfl (ih _ (by omega) (zae c)[i] _ rfl (zni h i hi) (by simp; omega)) 0 σ0
  have hl0:=za6 (body:=exec (T SSt 1) (c.size + 1) none a_69) (Esa ns c) (fun _=>σ0) c.al.length (r:=_) (fun _ _ h=>by cases h) (fun i hi=>zl8b ns c i hi (by omega) (zqx h _ (List.getElem_mem hi)) (hf i hi)) (zoob ns c) 0 (c.size + 1) (by omega) (by omega)
  have hl1:=za6 (body:=exec (T SSt 1) (c.size + 1) none a_125) (Esb ns c) (fun _=>σ0) (zae c).length (r:=_) (fun _ _ h=>by cases h) (fun i hi=>zl9b ns c i hi (by omega) (hg i hi) (hbo i hi) (hrec i hi)) (zoqb ns c) 0 (c.size + 1) (by omega) (by omega)
  simp only [Esa,bC,zeroI] at hl0
  simp only [Esb,bC,zeroI] at hl1
  simp only [zaf c,zaj] at h3
  rcases zfmb h with ⟨e1,e2⟩ | ⟨e1,e2⟩ | ⟨e1,e2⟩
  ·rw [e2] at h1
   simp only [e1] at hl0 hl1 h3
   simp only [a_124,sA,seval,kn,zaf c,zaj,zbk,zbj,zbi,h1,h2,h3,e1,hl0,hl1]
  ·rw [e2] at h2
   simp only [e1] at hl0 hl1 h3
   simp only [a_124,sA,seval,kn,zaf c,zaj,zbk,zbj,zbi,h1,h2,h3,e1,hl0,hl1]
  ·simp only [a_124,sA,seval,kn,zaf c,zaj,zbk,zbj,zbi,h1,h2,h3,e1,e2,hl0,hl1]
end Go.Fu
namespace Go.Fu
open Go Go.Mx
set_option maxRecDepth 10000
def cU (u:Su):List D:=.str u.name :: dSs u.ps :: cCo u.body
theorem agg?_dU (u:Su):(dU u).agg?=some (cU u):=rfl
theorem dU_eq (u:Su):dU u=.agg (cU u):=rfl
theorem partU (u:Su):Mx.part none (cU u) 0=some (.str u.name)∧Mx.part none (cU u) 1=some (dSs u.ps)∧Mx.part (some 10) (cU u) 2=some (dCo u.body):=by
 refine ⟨rfl,rfl,?_⟩
 rw [← zvd]
 rfl
theorem ok_dU (u:Su):(dU u).ok=true:=by
 rw [dU_eq]
 simp only [cU,zaj,D.ok,List.all_cons,D.one,zew,zbk,zbj,zbi,List.all_nil,Bool.and_self]
theorem zu9 (u:Su):(dU u).cells.length=12:=rfl
theorem len_U (l:List Su):lenOf (dUs l)=some l.length:=zgc _ l
theorem idx_U (l:List Su) (i:Nat) (h:i < l.length):za7 12 (dUs l) i=some (.eptr (dU l[i])):=zga rfl _ _ _ h
theorem zlp (l:List Su):zbp (dUs l)=some (l.map dU):=zdx
section
variable {C:CallF} {n:Nat} {σ:Store}
def Ena (fs:List Fd) (us:List Su) (i:Nat):Env:={slots:=[(0,⟨false,dFs fs⟩),(1,⟨false,dUs us⟩),(6,⟨ow i,dSs ((fs.take i).map Fd.name)⟩),(7,⟨false,.nils⟩),(8,⟨false,.int .i64 i⟩)],locs:=[],boxes:=[],defers:=[]}
theorem zlmb (fs:List Fd) (us:List Su) (i:Nat) (h:i < fs.length) (hl:fs.length < 100000000):exec C n none a_116 (Ena fs us i) σ=some (.normal,Ena fs us (i + 1),σ):=by
 have hi:((i:Int) < (fs.length:Int)):=by omega
 have hx:=idx_F fs i h
 have ha:=ze6 ((fs.take i).map Fd.name) fs[i].name (ow i) (fun h=>ow_ne (fun e=>h (by rw [e]; rfl))) (by simp; omega)
 have e:(fs.take i).map Fd.name ++ [fs[i].name]=(fs.take (i + 1)).map Fd.name:=by rw [← za9 fs i h,List.map_append]; rfl
 rw [e] at ha
 simp only [dF] at hx
 simp only [a_116,Ena,sA,seval,kn,Mx.part,len_F,hi,natI,hx,ha,zag (i:=i) (by omega),zco]
theorem zoab (fs:List Fd) (us:List Su):exec C n none a_116 (Ena fs us fs.length) σ=some (.exit 0,{Ena fs us fs.length with slots:=[(0,⟨false,dFs fs⟩),(1,⟨false,dUs us⟩),(6,⟨ow fs.length,dSs (fs.map Fd.name)⟩),(7,⟨false,.nils⟩),(8,⟨false,.int .i64 fs.length⟩),(13,⟨false,.bool false⟩)]},σ):=by
 have hi:¬ ((fs.length:Int) < (fs.length:Int)):=by omega
 simp only [a_116,Ena,sA,seval,kn,len_F,hi,List.take_length]
def Enb (fs:List Fd) (us:List Su) (i:Nat):Env:={slots:=[(1,⟨false,dUs us⟩),(6,⟨ow (fs.length + i),dSs (fs.map Fd.name ++ (us.take i).map Su.name)⟩),(7,⟨ow i,dSs ((us.take i).map Su.name)⟩),(9,⟨false,.int .i64 i⟩)],locs:=[],boxes:=[],defers:=[]}
theorem zrd {k:Nat} (h:k≠0):ow k=true:=by cases k with
 | zero=>exact absurd rfl h
 | succ k=>rfl
theorem zlnb (fs:List Fd) (us:List Su) (i:Nat) (h:i < us.length) (hl:fs.length + us.length < 100000000):exec C n none a_117 (Enb fs us i) σ=some (.normal,Enb fs us (i + 1),σ):=by
 have hi:((i:Int) < (us.length:Int)):=by omega
 have hx:=idx_U us i h
 have hp:=partU us[i]
 have e:(us.take i).map Su.name ++ [us[i].name]=(us.take (i + 1)).map Su.name:=by rw [← za9 us i h,List.map_append]; rfl
 have ha:=ze6 (fs.map Fd.name ++ (us.take i).map Su.name) us[i].name (ow (fs.length + i)) (fun h2=>zrd (fun e=>by
  have h3:fs.length=0:=by omega
  have h4:i=0:=by omega
  subst h4
  have:fs=[]:=List.eq_nil_of_length_eq_zero h3
  subst this
  exact h2 rfl)) (by simp; omega)
 have hb:=ze6 ((us.take i).map Su.name) us[i].name (ow i) (fun h=>ow_ne (fun e=>h (by rw [e]; rfl))) (by simp; omega)
 rw [List.append_assoc,e] at ha
 rw [e] at hb
 have e2:ow (fs.length + (i + 1))=true:=rfl
 simp only [a_117,Enb,sA,seval,kn,len_U,hi,natI,hx,agg?_dU,hp,ha,hb,zag (i:=i) (by omega),zco,e2]
theorem zobb (fs:List Fd) (us:List Su):exec C n none a_117 (Enb fs us us.length) σ=some (.exit 2,{Enb fs us us.length with slots:=[(1,⟨false,dUs us⟩),(6,⟨ow (fs.length + us.length),dSs (fs.map Fd.name ++ us.map Su.name)⟩),(7,⟨ow us.length,dSs (us.map Su.name)⟩),(9,⟨false,.int .i64 us.length⟩),(27,⟨false,.bool false⟩)]},σ):=by
 have hi:¬ ((us.length:Int) < (us.length:Int)):=by omega
 simp only [a_117,Enb,sA,seval,kn,len_U,hi,List.take_length]
end
theorem zc6b (fs:List Fd) (us:List Su) (hl:fs.length + us.length < 100000000):OkP n_154 [dFs fs,dUs us] ⟨false,.tup [dSs (fs.map Fd.name ++ us.map Su.name),dSs (us.map Su.name)]⟩:=by
 refine zas (af:=a_177) (n:=fs.length + us.length + 1) (σ':=σ0) (zav [] 1) rfl rfl (by simp [zal,zde,zdr]) (by simp [noPtr,zal,zau]) ?_
 have h1:=za6 (body:=exec (T [] 1) (fs.length + us.length + 1) none a_116) (Ena fs us) (fun _=>σ0) fs.length (r:=_) (fun _ _ h=>by cases h) (fun i hi=>zlmb fs us i hi (by omega)) (zoab fs us) 0 (fs.length + us.length + 1) (by omega) (by omega)
 have h2:=za6 (body:=exec (T [] 1) (fs.length + us.length + 1) none a_117) (Enb fs us) (fun _=>σ0) us.length (r:=_) (fun _ _ h=>by cases h) (fun i hi=>zlnb fs us i hi (by omega)) (zobb fs us) 0 (fs.length + us.length + 1) (by omega) (by omega)
 have e1:dSs []=.nils:=rfl
 simp only [Ena,zeroI,List.take_zero,List.map_nil,e1,zfo] at h1
 simp only [Enb,zeroI,List.take_zero,List.map_nil,List.append_nil,e1,zfo,Nat.add_zero] at h2
 simp only [a_177,sA,seval,kn,h1,h2]
def zxd:List D→Cell→Prop:=fun ds c=>∀ fs us,ds=[dFs fs,dUs us]→c=⟨false,.tup [dSs (fs.map Fd.name ++ us.map Su.name),dSs (us.map Su.name)]⟩
theorem zbxb {S:Specs} (hS:aget S n_154=some zxd) (fs:List Fd) (us:List Su) (hl:fs.length + us.length < 100000000) (n:Nat) (σ:Store):T S (n + 1) n_154 [dFs fs,dUs us] σ=some (.ret ⟨false,.tup [dSs (fs.map Fd.name ++ us.map Su.name),dSs (us.map Su.name)]⟩,σ):=by
 obtain ⟨c,h1,h2⟩:=T_orc (S:=S) hS rfl (c:=⟨false,.tup [dSs (fs.map Fd.name ++ us.map Su.name),dSs (us.map Su.name)]⟩) (fun a b e=>by
  simp only [List.cons.injEq,and_true] at e
  rw [zk6 e.1,zawb e.2]) (zc6b fs us hl)
 rw [h2,h1 fs us rfl]
structure GoodP (us:List Su):Prop where
 few:us.length < 1000
 once:zce (FL.map Fd.name ++ us.map Su.name)=false
 ps:∀ u∈us,zce u.ps=false∧u.ps.length < 1000
 body:∀ u∈us,Good (us.map Su.name ++ u.ps) u.body∧u.body.size < 10000000
def SWr:Specs:=[(n_154,zxd),(n_78,zor),(n_26,zmo),(n_76,zj1),(n_3,zh1),(n_79,zj1)]
section
variable {C:CallF} {n:Nat} {σ:Store}
def Ewa (us:List Su) (al:D) (i:Nat):Env:={slots:=[(0,⟨false,dFs FL⟩),(1,⟨false,dUs us⟩),(5,⟨false,al⟩),(6,⟨false,dSs (us.map Su.name)⟩),(7,⟨false,.int .i64 i⟩)],locs:=[],boxes:=[],defers:=[]}
theorem zmtb (us:List Su) (al:D) (i:Nat) (h:i < us.length) (hl:us.length < 1000) (hc:C n_78 [dCo us[i].body] σ=some (.ret ⟨false,.bool true⟩,σ)):exec C n none a_104 (Ewa us al i) σ=some (.normal,Ewa us al (i + 1),σ):=by
 have hi:((i:Int) < (us.length:Int)):=by omega
 have hx:=idx_U us i h
 have hp:=partU us[i]
 have hd:=zaf us[i].body
 rw [hd] at hc hp
 simp only [a_104,Ewa,sA,seval,kn,len_U,hi,natI,hx,agg?_dU,hp,zgb,hc,zag (i:=i) (by omega)]
theorem zo0b (us:List Su) (al:D):exec C n none a_104 (Ewa us al us.length) σ=some (.exit 0,{Ewa us al us.length with slots:=[(0,⟨false,dFs FL⟩),(1,⟨false,dUs us⟩),(5,⟨false,al⟩),(6,⟨false,dSs (us.map Su.name)⟩),(7,⟨false,.int .i64 us.length⟩),(24,⟨false,.bool false⟩)]},σ):=by
 have hi:¬ ((us.length:Int) < (us.length:Int)):=by omega
 simp only [a_104,Ewa,sA,seval,kn,len_U,hi]
def Ewb (us:List Su) (i:Nat):Env:={slots:=[(0,⟨false,dFs FL⟩),(1,⟨false,dUs us⟩),(6,⟨false,dSs (us.map Su.name)⟩),(9,⟨false,.bool false⟩),(10,⟨false,.int .i64 i⟩)],locs:=[],boxes:=[],defers:=[]}
theorem zmub (us:List Su) (i:Nat) (h:i < us.length) (hl:us.length < 1000) (ht:C n_26 [dSs us[i].ps] σ=some (.ret ⟨false,.bool false⟩,σ)) (hc:C n_76 [dCo us[i].body] σ=some (.ret ⟨false,.bool false⟩,σ)):exec C n none a_105 (Ewb us i) σ=some (.normal,Ewb us (i + 1),σ):=by
 have hi:((i:Int) < (us.length:Int)):=by omega
 have hx:=idx_U us i h
 have hp:=partU us[i]
 have hd:=zaf us[i].body
 rw [hd] at hc hp
 simp only [a_105,Ewb,sA,seval,kn,len_U,hi,natI,hx,agg?_dU,hp,zew,zgb,ht,hc,zag (i:=i) (by omega)]
theorem zo1b (us:List Su):exec C n none a_105 (Ewb us us.length) σ=some (.exit 2,{Ewb us us.length with slots:=[(0,⟨false,dFs FL⟩),(1,⟨false,dUs us⟩),(6,⟨false,dSs (us.map Su.name)⟩),(9,⟨false,.bool false⟩),(10,⟨false,.int .i64 us.length⟩),(44,⟨false,.bool false⟩)]},σ):=by
 have hi:¬ ((us.length:Int) < (us.length:Int)):=by omega
 simp only [a_105,Ewb,sA,seval,kn,len_U,hi]
def Ewc (us:List Su) (i:Nat):Env:={slots:=[(0,⟨false,dFs FL⟩),(1,⟨false,dUs us⟩),(6,⟨false,dSs (us.map Su.name)⟩),(13,⟨false,.int .i64 i⟩)],locs:=[],boxes:=[],defers:=[]}
theorem zmvb (us:List Su) (i:Nat) (h:i < us.length) (hl:us.length < 1000) (ht:C n_3 [dSs (us.map Su.name),dSs us[i].ps] σ=some (.ret ⟨false,dSs (us.map Su.name ++ us[i].ps)⟩,σ)) (hc:C n_79 [dFs FL,dSs (us.map Su.name ++ us[i].ps),dCo us[i].body] σ=some (.ret ⟨false,.bool false⟩,σ)) :
  exec C n none a_106 (Ewc us i) σ=some (.normal,Ewc us (i + 1),σ):=by
 have hi:((i:Int) < (us.length:Int)):=by omega
 have hx:=idx_U us i h
 have hp:=partU us[i]
 have hd:=zaf us[i].body
 rw [hd] at hc hp
 simp only [a_106,Ewc,sA,seval,kn,len_U,hi,natI,hx,agg?_dU,hp,zew,zgb,zcc,ht,hc,zag (i:=i) (by omega)]
theorem zo2b (us:List Su):exec C n none a_106 (Ewc us us.length) σ=some (.exit 4,{Ewc us us.length with slots:=[(0,⟨false,dFs FL⟩),(1,⟨false,dUs us⟩),(6,⟨false,dSs (us.map Su.name)⟩),(13,⟨false,.int .i64 us.length⟩),(67,⟨false,.bool false⟩)]},σ):=by
 have hi:¬ ((us.length:Int) < (us.length:Int)):=by omega
 simp only [a_106,Ewc,sA,seval,kn,len_U,hi]
end
theorem zbhb (us:List Su) (hg:GoodP us):OkP n_150 [dFs FL,dUs us] ⟨false,.int .i64 0⟩:=by
 have hfew:=hg.few
 have hF:FL.length=5:=rfl
 refine zas (af:=a_169) (n:=us.length + 1) (σ':=σ0) (zav SWr 1) rfl rfl (by simp [zal,zde,zdr]) rfl ?_
 have h1:=zbxb (S:=SWr) rfl FL us (by omega) 0 σ0
 have h2:=zhc (S:=SWr) rfl (FL.map Fd.name ++ us.map Su.name) (by simp; omega) 0 σ0
 rw [hg.once] at h2
 have hl0:=za6 (body:=exec (T SWr 1) (us.length + 1) none a_104) (Ewa us (dSs (FL.map Fd.name ++ us.map Su.name))) (fun _=>σ0) us.length (r:=_) (fun _ _ h=>by cases h) (fun i hi=>zmtb us _ i hi hfew (by
  have hb:=hg.body _ (List.getElem_mem hi)
  exact zm7 (S:=SWr) rfl rfl (zzu _ _ _ rfl hb.1 (by omega)) 0 σ0)) (zo0b us _) 0 (us.length + 1) (by omega) (by omega)
 have hl1:=za6 (body:=exec (T SWr 1) (us.length + 1) none a_105) (Ewb us) (fun _=>σ0) us.length (r:=_) (fun _ _ h=>by cases h) (fun i hi=>zmub us i hi hfew (by
  have hp:=hg.ps _ (List.getElem_mem hi)
  have:=zhc (S:=SWr) rfl us[i].ps (by omega) 0 σ0
  rw [hp.1] at this
  exact this) (by
  have hb:=hg.body _ (List.getElem_mem hi)
  exact zi1 (S:=SWr) rfl rfl (zve _ _ _ rfl hb.1 (by omega)) 0 σ0)) (zo1b us) 0 (us.length + 1) (by omega) (by omega)
 have hl2:=za6 (body:=exec (T SWr 1) (us.length + 1) none a_106) (Ewc us) (fun _=>σ0) us.length (r:=_) (fun _ _ h=>by cases h) (fun i hi=>zmvb us i hi hfew (by
  have hp:=hg.ps _ (List.getElem_mem hi)
  exact zfw (S:=SWr) rfl _ us[i].ps (by simp; omega) 0 σ0) (by
  have hb:=hg.body _ (List.getElem_mem hi)
  have hp:=hg.ps _ (List.getElem_mem hi)
  exact zi1 (S:=SWr) rfl rfl (zxk _ _ _ rfl hb.1 (by simp; omega)) 0 σ0)) (zo2b us) 0 (us.length + 1) (by omega) (by omega)
 simp only [Ewa,zeroI] at hl0
 simp only [Ewb,zeroI] at hl1
 simp only [Ewc,zeroI] at hl2
 simp only [a_169,sA,seval,kn,h1,h2,hl0,hl1,hl2]
end Go.Fu
namespace Go.Fu
open Go Go.Mx
set_option maxRecDepth 10000
section
variable {C:CallF} {n:Nat} {σ:Store}
def Edg (x m:Int) (s:Tx):Env:={slots:=[(0,⟨false,.int .i64 x⟩),(3,⟨false,.str s⟩),(4,⟨false,.int .i64 m⟩)],locs:=[],boxes:=[],defers:=[]}
def chr (d:Nat):UInt8:=UInt8.ofNat (48 + d)
theorem zetb (d:Nat) (h:d < 10):zf5 [.int .u8 (IntKind.u8.wrap (48 + (d:Int)))]=some [chr d]:=by
 have hw:IntKind.u8.wrap (48 + (d:Int))=((48 + d:Nat):Int):=by
  simp [IntKind.wrap,IntKind.bits,IntKind.signed]
  omega
 rw [hw]
 have h1:decide ((0:Int)≤((48 + d:Nat):Int))=true:=decide_eq_true (by omega)
 have h2:decide (((48 + d:Nat):Int) < 256)=true:=decide_eq_true (by omega)
 simp only [zf5,h1,h2,Bool.and_self,zac,bindO,zad,Int.toNat_natCast,chr]
theorem zru (a:Nat):(-(a:Int)).tmod 10=-((a % 10:Nat):Int):=by rw [Int.neg_tmod,Int.tmod_eq_emod_of_nonneg (by omega)]; omega
theorem zrt (a:Nat):(-(a:Int)).tdiv 10=-((a / 10:Nat):Int):=by rw [Int.neg_tdiv,Int.tdiv_eq_ediv_of_nonneg (by omega)]; omega
theorem zd5b (a:Nat):((a:Int)).tmod 10=((a % 10:Nat):Int):=by rw [Int.tmod_eq_emod_of_nonneg (by omega)]; omega
theorem zd3b (a:Nat):((a:Int)).tdiv 10=((a / 10:Nat):Int):=by rw [Int.tdiv_eq_ediv_of_nonneg (by omega)]; omega
theorem znib (x:Int) (a:Nat) (s:Tx) (ha:a≤9223372036854775808) (hs:s.length < 1000) (hc:a≠0∨s=[]) (hsm:a≤9223372036854775807):exec C n none a_32 (Edg x a s) σ=some (.normal,Edg x ((a / 10:Nat):Int) (chr (a % 10) :: s),σ):=by
 have hb:=zetb (a % 10) (by omega)
 have hlt:¬ (((a % 10:Nat):Int) < 0):=by omega
 have w1:IntKind.i64.wrap (48 + ((a % 10:Nat):Int))=48 + ((a % 10:Nat):Int):=zbr (by omega) (by omega)
 have w2:IntKind.i64.wrap ((a / 10:Nat):Int)=((a / 10:Nat):Int):=zbr (by omega) (by omega)
 have hl:(0 + 1 + s.length≤281474976710656):=by omega
 have hl2:(1 + s.length≤281474976710656):=by omega
 by_cases h0:a=0
 ·subst h0
  have hs0:s=[]:=hc.resolve_left (by simp)
  subst hs0
  have e1:(((0:Nat):Int) != 0)=false:=rfl
  simp only [Nat.zero_mod,Nat.zero_div] at hb hlt w1 w2 ⊢
  simp only [a_32,Edg,sA,seval,kn,e1,zeroI,Int.zero_tmod,Int.zero_tdiv,zct] at hb hlt w1 w2 ⊢
  rfl
 ·have e1:((a:Int) != 0)=true:=by simp; omega
  simp only [a_32,Edg,sA,seval,kn,e1,zd5b,zd3b,hlt,w1,w2,zct,hb,hl,hl2]
theorem znhb (x:Int) (a:Nat) (s:Tx) (ha:a≤9223372036854775808) (hs:s.length < 1000) (h0:a≠0):exec C n none a_32 (Edg x (-(a:Int)) s) σ=some (.normal,Edg x (-((a / 10:Nat):Int)) (chr (a % 10) :: s),σ):=by
 have hb:=zetb (a % 10) (by omega)
 have w1:IntKind.i64.wrap (48 + ((a % 10:Nat):Int))=48 + ((a % 10:Nat):Int):=zbr (by omega) (by omega)
 have w2:IntKind.i64.wrap (-((a / 10:Nat):Int))=-((a / 10:Nat):Int):=zbr (by omega) (by omega)
 have w3:IntKind.i64.wrap (0 - -((a % 10:Nat):Int))=((a % 10:Nat):Int):=by rw [zbr (by omega) (by omega)]; omega
 have hl:(0 + 1 + s.length≤281474976710656):=by omega
 have hl2:(1 + s.length≤281474976710656):=by omega
 have e1:((-(a:Int)) != 0)=true:=by simp; omega
 by_cases hlt:(-((a % 10:Nat):Int)) < 0
 ·simp only [a_32,Edg,sA,seval,kn,e1,zru,zrt,hlt,w1,w2,w3,zct,hb,hl,hl2]
 ·have hz:a % 10=0:=by omega
  have e2:-((a % 10:Nat):Int)=((a % 10:Nat):Int):=by omega
  rw [e2] at hlt
  simp only [a_32,Edg,sA,seval,kn,e1,zru,zrt,e2,hlt,w1,w2,zct,hb,hl,hl2]
theorem zngb (x:Int) (s:Tx) (h:s≠[]):exec C n none a_32 (Edg x 0 s) σ=some (.exit 0,{Edg x 0 s with slots:=[(0,⟨false,.int .i64 x⟩),(3,⟨false,.str s⟩),(4,⟨false,.int .i64 0⟩),(12,⟨false,.bool false⟩)]},σ):=by
 have e:(s == [])=false:=by cases s with
  | nil=>exact absurd rfl h
  | cons a b=>rfl
 simp only [a_32,Edg,sA,seval,kn,e]
theorem zlw:∀ (k a:Nat) (s:Tx),(digF k a s).length≤s.length + k
 | 0,a,s=>by simp [digF]
 | k + 1,a,s=>by
  unfold digF
  by_cases h:a < 10
  ·rw [decide_eq_true h]
   simp only [zac,List.length_cons]
   omega
  ·rw [decide_eq_false h]
   simp only [zab]
   have:=zlw k (a / 10) (UInt8.ofNat (48 + a % 10) :: s)
   simp only [List.length_cons] at this
   omega
theorem zr2 (x:Int) (neg:Bool):∀ (k a:Nat) (s:Tx) (m:Nat),1≤k→a < 10 ^ k→(a≠0∨(s=[]∧neg=false))→s.length + k < 1000→k < m→a≤9223372036854775808→(neg=false→a≤9223372036854775807) →
  loopN (exec C n none a_32) m (Edg x (ifB neg (-(a:Int)) a) s) σ=some (.exit 0,{Edg x 0 s with slots:=[(0,⟨false,.int .i64 x⟩),(3,⟨false,.str (digF k a s)⟩),(4,⟨false,.int .i64 0⟩),(12,⟨false,.bool false⟩)]},σ)
 | 0,a,s,m,h1,hk,hc,hs,hm,ha,hp=>by omega
 | k + 1,a,s,m,h1,hk,hc,hs,hm,ha,hp=>by
  obtain ⟨m,rfl⟩:∃ m',m=m' + 1:=⟨m - 1,by omega⟩
  have hstep:exec C n none a_32 (Edg x (ifB neg (-(a:Int)) a) s) σ=some (.normal,Edg x (ifB neg (-((a / 10:Nat):Int)) ((a / 10:Nat):Int)) (chr (a % 10) :: s),σ):=by
   cases neg with
   | false=>exact znib x a s ha (by omega) (hc.imp id fun h=>h.1) (hp rfl)
   | true=>exact znhb x a s ha (by omega) (hc.resolve_right fun h=>by cases h.2)
  rw [zc5b hstep]
  by_cases h10:a < 10
  ·have e:a / 10=0:=by omega
   have e2:a % 10=a:=by omega
   have e3:digF (k + 1) a s=chr a :: s:=by
    unfold digF
    rw [decide_eq_true h10]
    rfl
   have e4:ifB neg (-((0:Nat):Int)) ((0:Nat):Int)=0:=by cases neg <;> rfl
   obtain ⟨m,rfl⟩:∃ m',m=m' + 1:=⟨m - 1,by omega⟩
   rw [e,e2,e3,e4]
   rw [zc4b (zngb x (chr a :: s) (by simp))]
   rfl
  ·have e3:digF (k + 1) a s=digF k (a / 10) (chr (a % 10) :: s):=by
    rw [digF,decide_eq_false h10]
    rfl
   have hk1:1≤k:=by
    cases k with
    | zero=>simp at hk; omega
    | succ k=>omega
   have ih:=zr2 x neg k (a / 10) (chr (a % 10) :: s) m hk1 (by rw [Nat.pow_succ] at hk; omega) (.inl (by omega)) (by simp; omega) (by omega) (by omega) (fun h=>by have:=hp h; omega)
   rw [e3,ih]
   rfl
end
theorem zxy (x:Int) (hx:Small x):OkP n_31 [.int .i64 x] ⟨false,.str (itoaN x)⟩:=by
 refine zas (af:=a_138) (n:=30) (σ':=σ0) (zav [] 1) rfl rfl rfl rfl ?_
 unfold Small at hx
 cases x with
 | ofNat a =>
  have hx1:(a:Int)≤9223372036854775807:=hx.2
  have h:=zr2 (C:=T [] 1) (n:=30) (σ:=σ0) (Int.ofNat a) false 20 a [] 30 (by omega) (by omega) (by by_cases h:a=0; exact .inr ⟨rfl,rfl⟩; exact .inl h) (by simp) (by omega) (by omega) (fun _=>by omega)
  have hlt:¬ (Int.ofNat a < 0):=by simp
  simp only [Edg,zab] at h
  have ei:((a:Nat):Int)=Int.ofNat a:=rfl
  rw [ei] at h
  simp only [a_138,sA,seval,kn,h,hlt,itoaN,digN]
 | negSucc a =>
  have hx1:-9223372036854775808≤Int.negSucc a:=hx.1
  have h:=zr2 (C:=T [] 1) (n:=30) (σ:=σ0) (Int.negSucc a) true 20 (a + 1) [] 30 (by omega) (by omega) (.inl (by omega)) (by simp) (by omega) (by omega) (fun h=>by cases h)
  have hlt:(Int.negSucc a < 0):=Int.negSucc_lt_zero a
  simp only [Edg,zac] at h
  have ei:-((a + 1:Nat):Int)=Int.negSucc a:=rfl
  rw [ei] at h
  have hl:(0 + 1 + (digF 20 (a + 1) []).length≤281474976710656):=by
   have:=zlw 20 (a + 1) []
   simp only [List.length_nil] at this
   omega
  simp only [a_138,sA,seval,kn,h,hlt,hl,itoaN,digN]
def zts:List D→Cell→Prop:=fun ds c=>∀ x,ds=[.int .i64 x]→c=⟨false,.str (itoaN x)⟩
theorem zx4 {S:Specs} (hS:aget S n_31=some zts) (x:Int) (hx:Small x) (n:Nat) (σ:Store):T S (n + 1) n_31 [.int .i64 x] σ=some (.ret ⟨false,.str (itoaN x)⟩,σ):=by
 obtain ⟨c,h1,h2⟩:=T_orc (S:=S) hS rfl (c:=⟨false,.str (itoaN x)⟩) (fun l' e=>by
  simp only [List.cons.injEq,D.int.injEq,true_and,and_true] at e
  rw [e]) (zxy x hx)
 rw [h2,h1 x rfl]
end Go.Fu
namespace Go.Fu
open Go Go.Mx
set_option maxRecDepth 10000
def varC (s:Tx):Co:=.mk 1 0 s [] [] []
def appC' (a b:Co):Co:=.mk 4 0 [] [a,b] [] []
def zdy (c:Co):List Tx→Co
 | []=>c
 | s :: l=>zdy (appC' c (varC s)) l
theorem zyr (c:Co) (l:List Tx) (s:Tx):zdy c (l ++ [s])=appC' (zdy c l) (varC s):=by
 induction l generalizing c with
 | nil=>rfl
 | cons x r ih=>simp only [List.cons_append,zdy,ih]
theorem zw7 (s:Tx):(varC s).size=1:=by simp [varC,Co.size,szK,szB,szA]
theorem zjib (a b:Co):(appC' a b).size=1 + a.size + b.size:=by simp [appC',Co.size,szK,szB,szA]; omega
theorem zzv (c:Co) (l:List Tx):(zdy c l).size=c.size + 2 * l.length:=by
 induction l generalizing c with
 | nil=>simp [zdy]
 | cons x r ih=>simp only [zdy,ih,zjib,zw7,List.length_cons]; omega
section
variable {C:CallF} {n:Nat} {σ:Store}
def Egi (s:Tx) (l:List Tx) (i:Nat):Env:={slots:=[(1,⟨false,dSs l⟩),(6,⟨false,.int .i64 i⟩)],locs:=[(4,4,0),(5,5,0)],boxes:=[(4,[⟨false,.int .i64 0⟩,⟨false,.int .i64 0⟩,⟨false,.str []⟩,⟨false,.int .i64 0⟩,⟨false,.int .i64 0⟩,⟨false,.str []⟩,⟨false,.nils⟩,⟨false,.nils⟩,⟨false,.nils⟩,⟨false,.nils⟩]),(5,bC (zdy (varC s) (l.take i)))],defers:=[]}
theorem ze8b:dCs []=.nils∧dBl []=.nils∧dAl []=.nils:=⟨rfl,rfl,rfl⟩
theorem dCs2 (a b:Co):dCs [a,b]=.list k_8 [dCo a,dCo b]:=rfl
theorem zk2b (s:Tx) (l:List Tx) (i:Nat) (h:i < l.length) (hl:l.length < 100000000):exec C n none a_114 (Egi s l i) σ=some (.normal,Egi s l (i + 1),σ):=by
 have hi:((i:Int) < (l.length:Int)):=by omega
 rw [Egi,Egi,← za9 l i h,zyr]
 have hx:=idx_S l i h
 simp only [a_114,bC,sA,seval,kn,len_S,hi,natI,hx,zbk,zbj,zbi,zag (i:=i) (by omega),appC',co,ze8b,dCs2,zaf,zaj,varC]
theorem znvb (s:Tx) (l:List Tx):exec C n none a_114 (Egi s l l.length) σ=some (.exit 0,{Egi s l l.length with slots:=[(1,⟨false,dSs l⟩),(6,⟨false,.int .i64 l.length⟩),(12,⟨false,.bool false⟩)]},σ):=by
 have hi:¬ ((l.length:Int) < (l.length:Int)):=by omega
 simp only [a_114,Egi,bC,sA,seval,kn,len_S,hi]
end
theorem zcib (s:Tx) (l:List Tx) (hl:l.length < 100000000):OkP n_152 [.str s,dSs l] ⟨false,dCo (zdy (varC s) l)⟩:=by
 refine zas (af:=a_174) (n:=l.length + 1) (σ':=σ0) (zav [] 1) rfl rfl (by simp [zal,noPtr,zau]) (za4 _) ?_
 have h1:=za6 (body:=exec (T [] 1) (l.length + 1) none a_114) (Egi s l) (fun _=>σ0) l.length (r:=_) (fun _ _ h=>by cases h) (fun i hi=>zk2b s l i hi hl) (znvb s l) 0 (l.length + 1) (by omega) (by omega)
 simp only [Egi,zeroI,List.take_zero,zdy,varC,bC,co,ze8b,List.take_length] at h1
 simp only [a_174,sA,seval,kn,h1,zbk,zbj,zbi,zaf,zaj,varC]
def zxb:List D→Cell→Prop:=fun ds c=>∀ s l,ds=[.str s,dSs l]→c=⟨false,dCo (zdy (varC s) l)⟩
theorem zbwb {S:Specs} (hS:aget S n_152=some zxb) (s:Tx) (l:List Tx) (hl:l.length < 100000000) (n:Nat) (σ:Store):T S (n + 1) n_152 [.str s,dSs l] σ=some (.ret ⟨false,dCo (zdy (varC s) l)⟩,σ):=by
 obtain ⟨c,h1,h2⟩:=T_orc (S:=S) hS rfl (c:=⟨false,dCo (zdy (varC s) l)⟩) (fun s' l' e=>by
  simp only [List.cons.injEq,D.str.injEq,and_true] at e
  rw [e.1,zba e.2]) (zcib s l hl)
 rw [h2,h1 s l rfl]
end Go.Fu
