/-
 A combinator's flat ones.
-/
import Derived.Test.YtldfbnbckiifeaaGreatDoorFgZa
set_option maxHeartbeats 4000000
set_option linter.unusedSimpArgs false
set_option linter.unusedVariables false
set_option linter.unusedSectionVars false
namespace Go.Fu
open Go Go.Mx
set_option maxRecDepth 10000
def FlU (B:Nat) (u:Su):Prop:=Fl B false u.body∧u.name.length≤B∧u.ps.length + u.body.size < 1000000
def FO (B n:Nat) (us:List Su):Prop:=(∀ u∈us,FlU B u)∧us.length≤n∧szU us≤3 * n * n
def PreU (B B':Nat) (s:Su):Prop:=Shp B s.body∧s.name.length + 22 * hgt s.body≤B'∧s.ps.length≤100000∧s.body.size≤100000
def spF (B B':Nat):List D→Cell→Prop:=fun ds c=>∀ s,ds=[dU s]→PreU B B' s→∃ us,c=⟨false,dUs us⟩∧FO B' s.body.size us
theorem zewb {B B':Nat} {S:Specs} (hS:aget S n_43=some (spF B B')) (s:Su) (hs:PreU B B' s) (hp:∃ us,OkP n_43 [dU s] ⟨false,dUs us⟩∧FO B' s.body.size us):∃ us,FO B' s.body.size us∧∀ n σ,T S (n + 1) n_43 [dU s] σ=some (.ret ⟨false,dUs us⟩,σ):=by
 obtain ⟨js,h1,h2⟩:=hp
 obtain ⟨c,h3,h4⟩:=T_orc (S:=S) hS rfl (c:=⟨false,dUs js⟩) (fun a' e _=>by
  simp only [List.cons.injEq,and_true] at e
  obtain rfl:=ze9b e
  exact ⟨js,rfl,h2⟩) h1
 obtain ⟨is,rfl,h5⟩:=h3 s rfl hs
 exact ⟨is,h5,h4⟩
def SFt (B B':Nat):Specs:=[(n_29,zsp),(n_43,spF B B')]
theorem zbeb:∀ (l:List Su) (x:Su),x∈l→x.body.size≤szU l
 | y :: r,x,h=>by
  simp only [szU]
  rcases List.mem_cons.1 h with rfl | h
  ·omega
  ·have:=zbeb r x h; omega
theorem zxp (l:List Su) (i:Nat) (h:i < l.length):szU (l.take (i + 1))=szU (l.take i) + l[i].body.size:=by
 rw [← za9 l i h,zje]
 simp [szU]
theorem zph (l:List Su) (i:Nat):szU (l.take i)≤szU l:=by
 have:=zje (l.take i) (l.drop i)
 rw [List.take_append_drop] at this
 omega
theorem zbdb:∀ l:List Su,l.length≤szU l
 | []=>by simp [szU]
 | y :: r=>by
  have:=zbdb r
  have:=zck y.body
  simp only [szU,List.length_cons]
  omega
section
variable {C:CallF} {n:Nat} {σ:Store}
def Efl (m acc:List Su) (i:Nat):Env:={slots:=[(4,⟨false,dUs m⟩),(5,⟨true,dUs acc⟩),(6,⟨false,.int .i64 i⟩)],locs:=[],boxes:=[],defers:=[]}
theorem zksb (m acc us:List Su) (i:Nat) (h:i < m.length) (hm:m.length < 100000000) (hl:acc.length + us.length < 1000000000) (hc:C n_43 [dU m[i]] σ=some (.ret ⟨false,dUs us⟩,σ)):exec C n none a_100 (Efl m acc i) σ=some (.normal,Efl m (acc ++ us) (i + 1),σ):=by
 have hi:((i:Int) < (m.length:Int)):=by omega
 have hx:=idx_U m i h
 rw [dU_eq,cU] at hc hx
 simp only [zaj] at hc hx
 simp only [a_100,Efl,sA,seval,kn,len_U,hi,natI,hx,hc,zlp,appU acc us true (fun _=>rfl) hl,zag (i:=i) (by omega)]
theorem znlb (m acc:List Su):exec C n none a_100 (Efl m acc m.length) σ=some (.exit 0,{Efl m acc m.length with slots:=[(4,⟨false,dUs m⟩),(5,⟨true,dUs acc⟩),(6,⟨false,.int .i64 m.length⟩),(27,⟨false,.bool false⟩)]},σ):=by
 have hi:¬ ((m.length:Int) < (m.length:Int)):=by omega
 simp only [a_100,Efl,sA,seval,kn,len_U,hi]
end
theorem zktb {B B':Nat} (hB:B≤B') (hB':B'≤10000000):∀ (k:Nat) (s:Su),s.body.size=k→PreU B B' s→∃ us,OkP n_43 [dU s] ⟨false,dUs us⟩∧FO B' s.body.size us:=by
 intro k
 induction k using Nat.strongRecOn with
 | ind k ih =>
  intro s hk ⟨hs,hn,hps,hsz⟩
  have hpos:=zck s.body
  have hhp:=zfpb s.body
  have h1:=zka (S:=SFt B B') rfl s.body false s.ps s.name [] (zfib _ _ _ _ _ _ rfl (by omega) (by simp; omega) (by omega)) 0 σ0
  obtain ⟨r1,r2,r3,r4⟩:=zol (B:=B) (B':=B') (t:=s.name) hs hB (by omega) false s.ps []
  have r5:=zh6b (B:=B) (B':=B') (t:=s.name) hs hB (by omega) s.ps []
  have r6:=zfhb s.body s.ps s.name
  generalize flM s.body false s.ps s.name []=fr at h1 r1 r2 r3 r4 r5 r6
  obtain ⟨b,m⟩:=fr
  simp only [szU,Nat.zero_add] at h1 r1 r2 r3 r4 r5 r6
  have pre:∀ u∈m,PreU B B' u∧u.body.size < k:=fun u hu=>by
   have h2:=zbeb m u hu
   have h6:=r6 u hu
   rcases r4 u hu with h | ⟨h3,h4,h5,_⟩
   ·cases h
   ·exact ⟨⟨h3,by omega,by omega,by omega⟩,by omega⟩
  have hml:=zbdb m
  have hu0:FlU B' ⟨s.name,s.ps,b⟩:=⟨r1,by simp only; omega,by simp only; omega⟩
  obtain ⟨r,hr,acc,rfl,q1,q2,q3⟩:=zdd (body:=exec (T (SFt B B') 1) (m.length + 1) none a_100)
   (fun i e σ=>σ=σ0∧∃ acc,e=Efl m acc i∧(∀ u∈acc,FlU B' u)∧acc.length≤1 + szU (m.take i)∧szU acc≤3 * k + 3 * k * szU (m.take i))
   (fun r=>∃ acc,r=(.exit 0,{Efl m acc m.length with slots:=[(4,⟨false,dUs m⟩),(5,⟨true,dUs acc⟩),(6,⟨false,.int .i64 m.length⟩),(27,⟨false,.bool false⟩)]},σ0)∧(∀ u∈acc,FlU B' u)∧acc.length≤1 + szU m∧szU acc≤3 * k + 3 * k * szU m) m.length
   (fun i e σ hi ⟨hσ,acc,he,p1,p2,p3⟩=>by
    subst hσ he
    have hmem:=List.getElem_mem hi
    obtain ⟨hpre,hlt⟩:=pre _ hmem
    obtain ⟨us,⟨g1,g2,g3⟩,hc⟩:=zewb (S:=SFt B B') rfl m[i] hpre (ih _ hlt _ rfl hpre)
    have ht:=zxp m i hi
    have htl:=zph m (i + 1)
    refine ⟨_,_,zksb m acc us i hi (by omega) (by omega) (hc 0 σ0),rfl,acc ++ us,rfl,fun u hu=>?_,?_,?_⟩
    ·rcases List.mem_append.1 hu with h | h
     ·exact p1 u h
     ·exact g1 u h
    ·rw [List.length_append,ht]; omega
    ·rw [zje,ht,Nat.mul_add]
     have:3 * m[i].body.size * m[i].body.size≤3 * k * m[i].body.size:=Nat.mul_le_mul_right _ (by omega)
     omega)
   (fun e σ ⟨hσ,acc,he,p1,p2,p3⟩=>by
    subst hσ he
    rw [List.take_length] at p2 p3
    exact ⟨_,znlb m acc,fun _ _ h=>(by cases h),acc,rfl,p1,p2,p3⟩) 0 (m.length + 1) (Efl m [⟨s.name,s.ps,b⟩] 0) σ0 (by omega) (by omega)
   ⟨rfl,_,rfl,fun u hu=>by rw [List.mem_singleton.1 hu]; exact hu0,by simp,by simp only [szU]; omega⟩
  refine ⟨acc,OkP.weak (o:=true) rfl (zas (af:=a_168) (n:=m.length + 1) (σ':=σ0) (zav (SFt B B') 1) rfl rfl (by simp [zal,zv9]) (zdr _) ?_),q1,by omega,?_⟩
  ·have e1:dUs [⟨s.name,s.ps,b⟩]=.list k_13 [dU ⟨s.name,s.ps,b⟩]:=rfl
   simp only [Efl,zeroI,e1] at hr
   simp only [dU_eq,cU,zaf,zaj] at h1 hr
   have en:dUs []=.nils:=rfl
   rw [en] at h1
   simp only [a_168,sA,seval,kn,dU_eq,cU,zaj,onel,okl,celll,h1,hr]
  ·have h6:3 * k * szU m≤3 * k * (k - 1):=Nat.mul_le_mul_left _ (by omega)
   have h7:3 * k + 3 * k * (k - 1)=3 * k * k:=by
    obtain ⟨j,rfl⟩:∃ j,k=j + 1:=⟨k - 1,by omega⟩
    simp only [Nat.add_sub_cancel]
    generalize 3 * (j + 1)=z
    rw [Nat.mul_succ]
    omega
   rw [hk]
   omega
end Go.Fu
namespace Go.Fu
open Go Go.Mx
set_option maxRecDepth 10000
def sPACK:Tx:=[80,65,67,75]
def zdv (f:Fd):Cd:=⟨f.name,f.arity,[⟨sPACK,f.arity,f.tag,f.name⟩,⟨zcy,0,0,[]⟩,⟨sPOP,0,0,[]⟩,⟨zhz,0,0,[]⟩]⟩
theorem ok_dD (c:Cd):(dD c).ok=true:=by simp [dD,D.ok,dIs,D.one,zcj]
theorem zhwb (c:Cd):(dD c).cells.length=3:=rfl
theorem appD1 (a:List Cd) (x:Cd) (o:Bool) (ho:a≠[]→o=true) (hl:a.length < 1000000000):za5 k_5 48 ⟨o,dDs a⟩ [dD x]=some ⟨true,dDs (a ++ [x])⟩:=ze7 ok_dD zhwb (by omega) a x o ho hl
section
variable {C:CallF} {n:Nat} {σ:Store}
def Eca (us:List Su) (i:Nat):Env:={slots:=[(0,⟨false,dFs FL⟩),(1,⟨false,dUs us⟩),(7,⟨ow i,dDs ((FL.take i).map zdv)⟩),(8,⟨false,.int .i64 i⟩)],locs:=[],boxes:=[],defers:=[]}
theorem zj7b (us:List Su) (i:Nat) (h:i < FL.length):exec C n none a_98 (Eca us i) σ=some (.normal,Eca us (i + 1),σ):=by
 have hi:((i:Int) < (FL.length:Int)):=by omega
 have hl:FL.length=5:=rfl
 have hx:=idx_F FL i h
 have ha:=appD1 ((FL.take i).map zdv) (zdv FL[i]) (ow i) (fun h=>ow_ne (fun e=>h (by rw [e]; rfl))) (by simp; omega)
 have e:(FL.take i).map zdv ++ [zdv FL[i]]=(FL.take (i + 1)).map zdv:=by rw [← za9 FL i h,List.map_append]; rfl
 rw [e] at ha
 generalize FL[i]=f at hx ha
 simp only [dF] at hx
 simp only [dD,zdv,dIs,dI,List.map_cons,List.map_nil,dlist,sPACK,zcy,sPOP,zhz] at ha
 simp only [a_98,Eca,sA,seval,kn,len_F,hi,natI,hx,ha,zag (i:=i) (by omega),zco]
theorem zm4b (us:List Su):exec C n none a_98 (Eca us FL.length) σ=some (.exit 0,{Eca us FL.length with slots:=[(0,⟨false,dFs FL⟩),(1,⟨false,dUs us⟩),(7,⟨true,dDs (FL.map zdv)⟩),(8,⟨false,.int .i64 FL.length⟩),(23,⟨false,.bool false⟩)]},σ):=by
 have hi:¬ ((FL.length:Int) < (FL.length:Int)):=by omega
 simp only [a_98,Eca,sA,seval,kn,len_F,hi,List.take_length]
 rfl
def Ecb (us:List Su) (cs:List Cd) (k:Nat) (fs:List Su) (i:Nat):Env:={slots:=[(1,⟨false,dUs us⟩),(7,⟨true,dDs cs⟩),(11,⟨false,.int .i64 k⟩),(12,⟨false,dUs fs⟩),(13,⟨false,.int .i64 i⟩)],locs:=[],boxes:=[],defers:=[]}
theorem zkbb (us:List Su) (cs:List Cd) (k:Nat) (fs:List Su) (i:Nat) (is:List In) (h:i < fs.length) (hl:fs.length < 100000000) (hc:cs.length < 1000000000) (h1:C n_75 [dSs fs[i].ps] σ=some (.ret ⟨false,dSs fs[i].ps.reverse⟩,σ)) (h2:C n_14 [dCo fs[i].body,dSs fs[i].ps.reverse] σ=some (.ret ⟨false,dIs is⟩,σ)) :
  exec C n none a_63 (Ecb us cs k fs i) σ=some (.normal,Ecb us (cs ++ [⟨fs[i].name,fs[i].ps.length,is⟩]) k fs (i + 1),σ):=by
 have hi:((i:Int) < (fs.length:Int)):=by omega
 have hx:=idx_U fs i h
 have ha:=appD1 cs ⟨fs[i].name,fs[i].ps.length,is⟩ true (fun _=>rfl) hc
 generalize fs[i]=u at hx ha h1 h2
 rw [dU_eq,cU] at hx
 have hp:=partU u
 simp only [cU,zaj,zaf] at hx h2 hp
 simp only [dD] at ha
 simp only [a_63,Ecb,sA,seval,kn,len_U,len_S,onel,okl,celll,hi,natI,hx,hp,zcc,h1,h2,ha,zag (i:=i) (by omega)]
theorem zm6b (us:List Su) (cs:List Cd) (k:Nat) (fs:List Su):exec C n none a_63 (Ecb us cs k fs fs.length) σ=some (.exit 4,{Ecb us cs k fs fs.length with slots:=[(1,⟨false,dUs us⟩),(7,⟨true,dDs cs⟩),(11,⟨false,.int .i64 k⟩),(12,⟨false,dUs fs⟩),(13,⟨false,.int .i64 fs.length⟩),(64,⟨false,.bool false⟩)]},σ):=by
 have hi:¬ ((fs.length:Int) < (fs.length:Int)):=by omega
 simp only [a_63,Ecb,sA,seval,kn,len_U,hi]
end
end Go.Fu
namespace Go.Fu
open Go Go.Mx
set_option maxRecDepth 10000
def CO (B:Nat) (cs:List Cd):Prop:=∀ c∈cs,c.name.length≤B∧Small c.arity∧∀ i∈c.body,GI B i
def wt:List Cd→Nat
 | []=>0
 | c :: r=>c.body.length + 1 + wt r
theorem zmwb (a:List Cd) (c:Cd):wt (a ++ [c])=wt a + (c.body.length + 1):=by
 induction a with
 | nil=>simp [wt]
 | cons x r ih=>simp only [List.cons_append,wt,ih]; omega
theorem zrv:∀ a:List Cd,a.length≤wt a
 | []=>by simp [wt]
 | x :: r=>by
  have:=zrv r
  simp only [wt,List.length_cons]
  omega
def zxa:List D→Cell→Prop:=fun ds c=>∀ us,ds=[dFs FL,dUs us]→GoodP us→c=⟨false,.int .i64 0⟩
theorem zbtb {S:Specs} (hS:aget S n_150=some zxa) (us:List Su) (hg:GoodP us) (n:Nat) (σ:Store):T S (n + 1) n_150 [dFs FL,dUs us] σ=some (.ret ⟨false,.int .i64 0⟩,σ):=by
 obtain ⟨c,h1,h2⟩:=T_orc (S:=S) hS rfl (c:=⟨false,.int .i64 0⟩) (fun a' e _=>rfl) (zbhb us hg)
 rw [h2,h1 us rfl hg]
def SCo (B B':Nat):Specs:=[(n_150,zxa),(n_43,spF B B'),(n_75,zso),(n_14,spT B')]
section
variable {C:CallF} {n:Nat} {σ:Store}
def Ecc (us:List Su) (cs:List Cd) (k:Nat):Env:={slots:=[(1,⟨false,dUs us⟩),(7,⟨true,dDs cs⟩),(11,⟨false,.int .i64 k⟩)],locs:=[],boxes:=[],defers:=[]}
theorem zkcb (us:List Su) (cs cs':List Cd) (k:Nat) (fs:List Su) (h:k < us.length) (hl:us.length < 1000) (h1:C n_43 [dU us[k]] σ=some (.ret ⟨false,dUs fs⟩,σ))
  (h2:loopN (exec C n none a_63) n (Ecb us cs k fs 0) σ=some (.exit 4,{Ecb us cs' k fs fs.length with slots:=[(1,⟨false,dUs us⟩),(7,⟨true,dDs cs'⟩),(11,⟨false,.int .i64 k⟩),(12,⟨false,dUs fs⟩),(13,⟨false,.int .i64 fs.length⟩),(64,⟨false,.bool false⟩)]},σ)) :
  exec C n none a_99 (Ecc us cs k) σ=some (.normal,Ecc us cs' (k + 1),σ):=by
 have hi:((k:Int) < (us.length:Int)):=by omega
 have hx:=idx_U us k h
 rw [dU_eq,cU] at hx h1
 simp only [zaj] at hx h1
 simp only [Ecb,zeroI] at h2
 simp only [a_99,Ecc,sA,seval,kn,len_U,hi,natI,hx,h1,h2,zag (i:=k) (by omega)]
theorem zm7b (us:List Su) (cs:List Cd):exec C n none a_99 (Ecc us cs us.length) σ=some (.exit 2,{Ecc us cs us.length with slots:=[(1,⟨false,dUs us⟩),(7,⟨true,dDs cs⟩),(11,⟨false,.int .i64 us.length⟩),(53,⟨false,.bool false⟩)]},σ):=by
 have hi:¬ ((us.length:Int) < (us.length:Int)):=by omega
 simp only [a_99,Ecc,sA,seval,kn,len_U,hi]
end
theorem zjob {B B':Nat} {fs:List Su} {us:List Su} {cs:List Cd} {k n:Nat} (hf:∀ u∈fs,FlU B' u) (hlen:fs.length < 100000000) (hn:fs.length < n) (hco:CO B' cs) (hw:wt cs + 12 * szU fs < 1000000000) :
  ∃ cs',loopN (exec (T (SCo B B') 1) n none a_63) n (Ecb us cs k fs 0) σ0=some (.exit 4,{Ecb us cs' k fs fs.length with slots:=[(1,⟨false,dUs us⟩),(7,⟨true,dDs cs'⟩),(11,⟨false,.int .i64 k⟩),(12,⟨false,dUs fs⟩),(13,⟨false,.int .i64 fs.length⟩),(64,⟨false,.bool false⟩)]},σ0)∧CO B' cs'∧wt cs'≤wt cs + 12 * szU fs∧cs.length≤cs'.length:=by
 obtain ⟨r,hr,cs',rfl,h1,h2,h3⟩:=zdd (body:=exec (T (SCo B B') 1) n none a_63)
  (fun i e σ=>σ=σ0∧∃ cs',e=Ecb us cs' k fs i∧CO B' cs'∧wt cs'≤wt cs + 12 * szU (fs.take i)∧cs.length≤cs'.length)
  (fun r=>∃ cs',r=(.exit 4,{Ecb us cs' k fs fs.length with slots:=[(1,⟨false,dUs us⟩),(7,⟨true,dDs cs'⟩),(11,⟨false,.int .i64 k⟩),(12,⟨false,dUs fs⟩),(13,⟨false,.int .i64 fs.length⟩),(64,⟨false,.bool false⟩)]},σ0)∧CO B' cs'∧wt cs'≤wt cs + 12 * szU fs∧cs.length≤cs'.length) fs.length
  (fun i e σ hi ⟨hσ,acc,he,p1,p2,p3⟩=>by
   subst hσ he
   obtain ⟨q1,q2,q3⟩:=hf _ (List.getElem_mem hi)
   have ht:=zxp fs i hi
   have htl:=zph fs (i + 1)
   have hpos:=zck fs[i].body
   have hwl:=zrv acc
   obtain ⟨is,gi,hT⟩:=zexb (S:=SCo B B') rfl fs[i].body fs[i].ps.reverse ((zkgb _ fs[i].body rfl q1 fs[i].ps.reverse (by simp; omega)).2)
   have hb:=zd7 (S:=SCo B B') rfl fs[i].ps (by omega) 0 σ0
   refine ⟨_,_,zkbb us acc k fs i is hi hlen (by omega) hb (hT 0 σ0),rfl,_,rfl,fun c hc=>?_,?_,by rw [List.length_append]; omega⟩
   ·rcases List.mem_append.1 hc with h | h
    ·exact p1 c h
    ·rw [List.mem_singleton.1 h]
     exact ⟨q2,zcz (by omega),gi.1⟩
   ·rw [zmwb,ht]
    have:=gi.2
    simp only
    omega)
  (fun e σ ⟨hσ,acc,he,p1,p2,p3⟩=>by
   subst hσ he
   rw [List.take_length] at p2
   exact ⟨_,zm6b us acc k fs,fun _ _ h=>(by cases h),acc,rfl,p1,p2,p3⟩) 0 n (Ecb us cs k fs 0) σ0 (by omega) (by omega)
  ⟨rfl,_,rfl,hco,by omega,Nat.le_refl _⟩
 exact ⟨cs',hr,h1,h2,h3⟩
theorem zfgb {B:Nat} (hB:5≤B):CO B (FL.map zdv):=by
 have h0:Small 0:=zS
 have h1:Small 1:=oneS
 have h2:Small 2:=⟨by decide,by decide⟩
 have e:∀ (s:Tx),s.length≤5→s.length≤B:=fun s h=>by omega
 intro c hc
 obtain ⟨f,hf,rfl⟩:=List.mem_map.1 hc
 have hf':f.name.length≤5∧Small f.arity∧Small f.tag:=by
  simp only [FL,List.mem_cons,List.not_mem_nil,or_false] at hf
  rcases hf with rfl | rfl | rfl | rfl | rfl <;> simp [h0,h1,h2]
 refine ⟨e _ hf'.1,hf'.2.1,fun i hi=>?_⟩
 simp only [zdv,List.mem_cons,List.not_mem_nil,or_false] at hi
 rcases hi with rfl | rfl | rfl | rfl
 ·exact ⟨by simp [sPACK],hf'.2.1,hf'.2.2,e _ hf'.1⟩
 ·exact ⟨by simp [zcy],h0,h0,by simp⟩
 ·exact ⟨by simp [sPOP],h0,h0,by simp⟩
 ·exact ⟨by simp [zhz],h0,h0,by simp⟩
theorem zb7b {B B':Nat} (hB:B≤B') (h5:5≤B') (hB':B'≤10000000) (us:List Su) (hg:GoodP us) (h4:us.length≤4) (hp:∀ u∈us,PreU B B' u∧u.body.size≤1200) :
  ∃ cs,OkP n_148 [dFs FL,dUs us] ⟨false,.tup [dDs cs,.int .i64 0]⟩∧CO B' cs∧wt cs≤25 + 51840000 * us.length∧5≤cs.length:=by
 have h0:=zbtb (S:=SCo B B') rfl us hg 0 σ0
 have hl0:=za6 (body:=exec (T (SCo B B') 1) 1000000 none a_98) (Eca us) (fun _=>σ0) FL.length (r:=_) (fun _ _ h=>by cases h) (fun i hi=>zj7b us i hi) (zm4b us) 0 1000000 (by decide) (by decide)
 have hw0:wt (FL.map zdv)=25:=rfl
 obtain ⟨r,hr,cs,rfl,q1,q2,q3⟩:=zdd (body:=exec (T (SCo B B') 1) 1000000 none a_99)
  (fun k e σ=>σ=σ0∧∃ cs,e=Ecc us cs k∧CO B' cs∧wt cs≤25 + 51840000 * k∧5≤cs.length)
  (fun r=>∃ cs,r=(.exit 2,{Ecc us cs us.length with slots:=[(1,⟨false,dUs us⟩),(7,⟨true,dDs cs⟩),(11,⟨false,.int .i64 us.length⟩),(53,⟨false,.bool false⟩)]},σ0)∧CO B' cs∧wt cs≤25 + 51840000 * us.length∧5≤cs.length) us.length
  (fun k e σ hk ⟨hσ,acc,he,p1,p2,p3⟩=>by
   subst hσ he
   obtain ⟨hpre,hsz⟩:=hp _ (List.getElem_mem hk)
   obtain ⟨fs,⟨g1,g2,g3⟩,hF⟩:=zewb (S:=SCo B B') rfl us[k] hpre (zktb hB hB' _ _ rfl hpre)
   have h6:3 * us[k].body.size * us[k].body.size≤4320000:=by
    have:=Nat.mul_le_mul (Nat.mul_le_mul_left 3 hsz) hsz
    omega
   obtain ⟨cs',h7,h8,h9,h10⟩:=zjob (B:=B) (us:=us) (cs:=acc) (k:=k) (n:=1000000) g1 (by omega) (by omega) p1 (by omega)
   exact ⟨_,_,zkcb us acc cs' k fs hk (by omega) (hF 0 σ0) h7,rfl,cs',rfl,h8,by omega,by omega⟩)
  (fun e σ ⟨hσ,acc,he,p1,p2,p3⟩=>by
   subst hσ he
   exact ⟨_,zm7b us acc,fun _ _ h=>(by cases h),acc,rfl,p1,p2,p3⟩) 0 1000000 (Ecc us (FL.map zdv) 0) σ0 (by omega) (by omega)
  ⟨rfl,_,rfl,zfgb h5,by omega,by decide⟩
 refine ⟨cs,zas (af:=a_166) (n:=1000000) (σ':=σ0) (zav (SCo B B') 1) rfl rfl (by simp [zal,zde,zdr]) (by simp [noPtr,zal,ze3]) ?_,q1,q2,q3⟩
 have e0:ow 0=false:=rfl
 have e1:dDs ((FL.take 0).map zdv)=.nils:=rfl
 simp only [Eca,zeroI,e0,e1] at hl0
 simp only [Ecc,zeroI] at hr
 simp only [a_166,sA,seval,kn,h0,hl0,hr]
end Go.Fu
namespace Go.Fu
open Go Go.Mx
set_option maxRecDepth 10000
structure IR (d:D) (xs:List Int):Prop where
 len:lenOf d=some xs.length
 idx:∀ i (h:i < xs.length),za7 1 d i=some (.eptr (.int .i64 xs[i]))
 np:noPtr d=true
 small:∀ x∈xs,Small x
def pickI (x:Int):Nat:=(if x < 0 then -(x + 1) else x).toNat
def pickM (xs:List Int) (at':Nat):Nat:=if h:at' < xs.length then pickI xs[at'] else 0
theorem zi6b {x:Int} (h:Small x):pickI x < 9223372036854775808:=by
 unfold pickI Small at *
 split <;> omega
theorem zf4 {xs:List Int} (h:∀ x∈xs,Small x) (i:Nat):pickM xs i < 9223372036854775808:=by
 unfold pickM
 split
 ·exact zi6b (h _ (List.getElem_mem _))
 ·omega
theorem zgjb {d:D} {xs:List Int} (hR:IR d xs) (i:Nat) (hi:i < 1099511627776):OkP n_21 [d,.int .i64 i] ⟨false,.int .i64 (pickM xs i:Nat)⟩:=by
 refine zas (af:=a_122) (n:=1) (σ':=σ0) (zav [] 0) rfl rfl (by simp [zal,hR.np,noPtr]) rfl ?_
 by_cases h:i < xs.length
 ·have h1:¬ ((xs.length:Int)≤(i:Int)):=by omega
  have hx:=hR.idx i h
  have hs:=hR.small _ (List.getElem_mem h)
  have hp:pickM xs i=pickI xs[i]:=by simp [pickM,h]
  rw [hp]
  generalize xs[i]=x at hx hs
  unfold Small at hs
  by_cases h2:x < 0
  ·have e1:IntKind.i64.wrap (x + 1)=x + 1:=zbr (by omega) (by omega)
   have e2:IntKind.i64.wrap (0 - (x + 1))=(pickI x:Int):=by
    rw [zbr (by omega) (by omega)]
    simp only [pickI,if_pos h2]
    omega
   simp only [a_122,sA,Nat.reduceAdd,Nat.reduceSub,Nat.reduceMul,Nat.reduceBEq,Nat.reduceLeDiff,Int.reduceBEq,Int.reduceBNe,Int.reduceLE,Int.reduceLT,Int.reduceGE,Int.reduceGT,Int.reduceNeg,kn,hR.len,h1,natI,hx,h2,e1,e2]
  ·have e2:x=(pickI x:Int):=by
    simp only [pickI,if_neg h2]
    omega
   simp only [a_122,sA,Nat.reduceAdd,Nat.reduceSub,Nat.reduceMul,Nat.reduceBEq,Nat.reduceLeDiff,Int.reduceBEq,Int.reduceBNe,Int.reduceLE,Int.reduceLT,Int.reduceGE,Int.reduceGT,Int.reduceNeg,kn,hR.len,h1,natI,hx,h2]
   rw [← e2]
 ·have h1:((xs.length:Int)≤(i:Int)):=by omega
  have hp:pickM xs i=0:=by simp [pickM,h]
  rw [hp]
  simp only [a_122,sA,Nat.reduceAdd,Nat.reduceSub,Nat.reduceMul,Nat.reduceBEq,Nat.reduceLeDiff,Int.reduceBEq,Int.reduceBNe,Int.reduceLE,Int.reduceLT,Int.reduceGE,Int.reduceGT,Int.reduceNeg,kn,hR.len,h1]
  rfl
theorem zyl:OkP n_17 [] ⟨false,dFs FL⟩:=by
 refine OkP.weak (o:=true) rfl (zas (af:=a_167) (n:=1) (σ':=σ0) (zav [] 0) rfl rfl rfl (by simp [zde]) ?_)
 simp only [a_167,sA,Nat.reduceAdd,Nat.reduceSub,Nat.reduceMul,Nat.reduceBEq,Nat.reduceLeDiff,Int.reduceBEq,Int.reduceBNe,Int.reduceLE,Int.reduceLT,Int.reduceGE,Int.reduceGT,Int.reduceNeg,kn]
 rfl
def zg6:List D→Cell→Prop:=fun ds c=>ds=[]→c=⟨false,dFs FL⟩
theorem zks {S:Specs} (hS:aget S n_17=some zg6) (n:Nat) (σ:Store):T S (n + 1) n_17 [] σ=some (.ret ⟨false,dFs FL⟩,σ):=by
 obtain ⟨c,h1,h2⟩:=T_orc (S:=S) hS rfl (c:=⟨false,dFs FL⟩) (fun _=>rfl) zyl
 rw [h2,h1 rfl]
theorem tmodN (a b:Nat):((a:Int)).tmod (b:Int)=((a % b:Nat):Int):=by rw [Int.tmod_eq_emod_of_nonneg (by omega)]; omega
theorem tdivN (a b:Nat):((a:Int)).tdiv (b:Int)=((a / b:Nat):Int):=by rw [Int.tdiv_eq_ediv_of_nonneg (by omega)]; omega
theorem zuy:∀ f∈FL,zc2 FL f.name (-1)=true∧zc2 FL f.name f.arity=true∧f.name.length≤5∧(f.arity=0∨f.arity=1∨f.arity=2):=by decide
def co10 (f n:Int) (s:Tx):Co:=.mk f n s [] [] []
theorem zlhb (v:Nat) (hv:v < 9223372036854775808) (ns:List Tx) (h0:ns≠[]) (hn:ns.length < 1000) (h5:∀ s∈ns,s.length≤5) :
  ∃ c,OkP n_134 [.int .i64 v,dSs ns] ⟨false,dCo c⟩∧Good ns c∧Shp 5 c∧c.size=1∧hgt c=1:=by
 have mk:∀ {c:Co} {o:Bool} {σ'},finX Ra (fun _ _ _=>none) a_66 0 (exec (T [(n_17,zg6)] 1) 1 none a_66.body (zbb [.int .i64 v,dSs ns]) σ0)=some (.ret ⟨o,dCo c⟩,σ')→OkP n_134 [.int .i64 v,dSs ns] ⟨false,dCo c⟩:=fun {c o σ'} hr =>
  OkP.weak (o:=o) rfl (zas (af:=a_66) (n:=1) (σ':=σ') (zav [(n_17,zg6)] 1) rfl rfl (by simp [zal,noPtr,zau]) (za4 _) hr)
 have hF:=zks (S:=[(n_17,zg6)]) rfl 0 σ0
 have t4:((v:Int)).tmod 4=((v % 4:Nat):Int):=tmodN v 4
 have d4:((v:Int)).tdiv 4=((v / 4:Nat):Int):=tdivN v 4
 have w4:IntKind.i64.wrap ((v / 4:Nat):Int)=((v / 4:Nat):Int):=zbr (by omega) (by omega)
 by_cases c0:v % 4=0
 ·have t7:(((v / 4:Nat):Int)).tmod 7=((v / 4 % 7:Nat):Int):=tmodN _ 7
  have w7:IntKind.i64.wrap (((v / 4 % 7:Nat):Int) - 3)=((v / 4 % 7:Nat):Int) - 3:=zbr (by omega) (by omega)
  have hsm:Small (((v / 4 % 7:Nat):Int) - 3):=by unfold Small; omega
  refine ⟨co10 3 (((v / 4 % 7:Nat):Int) - 3) [],mk (o:=false) (σ':=σ0) ?_,.int hsm,.leaf (.inr (.inr (.inl rfl))) hsm (by simp),rfl,rfl⟩
  simp only [a_66,sA,Nat.reduceAdd,Nat.reduceSub,Nat.reduceMul,Nat.reduceBEq,Nat.reduceLeDiff,Int.reduceBEq,Int.reduceBNe,Int.reduceLE,Int.reduceLT,Int.reduceGE,Int.reduceGT,Int.reduceNeg,kn,co10,zaf,zaj,co,hF,t4,c0,d4,w4,t7,w7]
  rfl
 ·have ne0:(((v % 4:Nat):Int) == 0)=false:=by simp; omega
  by_cases c1:v % 4=1
  ·have t5:(((v / 4:Nat):Int)).tmod 5=((v / 4 % 5:Nat):Int):=tmodN _ 5
   have hj:v / 4 % 5 < FL.length:=Nat.mod_lt _ (by decide)
   have hx:=idx_F FL (v / 4 % 5) hj
   have hl:((FL.length:Nat):Int)=5:=rfl
   have hnm:=zuy _ (List.getElem_mem hj)
   generalize FL[v / 4 % 5]=f at hx hnm
   simp only [dF] at hx
   refine ⟨co10 2 0 f.name,mk (o:=false) (σ':=σ0) ?_,.con hnm.1,.leaf (.inr (.inl rfl)) zS hnm.2.2.1,rfl,rfl⟩
   simp only [a_66,sA,Nat.reduceAdd,Nat.reduceSub,Nat.reduceMul,Nat.reduceBEq,Nat.reduceLeDiff,Int.reduceBEq,Int.reduceBNe,Int.reduceLE,Int.reduceLT,Int.reduceGE,Int.reduceGT,Int.reduceNeg,kn,co10,zaf,zaj,co,hF,t4,c1,d4,w4,len_F,hl,t5,natI,hx]
   rfl
  ·have ne1:(((v % 4:Nat):Int) == 1)=false:=by simp; omega
   have hnl:0 < ns.length:=List.length_pos_iff.2 h0
   have tn:(((v / 4:Nat):Int)).tmod (ns.length:Int)=((v / 4 % ns.length:Nat):Int):=tmodN _ _
   have hj:v / 4 % ns.length < ns.length:=Nat.mod_lt _ hnl
   have hx:=idx_S ns (v / 4 % ns.length) hj
   have hz:((ns.length:Int) == 0)=false:=by simp; omega
   have hm:=List.getElem_mem hj
   generalize ns[v / 4 % ns.length]=s at hx hm
   have hany:ns.any (· == s)=true:=List.any_eq_true.2 ⟨s,hm,by simp⟩
   refine ⟨co10 1 0 s,mk (o:=false) (σ':=σ0) ?_,.var hany,.leaf (.inl rfl) zS (h5 s hm),rfl,rfl⟩
   simp only [a_66,sA,Nat.reduceAdd,Nat.reduceSub,Nat.reduceMul,Nat.reduceBEq,Nat.reduceLeDiff,Int.reduceBEq,Int.reduceBNe,Int.reduceLE,Int.reduceLT,Int.reduceGE,Int.reduceGT,Int.reduceNeg,kn,co10,zaf,zaj,co,hF,t4,ne0,ne1,d4,w4,len_S,hz,tn,natI,hx]
   rfl
end Go.Fu
namespace Go.Fu
open Go Go.Mx
set_option maxRecDepth 10000
def szT:Nat→Nat
 | 0=>1
 | d + 1=>4 * szT d + 10
def szN:Nat→Nat
 | 0=>1
 | d + 1=>4 * szN d + 5
def PT (ns:List Tx) (deep i:Nat):Prop:=ns≠[]∧ns.length + 2 * deep≤100∧(∀ s∈ns,s.length≤5)∧i + szN deep≤1000000
def TmOK (ns:List Tx) (deep i:Nat) (c:Co) (j:Nat):Prop:=Good ns c∧Shp 5 c∧c.size≤szT deep∧hgt c≤deep + 1∧j≤i + szN deep
def zrn (d:D) (xs:List Int):List D→Cell→Prop:=fun ds c=>∀ i:Nat,ds=[d,.int .i64 i]→c=⟨false,.int .i64 (pickM xs i:Nat)⟩
theorem zdp {S:Specs} {d:D} {xs:List Int} (hS:aget S n_21=some (zrn d xs)) (hR:IR d xs) (i:Nat) (hi:i < 1099511627776) (n:Nat) (σ:Store):T S (n + 1) n_21 [d,.int .i64 i] σ=some (.ret ⟨false,.int .i64 (pickM xs i:Nat)⟩,σ):=by
 obtain ⟨c,h1,h2⟩:=T_orc (S:=S) hS rfl (c:=⟨false,.int .i64 (pickM xs i:Nat)⟩) (fun j e=>by
  simp only [List.cons.injEq,D.int.injEq,true_and,and_true] at e
  rw [show j=i by omega]) (zgjb hR i hi)
 rw [h2,h1 i rfl]
def lS (b:List Tx):D:=.list k_0 (b.map D.str)
theorem zbpb (a b:List Tx) (hl:a.length + b.length < 1000000000):OkP n_3 [dSs a,lS b] ⟨false,dSs (a ++ b)⟩:=by
 have hn:noPtr (lS b)=true:=by rw [lS,noPtr]; exact zc8 (fun _=>rfl) b
 refine OkP.weak (o:=true) rfl (zas (af:=a_109) (n:=1) (σ':=σ0) (zav [] 0) rfl rfl (by simp [zal,zau,hn]) (zau _) ?_)
 simp only [a_109,lS,sA,seval,kn,zlo,zct,appS0 a false (by omega),appS a b true (fun _=>rfl) hl]
theorem zfwb {a b:List Tx} (h:lS a=lS b):a=b:=by
 simp only [lS,D.list.injEq,true_and] at h
 exact zhq (fun h=>by simpa using h) h
theorem zfvb {a b:List Tx} (h:lS a=dSs b):a=b:=by
 cases b with
 | nil=>cases h
 | cons x r=>exact zfwb (b:=x :: r) h
def zod:List D→Cell→Prop:=fun ds c=>∀ a b,(ds=[dSs a,dSs b]∨ds=[dSs a,lS b])→c=⟨false,dSs (a ++ b)⟩
theorem zbvb {S:Specs} (hS:aget S n_3=some zod) (a b:List Tx) (hl:a.length + b.length < 1000000000) (n:Nat) (σ:Store):T S (n + 1) n_3 [dSs a,dSs b] σ=some (.ret ⟨false,dSs (a ++ b)⟩,σ):=by
 obtain ⟨c,h1,h2⟩:=T_orc (S:=S) hS rfl (c:=⟨false,dSs (a ++ b)⟩) (fun a' b' e=>by
  rcases e with e | e
  ·simp only [List.cons.injEq,and_true] at e
   rw [zba e.1,zba e.2]
  ·simp only [List.cons.injEq,and_true] at e
   rw [zba e.1,zfvb e.2.symm]) (zs0 a b hl)
 rw [h2,h1 a b (.inl rfl)]
theorem zqm {S:Specs} (hS:aget S n_3=some zod) (a b:List Tx) (hl:a.length + b.length < 1000000000) (n:Nat) (σ:Store):T S (n + 1) n_3 [dSs a,lS b] σ=some (.ret ⟨false,dSs (a ++ b)⟩,σ):=by
 obtain ⟨c,h1,h2⟩:=T_orc (S:=S) hS rfl (c:=⟨false,dSs (a ++ b)⟩) (fun a' b' e=>by
  rcases e with e | e
  ·simp only [List.cons.injEq,and_true] at e
   rw [zba e.1,zfvb e.2]
  ·simp only [List.cons.injEq,and_true] at e
   rw [zba e.1,zfwb e.2]) (zbpb a b hl)
 rw [h2,h1 a b (.inr rfl)]
def spTm (d:D) (deep:Nat):List D→Cell→Prop:=fun ds c=>∀ (i:Nat) ns,ds=[d,.int .i64 i,dSs ns,.int .i64 deep]→PT ns deep i→∃ co j,c=⟨false,.tup [dCo co,.int .i64 (j:Nat)]⟩∧TmOK ns deep i co j
def TmHas (d:D) (deep:Nat):Prop:=∀ (i:Nat) ns,PT ns deep i→∃ co j,OkP n_12 [d,.int .i64 i,dSs ns,.int .i64 deep] ⟨false,.tup [dCo co,.int .i64 (j:Nat)]⟩∧TmOK ns deep i co j
theorem zf6 {S:Specs} {d:D} {deep:Nat} (hS:aget S n_12=some (spTm d deep)) (hT:TmHas d deep) (i:Nat) (ns:List Tx) (hp:PT ns deep i):∃ co j,TmOK ns deep i co j∧∀ n σ,T S (n + 1) n_12 [d,.int .i64 i,dSs ns,.int .i64 deep] σ=some (.ret ⟨false,.tup [dCo co,.int .i64 (j:Nat)]⟩,σ):=by
 obtain ⟨co,j,h1,h2⟩:=hT i ns hp
 obtain ⟨c,h3,h4⟩:=T_orc (S:=S) hS rfl (c:=⟨false,.tup [dCo co,.int .i64 (j:Nat)]⟩) (fun i' ns' e _=>by
  simp only [List.cons.injEq,D.int.injEq,true_and,and_true] at e
  obtain rfl:i=i':=by omega
  obtain rfl:=zba e.2
  exact ⟨co,j,rfl,h2⟩) h1
 obtain ⟨co',j',rfl,h5⟩:=h3 i ns rfl hp
 exact ⟨co',j',h5,h4⟩
def headM (v:Nat):Hd:=if v / 8 % 3=1 then ⟨2,((v / 24 % 5:Nat):Int) - 2,[],[]⟩ else if v / 8 % 3=2∧v / 24 % 2=1 then ⟨3,0,[],[]⟩ else ⟨1,0,(FL.getD (v % 5) f0).name,[[117],[118]].take (FL.getD (v % 5) f0).arity.toNat⟩
theorem zhjb:∀ f∈FL,zc2 FL f.name (([[117],[118]]:List Tx).take f.arity.toNat).length=true:=by decide
theorem ziab (v:Nat):HdOk (headM v)∧(headM v).name.length≤5∧(∀ s∈(headM v).vars,s.length≤5)∧(headM v).vars.length≤2:=by
 unfold headM
 by_cases h1:v / 8 % 3=1
 ·rw [if_pos h1]
  exact ⟨⟨by unfold Small; simp only; omega,rfl,.inr (.inl ⟨rfl,rfl⟩)⟩,by simp,by simp,by simp⟩
 ·rw [if_neg h1]
  by_cases h2:v / 8 % 3=2∧v / 24 % 2=1
  ·rw [if_pos h2]
   exact ⟨⟨zS,rfl,.inr (.inr ⟨rfl,rfl⟩)⟩,by simp,by simp,by simp⟩
  ·rw [if_neg h2]
   have hj:v % 5 < FL.length:=Nat.mod_lt _ (by decide)
   rw [zaq FL _ _ hj]
   have hm:=List.getElem_mem hj
   generalize FL[v % 5]=f at hm
   have h3:=zuy f hm
   have h4:=zhjb f hm
   refine ⟨⟨zS,?_,.inl ⟨rfl,h4⟩⟩,h3.2.2.1,?_,?_⟩
   ·rcases h3.2.2.2 with e | e | e <;> rw [e] <;> rfl
   ·intro s hs
    have:=List.mem_of_mem_take hs
    simp only [List.mem_cons,List.not_mem_nil,or_false] at this
    rcases this with rfl | rfl <;> simp
   ·simp only [List.length_take]; simp; omega
section
variable {C:CallF} {n:Nat} {σ:Store}
def Ecs (d:D) (ns:List Tx) (deep N0:Nat) (al:List (Hd × Co)) (j k:Nat):Env:={slots:=[(0,⟨false,d⟩),(1,⟨false,.int .i64 j⟩),(2,⟨false,dSs ns⟩),(3,⟨false,.int .i64 (deep + 1:Nat)⟩),(10,⟨false,.int .i64 N0⟩),(11,⟨false,dFs FL⟩),(12,⟨ow k,dAl al⟩),(13,⟨false,.int .i64 k⟩)],locs:=[],boxes:=[],defers:=[]}
end
end Go.Fu
namespace Go.Fu
open Go Go.Mx
set_option maxRecDepth 10000
section
variable {C:CallF} {n:Nat} {σ:Store}
set_option maxHeartbeats 8000000 in
theorem zkhb (d:D) (ns:List Tx) (deep N0:Nat) (al:List (Hd × Co)) (j k v j':Nat) (c:Co) (hk:k < N0 % 4) (hN:N0 < 9223372036854775808) (hv:v < 9223372036854775808) (hj:j < 1000000) (hd:deep < 1000) (hal:al.length < 100) (hne:al≠[]→ow k=true)
  (h1:C n_21 [d,.int .i64 j] σ=some (.ret ⟨false,.int .i64 v⟩,σ))
  (h2:C n_3 [dSs ns,dSs (headM v).vars] σ=some (.ret ⟨false,dSs (ns ++ (headM v).vars)⟩,σ))
  (h3:C n_12 [d,.int .i64 (j + 1:Nat),dSs (ns ++ (headM v).vars),.int .i64 deep] σ=some (.ret ⟨false,.tup [dCo c,.int .i64 j']⟩,σ)) :
  exec C n none a_51 (Ecs d ns deep N0 al j k) σ=some (.normal,Ecs d ns deep N0 (al ++ [(headM v,c)]) j' (k + 1),σ):=by
 have tN:((N0:Int)).tmod 4=((N0 % 4:Nat):Int):=tmodN N0 4
 have hlt:((k:Int) < ((N0 % 4:Nat):Int)):=by omega
 have hl5:((FL.length:Nat):Int)=5:=rfl
 have t5:((v:Int)).tmod 5=((v % 5:Nat):Int):=tmodN v 5
 have d8:((v:Int)).tdiv 8=((v / 8:Nat):Int):=tdivN v 8
 have w8:IntKind.i64.wrap ((v / 8:Nat):Int)=((v / 8:Nat):Int):=zbr (by omega) (by omega)
 have t3:(((v / 8:Nat):Int)).tmod 3=((v / 8 % 3:Nat):Int):=tmodN _ 3
 have d24:((v:Int)).tdiv 24=((v / 24:Nat):Int):=tdivN v 24
 have w24:IntKind.i64.wrap ((v / 24:Nat):Int)=((v / 24:Nat):Int):=zbr (by omega) (by omega)
 have t2:(((v / 24:Nat):Int)).tmod 2=((v / 24 % 2:Nat):Int):=tmodN _ 2
 have t25:(((v / 24:Nat):Int)).tmod 5=((v / 24 % 5:Nat):Int):=tmodN _ 5
 have w25:IntKind.i64.wrap (((v / 24 % 5:Nat):Int) - 2)=((v / 24 % 5:Nat):Int) - 2:=zbr (by omega) (by omega)
 have wj:=zag (i:=j) (by omega)
 have wk:=zag (i:=k) (by omega)
 have wd:IntKind.i64.wrap (((deep + 1:Nat):Int) - 1)=(deep:Int):=by rw [zbr (by omega) (by omega)]; omega
 have hj5:v % 5 < FL.length:=Nat.mod_lt _ (by decide)
 have hx:=idx_F FL (v % 5) hj5
 have hFm:=zuy _ (List.getElem_mem hj5)
 have hgd:=zaq FL (v % 5) f0 hj5
 have ha:=appA1 al (headM v,c) (ow k) hne (by omega)
 have hdA:=dA_eq (headM v,c)
 rw [hdA] at ha
 unfold headM at h2 h3 ha ⊢
 rw [hgd] at h2 h3 ha ⊢
 generalize FL[v % 5]=f at hx hFm h2 h3 ha
 have hq:v / 8 % 3=0∨v / 8 % 3=1∨v / 8 % 3=2:=by omega
 have hp:v / 24 % 2=0∨v / 24 % 2=1:=by omega
 have ap0:za5 k_0 16 ⟨false,.nils⟩ []=some ⟨true,.nils⟩:=appS0 [] false (by decide)
 have ap1:za5 k_0 16 ⟨false,.nils⟩ [.str [117]]=some ⟨true,.list k_0 [.str [117]]⟩:=appS0 [[117]] false (by decide)
 have ap2:za5 k_0 16 ⟨false,.nils⟩ [.str [117],.str [118]]=some ⟨true,.list k_0 [.str [117],.str [118]]⟩:=appS0 [[117],[118]] false (by decide)
 simp only [dF] at hx
 have p0:Mx.part none [.str f.name,.int .i64 f.tag,.int .i64 f.many,.int .i64 f.arity,.int .i64 0,.int .i64 0,.str [],.nils] 0=some (.str f.name):=rfl
 have p3:Mx.part none [.str f.name,.int .i64 f.tag,.int .i64 f.many,.int .i64 f.arity,.int .i64 0,.int .i64 0,.str [],.nils] 3=some (.int .i64 f.arity):=rfl
 simp only [zaf,zaj] at h3 ha
 have s0:zgp 1 (.list k_0 [.str [117],.str [118]]) 0 (some 0)=some (.list k_0 []):=rfl
 have s1:zgp 1 (.list k_0 [.str [117],.str [118]]) 0 (some 1)=some (.list k_0 [.str [117]]):=rfl
 have s2:zgp 1 (.list k_0 [.str [117],.str [118]]) 0 (some 2)=some (.list k_0 [.str [117],.str [118]]):=rfl
 have tk1:([[117],[118]]:List Tx).take (1:Int).toNat=[[117]]:=rfl
 have tk2:([[117],[118]]:List Tx).take (2:Int).toNat=[[117],[118]]:=rfl
 have tk0:([[117],[118]]:List Tx).take (0:Int).toNat=[]:=rfl
 have en0:dSs []=.nils:=rfl
 have en1:dSs [[117]]=.list k_0 [.str [117]]:=rfl
 have en2:dSs [[117],[118]]=.list k_0 [.str [117],.str [118]]:=rfl
 have b01:(((0:Nat):Int) == 1)=false:=rfl
 have b02:(((0:Nat):Int) == 2)=false:=rfl
 have b11:(((1:Nat):Int) == 1)=true:=rfl
 have b12:(((1:Nat):Int) == 2)=false:=rfl
 have b21:(((2:Nat):Int) == 1)=false:=rfl
 have b22:(((2:Nat):Int) == 2)=true:=rfl
 rcases hq with q | q | q
 ·rw [if_neg (by omega),if_neg (by omega)] at h2 h3 ha ⊢
  simp only at h2 h3 ha ⊢
  rcases hFm.2.2.2 with e | e | e
  all_goals
   rw [e] at hx p0 p3 h2 h3 ha
   simp only [e,tk0,tk1,tk2,en0,en1,en2,List.append_nil] at h2 h3 ha ⊢
   simp only [a_51,Ecs,sA,seval,kn,tN,hlt,h1,len_F,hl5,t5,natI,nat0,nat1,nat2,hx,p0,p3,s0,s1,s2,ap0,ap1,ap2,d8,w8,t3,q,b01,b02,wj,wd,h2,h3,ha,wk,onel,okl,celll,zcc,zct,zco]
 ·rw [if_pos q] at h2 h3 ha ⊢
  simp only at h2 h3 ha ⊢
  rcases hFm.2.2.2 with e | e | e
  all_goals
   rw [e] at hx p0 p3
   simp only [en0,zeroI,List.append_nil] at h2 h3 ha ⊢
   simp only [a_51,Ecs,sA,seval,kn,tN,hlt,h1,len_F,hl5,t5,natI,nat0,nat1,nat2,hx,p0,p3,s0,s1,s2,ap0,ap1,ap2,d8,w8,t3,d24,w24,t25,w25,t2,q,b11,b12,wj,wd,h2,h3,ha,wk,onel,okl,celll,zcc,zct,zco]
 ·rw [if_neg (by omega)] at h2 h3 ha ⊢
  rcases hp with p | p
  ·rw [if_neg (by omega)] at h2 h3 ha ⊢
   simp only at h2 h3 ha ⊢
   rcases hFm.2.2.2 with e | e | e
   all_goals
    rw [e] at hx p0 p3 h2 h3 ha
    simp only [e,tk0,tk1,tk2,en0,en1,en2,List.append_nil] at h2 h3 ha ⊢
    simp only [a_51,Ecs,sA,seval,kn,tN,hlt,h1,len_F,hl5,t5,natI,nat0,nat1,nat2,hx,p0,p3,s0,s1,s2,ap0,ap1,ap2,d8,w8,t3,d24,w24,t2,q,p,b21,b22,b01,wj,wd,h2,h3,ha,wk,onel,okl,celll,zcc,zct,zco]
  ·rw [if_pos ⟨q,p⟩] at h2 h3 ha ⊢
   simp only at h2 h3 ha ⊢
   rcases hFm.2.2.2 with e | e | e
   all_goals
    rw [e] at hx p0 p3
    simp only [en0,zeroI,List.append_nil] at h2 h3 ha ⊢
    simp only [a_51,Ecs,sA,seval,kn,tN,hlt,h1,len_F,hl5,t5,natI,nat0,nat1,nat2,hx,p0,p3,s0,s1,s2,ap0,ap1,ap2,d8,w8,t3,d24,w24,t25,w25,t2,q,p,b11,b21,b22,wj,wd,h2,h3,ha,wk,onel,okl,celll,zcc,zct,zco]
end
end Go.Fu
namespace Go.Fu
open Go Go.Mx
set_option maxRecDepth 10000
section
variable {C:CallF} {n:Nat} {σ:Store}
theorem znbb (d:D) (ns:List Tx) (deep N0:Nat) (al:List (Hd × Co)) (j:Nat):exec C n none a_51 (Ecs d ns deep N0 al j (N0 % 4)) σ=some (.exit 0,{Ecs d ns deep N0 al j (N0 % 4) with slots:=[(0,⟨false,d⟩),(1,⟨false,.int .i64 j⟩),(2,⟨false,dSs ns⟩),(3,⟨false,.int .i64 (deep + 1:Nat)⟩),(10,⟨false,.int .i64 N0⟩),(11,⟨false,dFs FL⟩),(12,⟨ow (N0 % 4),dAl al⟩),(13,⟨false,.int .i64 (N0 % 4:Nat)⟩),(28,⟨false,.bool false⟩)]},σ):=by
 have tN:((N0:Int)).tmod 4=((N0 % 4:Nat):Int):=tmodN N0 4
 have hlt:¬ (((N0 % 4:Nat):Int) < ((N0 % 4:Nat):Int)):=by omega
 simp only [a_51,Ecs,sA,seval,kn,tN,hlt]
end
theorem zf7b (l:List (Hd × Co)):noPtr (dAl l)=true:=by rw [dAl,zds]; exact zc8 zv8 l
def AlP (ns:List Tx) (deep:Nat) (al:List (Hd × Co)):Prop:=∀ a∈al,HdOk a.1∧a.1.name.length≤5∧(∀ s∈a.1.vars,s.length≤5)∧Good (ns ++ a.1.vars) a.2∧Shp 5 a.2∧hgt a.2≤deep + 1
def AlOK (ns:List Tx) (deep i:Nat) (al:List (Hd × Co)) (j:Nat):Prop:=AlP ns deep al∧szA al≤3 * (szT deep + 3)∧j≤i + 1 + 3 * (1 + szN deep)
def SCa (d:D) (xs:List Int) (deep:Nat):Specs:=[(n_21,zrn d xs),(n_17,zg6),(n_3,zod),(n_12,spTm d deep)]
theorem zezb {d:D} {xs:List Int} (hR:IR d xs) {deep:Nat} (hT:TmHas d deep) (hd:deep < 1000) (i:Nat) (ns:List Tx) (h0:ns≠[]) (hl:ns.length + 2 * (deep + 1)≤100) (h5:∀ s∈ns,s.length≤5) (hi:i + 1 + 3 * (1 + szN deep)≤1000000) :
  ∃ al j,OkP n_151 [d,.int .i64 i,dSs ns,.int .i64 (deep + 1:Nat)] ⟨false,.tup [dAl al,.int .i64 (j:Nat)]⟩∧AlOK ns deep i al j:=by
 have hp:=zdp (S:=SCa d xs deep) rfl hR i (by omega) 0 σ0
 have hF:=zks (S:=SCa d xs deep) rfl 0 σ0
 have hv:=zf4 hR.small i
 generalize pickM xs i=N0 at hp hv
 have hN4:N0 % 4 < 4:=Nat.mod_lt _ (by decide)
 obtain ⟨r,hr,al,j,rfl,q1,q2,q3,q4⟩:=zdd (body:=exec (T (SCa d xs deep) 1) 5 none a_51)
  (fun k e σ=>σ=σ0∧∃ al j,e=Ecs d ns deep N0 al j k∧AlP ns deep al∧al.length=k∧szA al≤k * (szT deep + 3)∧j≤i + 1 + k * (1 + szN deep))
  (fun r=>∃ al j,r=(.exit 0,{Ecs d ns deep N0 al j (N0 % 4) with slots:=[(0,⟨false,d⟩),(1,⟨false,.int .i64 j⟩),(2,⟨false,dSs ns⟩),(3,⟨false,.int .i64 (deep + 1:Nat)⟩),(10,⟨false,.int .i64 N0⟩),(11,⟨false,dFs FL⟩),(12,⟨ow (N0 % 4),dAl al⟩),(13,⟨false,.int .i64 (N0 % 4:Nat)⟩),(28,⟨false,.bool false⟩)]},σ0)∧AlP ns deep al∧al.length=N0 % 4∧szA al≤(N0 % 4) * (szT deep + 3)∧j≤i + 1 + (N0 % 4) * (1 + szN deep)) (N0 % 4)
  (fun k e σ hk ⟨hσ,al,j,he,p1,p2,p3,p4⟩=>by
   subst hσ he
   have hkm:(k + 1) * (1 + szN deep)≤3 * (1 + szN deep):=Nat.mul_le_mul_right _ (by omega)
   rw [Nat.succ_mul] at hkm
   have h1:=zdp (S:=SCa d xs deep) rfl hR j (by omega) 0 σ0
   have hv1:=zf4 hR.small j
   generalize pickM xs j=v at h1 hv1
   obtain ⟨g1,g2,g3,g4⟩:=ziab v
   have h2:=zbvb (S:=SCa d xs deep) rfl ns (headM v).vars (by omega) 0 σ0
   obtain ⟨c,j',⟨t1,t2,t3,t4,t5⟩,h3⟩:=zf6 (S:=SCa d xs deep) rfl hT (j + 1) (ns ++ (headM v).vars) ⟨by simp [h0],by rw [List.length_append]; omega,fun s hs=>by
    rcases List.mem_append.1 hs with h | h
    ·exact h5 s h
    ·exact g3 s h,by omega⟩
   refine ⟨_,_,zkhb d ns deep N0 al j k v j' c hk hv hv1 (by omega) hd (by omega) (fun h=>?_) h1 h2 (h3 0 σ0),rfl,_,_,rfl,fun a ha=>?_,by simp; omega,?_,?_⟩
   ·cases k with
    | zero=>exact absurd (List.length_eq_zero_iff.1 p2) h
    | succ k=>rfl
   ·rcases List.mem_append.1 ha with h | h
    ·exact p1 a h
    ·rw [List.mem_singleton.1 h]
     exact ⟨g1,g2,g3,t1,t2,t4⟩
   ·rw [zjc,Nat.succ_mul]
    simp only [szA]
    omega
   ·rw [Nat.succ_mul]; omega)
  (fun e σ ⟨hσ,al,j,he,p1,p2,p3,p4⟩=>by
   subst hσ he
   exact ⟨_,znbb d ns deep N0 al j,fun _ _ h=>(by cases h),al,j,rfl,p1,p2,p3,p4⟩) 0 5 (Ecs d ns deep N0 [] (i + 1) 0) σ0 (by omega) (by omega)
  ⟨rfl,_,_,rfl,(fun a h=>by cases h),rfl,by simp [szA],by omega⟩
 have hm1:(N0 % 4) * (szT deep + 3)≤3 * (szT deep + 3):=Nat.mul_le_mul_right _ (by omega)
 have hm2:(N0 % 4) * (1 + szN deep)≤3 * (1 + szN deep):=Nat.mul_le_mul_right _ (by omega)
 refine ⟨al,j,zas (af:=a_172) (n:=5) (σ':=σ0) (zav (SCa d xs deep) 1) rfl rfl (by simp [zal,hR.np,noPtr,zau]) (by simp [noPtr,zal,zf7b]) ?_,q1,by omega,by omega⟩
 have wi:=zag (i:=i) (by omega)
 have e0:ow 0=false:=rfl
 have e1:dAl []=.nils:=rfl
 simp only [Ecs,zeroI,e0,e1] at hr
 simp only [a_172,sA,seval,kn,hp,hF,wi,hr]
end Go.Fu
