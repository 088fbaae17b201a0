/-
 Terms that are made: let.
-/
import Derived.Test.YtldfbnbckiifeaaGreatDoorFgBi
import Derived.Test.YtldfbnbckiifeaaGreatDoorFgIds
import Derived.Test.YtldfbnbckiifeaaGreatDoorFgEh
import Derived.Test.YtldfbnbckiifeaaGreatDoorFgCq
import Derived.Test.YtldfbnbckiifeaaGreatDoorFgDb
set_option maxHeartbeats 4000000
set_option linter.unusedSimpArgs false
set_option linter.unusedVariables false
set_option linter.unusedSectionVars false
namespace Go.Fu
open Go Go.Mx
set_option maxRecDepth 10000
set_option maxHeartbeats 4000000
def bN:List Tx:=[[97],[98]]
theorem Xe (r:Nat) (h:r < 3):jS 1 (.list k_0 [.str [97],.str [98]]) 0 (some r)=some (lS (bN.take r)):=by
 have:r=0∨r=1∨r=2:=by omega
 rcases this with rfl | rfl | rfl <;> rfl
theorem zr7 (r:Nat) (h:r < 3):iP (bN.take r)=false:=by
 have:r=0∨r=1∨r=2:=by omega
 rcases this with rfl | rfl | rfl <;> decide
section
variable {C:aM} {n:Nat} {σ:Store}
def ztn (o:Bool) (bs:List (Tx × Co)):List Cell:=[⟨false,.int .i64 8⟩,⟨false,.int .i64 0⟩,⟨false,.str []⟩,⟨false,.int .i64 0⟩,⟨false,.int .i64 0⟩,⟨false,.str []⟩,⟨false,.nils⟩,⟨false,.nils⟩,⟨o,dBl bs⟩,⟨false,.nils⟩]
def Elt (d:D) (ns:List Tx) (D r:Nat) (bs:List (Tx × Co)) (j k:Nat):Env:={slots:=[(0,⟨false,d⟩),(1,⟨false,.int .i64 j⟩),(2,⟨false,dSs ns⟩),(3,⟨false,.int .i64 (D + 1:Nat)⟩),(20,⟨true,.list k_0 [.str [97],.str [98]]⟩),(21,⟨false,.int .i64 r⟩),(23,⟨false,.int .i64 k⟩)],locs:=[(8,8,0),(22,22,0)],boxes:=[(8,z10),(22,ztn (ow k) bs)],defers:=[]}
theorem zzb (d:D) (ns:List Tx) (D r:Nat) (bs:List (Tx × Co)) (j k j':Nat) (c:Co) (hk:k < r) (hr:r < 3) (hd:D < 1000) (hb:bs.length < 100) (hne:bs≠[]→ow k=true)
  (h1:C qR [dSs ns,lS (bN.take r)] σ=some (.ret ⟨false,dSs (ns ++ bN.take r)⟩,σ))
  (h2:C n_7 [d,.int .i64 j,dSs (ns ++ bN.take r),.int .i64 D] σ=some (.ret ⟨false,.tup [dCo c,.int .i64 j']⟩,σ)) :
  exec C n none Yy (Elt d ns D r bs j k) σ=some (.normal,Elt d ns D r (bs ++ [(bN.getD k [],c)]) j' (k + 1),σ):=by
 have hlt:((k:Int) < (r:Int)):=by omega
 have wd:=vT hd
 have wk:=aR (i:=k) (by omega)
 have hs:=Xe r hr
 have ho:k < bN.length:=by simp [bN]; omega
 have hx:=uV bN k ho
 rw [← cO bN k [] ho] at hx
 have ha:=zdsb bs (bN.getD k [],c) (ow k) hne (by omega)
 rw [uS] at ha
 generalize bN.getD k []=s at hx ha
 have hx:dC 1 (.list k_0 [.str [97],.str [98]]) k=some (.eptr (.str s)):=hx
 simp only [cH,jF] at h2 ha
 simp only [Yy,Elt,ztn,z10,sA,seval,kn,hlt,cL,hs,h1,wd,h2,hx,ha,wk,qS,okl,mT,gV,kP]
theorem zbxb (d:D) (ns:List Tx) (D r:Nat) (bs:List (Tx × Co)) (j:Nat):exec C n none Yy (Elt d ns D r bs j r) σ=some (.exit 1,{Elt d ns D r bs j r with slots:=[(0,⟨false,d⟩),(1,⟨false,.int .i64 j⟩),(2,⟨false,dSs ns⟩),(3,⟨false,.int .i64 (D + 1:Nat)⟩),(20,⟨true,.list k_0 [.str [97],.str [98]]⟩),(21,⟨false,.int .i64 r⟩),(23,⟨false,.int .i64 r⟩),(116,⟨false,.bool false⟩)]},σ):=by
 have hlt:¬ ((r:Int) < (r:Int)):=by omega
 simp only [Yy,Elt,sA,seval,kn,hlt]
end
theorem zctb {d:D} {xs:List Int} (hR:IR d xs) (D i:Nat) (hT:zU d D) (ns:List Tx) (hp:PT ns (D + 1) i) (hc:dO xs i % 8=4) (hd:D < 1000) :
  ∃ co j,OkP n_7 [d,.int .i64 i,dSs ns,.int .i64 (D + 1:Nat)] ⟨false,.tup [dCo co,.int .i64 (j:Nat)]⟩∧Eh ns (D + 1) i co j:=by
 obtain ⟨h0,hl,h5,hi⟩:=hp
 simp only [szN] at hi
 have h1:=lF (S:=STm d xs D) rfl hR i (by omega) 0 σ0
 have hv:=qB hR.small i
 generalize dO xs i=v at h1 hv hc
 have wi:=aR (i:=i) (by omega)
 have wd:=vT hd
 have hle:¬ (((D + 1:Nat):Int)≤0):=by omega
 have d8:((v:Int)).tdiv 8=((v / 8:Nat):Int):=Ph v 8
 have w8:IntKind.i64.wrap ((v / 8:Nat):Int)=((v / 8:Nat):Int):=iQ (by omega) (by omega)
 have t3:(((v / 8:Nat):Int)).tmod 3=((v / 8 % 3:Nat):Int):=jQ _ 3
 have hr3:v / 8 % 3 < 3:=Nat.mod_lt _ (by decide)
 have t8:((v:Int)).tmod 8=4:=by rw [show ((v:Int)).tmod 8=((v % 8:Nat):Int) from jQ v 8,hc]; rfl
 generalize v / 8 % 3=r at t3 hr3
 have hol:(bN.take r).length≤2:=by simp [bN]; omega
 have hb:=Ve (S:=STm d xs D) rfl ns (bN.take r) (by omega) 0 σ0
 have hn5:∀ s∈ns ++ bN.take r,Nv s:=fun s hs=>by
  rcases List.mem_append.1 hs with h | h
  ·exact h5 s h
  ·have:=List.mem_of_mem_take h
   simp only [bN,List.mem_cons,List.not_mem_nil,or_false] at this
   rcases this with rfl | rfl <;> rfl
 have hn0:ns ++ bN.take r≠[]:=by simp [h0]
 have hnl:(ns ++ bN.take r).length + 2 * D≤100:=by rw [List.length_append]; omega
 obtain ⟨res,hr,bs,j,rfl,q1,q2,q3,q4⟩:=sD (body:=exec (T (STm d xs D) 1) 5 none Yy)
  (fun k e σ=>σ=σ0∧∃ bs j,e=Elt d ns D r bs j k∧bs.map Prod.fst=bN.take k∧(∀ p∈bs,Good (ns ++ bN.take r) p.2∧jT p.2∧hgt p.2≤D + 1)∧szB bs≤k * (szT D + 1)∧j≤i + 1 + k * szN D)
  (fun res=>∃ bs j,res=(.exit 1,{Elt d ns D r bs j r with slots:=[(0,⟨false,d⟩),(1,⟨false,.int .i64 j⟩),(2,⟨false,dSs ns⟩),(3,⟨false,.int .i64 (D + 1:Nat)⟩),(20,⟨true,.list k_0 [.str [97],.str [98]]⟩),(21,⟨false,.int .i64 r⟩),(23,⟨false,.int .i64 r⟩),(116,⟨false,.bool false⟩)]},σ0)∧bs.map Prod.fst=bN.take r∧(∀ p∈bs,Good (ns ++ bN.take r) p.2∧jT p.2∧hgt p.2≤D + 1)∧szB bs≤r * (szT D + 1)∧j≤i + 1 + r * szN D) r
  (fun k e σ hk ⟨hσ,bs,j,he,p1,p2,p3,p4⟩=>by
   subst hσ he
   have hkm:(k + 1) * szN D≤2 * szN D:=Nat.mul_le_mul_right _ (by omega)
   rw [Nat.succ_mul] at hkm
   obtain ⟨c,j',⟨a1,a2,a3,a4,a5⟩,h2⟩:=qG (S:=STm d xs D) rfl hT j (ns ++ bN.take r) ⟨hn0,hnl,hn5,by omega⟩
   have hlb:bs.length=(bN.take k).length:=by rw [← p1,List.length_map]
   have hlk:(bN.take k).length≤2:=by simp [bN]; omega
   have hko:k < bN.length:=by simp [bN]; omega
   refine ⟨_,_,zzb d ns D r bs j k j' c hk hr3 hd (by omega) (fun h=>?_) hb (h2 0 σ0),rfl,_,_,rfl,?_,fun p hp=>?_,?_,?_⟩
   ·cases k with
    | zero=>exact absurd (List.length_eq_zero_iff.1 (by rw [hlb]; rfl)) h
    | succ k=>rfl
   ·rw [List.map_append,p1,← fL bN k hko,← cO bN k [] hko]
    rfl
   ·rcases List.mem_append.1 hp with h | h
    ·exact p2 p h
    ·rw [List.mem_singleton.1 h]
     exact ⟨a1,a2,a4⟩
   ·rw [zpi,Nat.succ_mul]
    simp only [szB]
    omega
   ·rw [Nat.succ_mul]; omega)
  (fun e σ ⟨hσ,bs,j,he,p1,p2,p3,p4⟩=>by
   subst hσ he
   exact ⟨_,zbxb d ns D r bs j,fun _ _ h=>(by cases h),bs,j,rfl,p1,p2,p3,p4⟩) 0 5 (Elt d ns D r [] (i + 1) 0) σ0 (by omega) (by omega)
  ⟨rfl,_,_,rfl,rfl,(fun a h=>by cases h),by simp [szB],by omega⟩
 have hm1:r * (szT D + 1)≤2 * (szT D + 1):=Nat.mul_le_mul_right _ (by omega)
 have hm2:r * szN D≤2 * szN D:=Nat.mul_le_mul_right _ (by omega)
 obtain ⟨b,j2,⟨b1,b2,b3,b4,b5⟩,h3⟩:=qG (S:=STm d xs D) rfl hT j (ns ++ bN.take r) ⟨hn0,hnl,hn5,by omega⟩
 have h3:=h3 0 σ0
 have hsz:(Co.mk 8 0 [] [b] bs []).size=1 + b.size + szB bs:=by simp only [Co.size,szK,szA]; omega
 have hh:=zrh bs fun x hx=>(q2 x hx).2.2
 refine ⟨.mk 8 0 [] [b] bs [],j2,Yf hR (o:=false) ?_,.lt (by rw [q1]; exact zr7 r hr3) (fun p hp=>by rw [q1]; exact (q2 p hp).1) (by rw [q1]; exact b1),.lt (by simp) (fun p hp=>?_) (fun p hp=>(q2 p hp).2.1) b2,by rw [hsz]; simp only [szT]; omega,by simp only [hgt,hgK,hgA]; omega,by simp only [szN]; omega⟩
 ·have eC:dCs [b]=.list k_2 [dCo b]:=rfl
  rw [cH (.mk 8 0 [] [b] bs []),jF]
  simp only [co,eC]
  have e0:ow 0=false:=rfl
  have e1:dBl []=.nils:=rfl
  have hs:=Xe r hr3
  simp only [Elt,ztn,z10,bV,e0,e1] at hr
  simp only [cH,jF] at h3 ⊢
  simp only [sQ,sA,seval,kn,h1,wi,wd,hle,t8,d8,w8,t3,hr,cL,hs,hb,h3,qS,okl,mT]
  rfl
 ·have:p.1∈bN.take r:=by rw [← q1]; exact List.mem_map_of_mem hp
  exact hn5 _ (List.mem_append.2 (.inr this))
end Go.Fu
namespace Go.Fu
open Go Go.Mx
set_option maxRecDepth 10000
set_option maxHeartbeats 4000000
theorem zsu {d:D} {xs:List Int} (hR:IR d xs):∀ deep,deep < 1000→zU d deep
 | 0,h=>fun i ns hp=>zme hR 0 i ns hp (.inl rfl) h
 | D + 1,h=>fun i ns hp=>by
  have ih:=zsu hR D (by omega)
  have h8:dO xs i % 8 < 2∨dO xs i % 8=2∨dO xs i % 8=3∨dO xs i % 8=4∨dO xs i % 8=5∨(dO xs i % 8=6∨dO xs i % 8=7):=by omega
  rcases h8 with q | q | q | q | q | q
  ·exact zme hR (D + 1) i ns hp (.inr q) h
  ·exact zahb hR D i ih ns hp q (by omega)
  ·exact zajb hR D i ih ns hp q (by omega)
  ·exact zctb hR D i ih ns hp q (by omega)
  ·exact zaib hR D i ns hp q (by omega)
  ·exact zcsb hR D i ih ns hp q (by omega)
def fS:List Tx:=[[102],[103],[104],[120]]
def kT:List Tx:=[[120],[121],[122]]
def Ku:D:=.list k_0 [.str [102],.str [103],.str [104],.str [120]]
def Rz:D:=.list k_0 [.str [120],.str [121],.str [122]]
theorem zmr (m:Nat) (h:m < 4):jS 1 Ku 0 (some (m + 1))=some (dSs (fS.take (m + 1))):=by
 have:m=0∨m=1∨m=2∨m=3:=by omega
 rcases this with rfl | rfl | rfl | rfl <;> rfl
theorem zoq (k:Nat) (h:k < 4):jS 1 Rz 0 (some k)=some (lS (kT.take k)):=by
 have:k=0∨k=1∨k=2∨k=3:=by omega
 rcases this with rfl | rfl | rfl | rfl <;> rfl
theorem zr8 (k:Nat) (h:k < 4):iP (kT.take k)=false:=by
 have:k=0∨k=1∨k=2∨k=3:=by omega
 rcases this with rfl | rfl | rfl | rfl <;> decide
theorem zp9 (m:Nat) (h:m < 4):iP (FL.map Fd.name ++ fS.take (m + 1))=false:=by
 have:m=0∨m=1∨m=2∨m=3:=by omega
 rcases this with rfl | rfl | rfl | rfl <;> decide
section
variable {C:aM} {n:Nat} {σ:Store}
def Emd (d:D) (m:Nat) (us:List Su) (j i:Nat):Env:={slots:=[(0,⟨false,d⟩),(3,⟨true,Ku⟩),(4,⟨true,Rz⟩),(5,⟨false,.int .i64 (m + 1:Nat)⟩),(6,⟨false,.int .i64 j⟩),(7,⟨ow i,dUs us⟩),(8,⟨false,.int .i64 i⟩)],locs:=[],boxes:=[],defers:=[]}
theorem zzh (d:D) (m:Nat) (us:List Su) (j i v j':Nat) (c:Co) (hi:i < m + 1) (hm:m < 4) (hj:j < 1000000) (hul:us.length < 100) (hne:us≠[]→ow i=true)
  (h1:C rP [d,.int .i64 j] σ=some (.ret ⟨false,.int .i64 v⟩,σ))
  (h2:C qR [dSs (fS.take (m + 1)),lS (kT.take (v % 4))] σ=some (.ret ⟨false,dSs (fS.take (m + 1) ++ kT.take (v % 4))⟩,σ))
  (h3:C n_7 [d,.int .i64 (j + 1:Nat),dSs (fS.take (m + 1) ++ kT.take (v % 4)),.int .i64 4] σ=some (.ret ⟨false,.tup [dCo c,.int .i64 j']⟩,σ)) :
  exec C n none Rf (Emd d m us j i) σ=some (.normal,Emd d m (us ++ [⟨fS.getD i [],kT.take (v % 4),c⟩]) j' (i + 1),σ):=by
 have hlt:((i:Int) < ((m + 1:Nat):Int)):=by omega
 have t4:((v:Int)).tmod 4=((v % 4:Nat):Int):=jQ v 4
 have hv4:v % 4 < 4:=Nat.mod_lt _ (by decide)
 have wj:=aR (i:=j) (by omega)
 have wi:=aR (i:=i) (by omega)
 have hs1:=zmr m hm
 have hs2:=zoq (v % 4) hv4
 have ho:i < fS.length:=by simp [fS]; omega
 have hx:=uV fS i ho
 rw [← cO fS i [] ho] at hx
 have ap:cK k_0 16 ⟨false,.nils⟩ ((kT.take (v % 4)).map D.str)=some ⟨true,dSs (kT.take (v % 4))⟩:=Oe _ false (by simp [kT]; omega)
 have ha:=zdub us ⟨fS.getD i [],kT.take (v % 4),c⟩ (ow i) hne (by omega)
 have has:eL (lS (kT.take (v % 4)))=some ((kT.take (v % 4)).map D.str):=rfl
 rw [zxd,cU] at ha
 generalize fS.getD i []=s at hx ha
 have hx:dC 1 Ku i=some (.eptr (.str s)):=hx
 generalize kT.take (v % 4)=o3 at *
 simp only [cH,jF] at h3 ha
 simp only [Rf,Emd,sA,seval,kn,hlt,cL,hs1,hs2,h1,h2,t4,wj,h3,hx,ha,has,ap,wi,qS,okl,mT,gV,kP]
theorem zbyb (d:D) (m:Nat) (us:List Su) (j:Nat):exec C n none Rf (Emd d m us j (m + 1)) σ=some (.exit 0,{Emd d m us j (m + 1) with slots:=[(0,⟨false,d⟩),(3,⟨true,Ku⟩),(4,⟨true,Rz⟩),(5,⟨false,.int .i64 (m + 1:Nat)⟩),(6,⟨false,.int .i64 j⟩),(7,⟨true,dUs us⟩),(8,⟨false,.int .i64 (m + 1:Nat)⟩),(26,⟨false,.bool false⟩)]},σ):=by
 have hlt:¬ (((m + 1:Nat):Int) < ((m + 1:Nat):Int)):=by omega
 simp only [Rf,Emd,sA,seval,kn,hlt,kP]
end
end Go.Fu
namespace Go.Fu
open Go Go.Mx
set_option maxRecDepth 10000
set_option maxHeartbeats 4000000
def SMd (d:D) (xs:List Int):aV:=[(rP,Xu d xs),(qR,Nu),(n_7,zo6 d 4)]
def Je (us:List Su):Prop:=GoodP us∧us.length≤4∧∀ u∈us,Jf 5 200 u∧u.body.size≤1200
theorem zbm {d:D} {xs:List Int} (hR:IR d xs):∃ (m:Nat) (us:List Su) (j:Nat),m < 4∧(∀ σ,T (SMd d xs) 1 rP [d,.int .i64 0] σ=some (.ret ⟨false,.int .i64 (dO xs 0:Nat)⟩,σ))∧m=dO xs 0 % 4 ∧
  dL (exec (T (SMd d xs) 1) 6 none Rf) 6 (Emd d m [] 1 0) σ0=some (.exit 0,{Emd d m us j (m + 1) with slots:=[(0,⟨false,d⟩),(3,⟨true,Ku⟩),(4,⟨true,Rz⟩),(5,⟨false,.int .i64 (m + 1:Nat)⟩),(6,⟨false,.int .i64 j⟩),(7,⟨true,dUs us⟩),(8,⟨false,.int .i64 (m + 1:Nat)⟩),(26,⟨false,.bool false⟩)]},σ0)∧Je us∧us.map Su.name=fS.take (m + 1)∧∀ u∈us,Pl u.body∧∀ s∈u.ps,Nv s:=by
 have hp0:∀ σ,T (SMd d xs) 1 rP [d,.int .i64 0] σ=some (.ret ⟨false,.int .i64 (dO xs 0:Nat)⟩,σ):=fun σ=>lF (S:=SMd d xs) rfl hR 0 (by omega) 0 σ
 obtain ⟨m,hm⟩:∃ m,m=dO xs 0 % 4:=⟨_,rfl⟩
 have hm4:m < 4:=by rw [hm]; exact Nat.mod_lt _ (by decide)
 have hN:szN 4=681:=rfl
 have hT4:szT 4=1106:=rfl
 have hal:(fS.take (m + 1)).length=m + 1:=by simp [fS]; omega
 obtain ⟨r,hr,us,j,rfl,q1,q2⟩:=sD (body:=exec (T (SMd d xs) 1) 6 none Rf)
  (fun i e σ=>σ=σ0∧∃ us j,e=Emd d m us j i∧us.map Su.name=fS.take i∧j≤1 + i * 682∧∀ u∈us,∃ k,k < 4∧u.ps=kT.take k∧u.name.length=1∧Good (fS.take (m + 1) ++ u.ps) u.body∧jT u.body∧u.body.size≤1106∧hgt u.body≤5)
  (fun r=>∃ us j,r=(.exit 0,{Emd d m us j (m + 1) with slots:=[(0,⟨false,d⟩),(3,⟨true,Ku⟩),(4,⟨true,Rz⟩),(5,⟨false,.int .i64 (m + 1:Nat)⟩),(6,⟨false,.int .i64 j⟩),(7,⟨true,dUs us⟩),(8,⟨false,.int .i64 (m + 1:Nat)⟩),(26,⟨false,.bool false⟩)]},σ0)∧us.map Su.name=fS.take (m + 1)∧∀ u∈us,∃ k,k < 4∧u.ps=kT.take k∧u.name.length=1∧Good (fS.take (m + 1) ++ u.ps) u.body∧jT u.body∧u.body.size≤1106∧hgt u.body≤5) (m + 1)
  (fun i e σ hi ⟨hσ,us,j,he,p1,p2,p3⟩=>by
   subst hσ he
   have h1:=lF (S:=SMd d xs) rfl hR j (by omega) 0 σ0
   generalize dO xs j=v at h1
   have hv4:v % 4 < 4:=Nat.mod_lt _ (by decide)
   have hol:(kT.take (v % 4)).length≤3:=by simp [kT]; omega
   have h2:=Ve (S:=SMd d xs) rfl (fS.take (m + 1)) (kT.take (v % 4)) (by omega) 0 σ0
   have hlu:us.length=(fS.take i).length:=by rw [← p1,List.length_map]
   have hli:(fS.take i).length≤4:=by simp [fS]; omega
   have hio:i < fS.length:=by simp [fS]; omega
   obtain ⟨c,j',⟨a1,a2,a3,a4,a5⟩,h3⟩:=qG (S:=SMd d xs) rfl (zsu hR 4 (by omega)) (j + 1) (fS.take (m + 1) ++ kT.take (v % 4)) ⟨fun h=>by
     have:=congrArg List.length h
     rw [List.length_append,hal] at this
     simp at this,by rw [List.length_append,hal]; omega,fun s hs=>by
     rcases List.mem_append.1 hs with h | h
     ·have:=List.mem_of_mem_take h
      simp only [fS,List.mem_cons,List.not_mem_nil,or_false] at this
      rcases this with rfl | rfl | rfl | rfl <;> rfl
     ·have:=List.mem_of_mem_take h
      simp only [kT,List.mem_cons,List.not_mem_nil,or_false] at this
      rcases this with rfl | rfl | rfl <;> rfl,by omega⟩
   have hng:(fS.getD i []).length=1:=by
    rw [cO fS i [] hio]
    have:=List.getElem_mem hio
    generalize fS[i]=s at this
    simp only [fS,List.mem_cons,List.not_mem_nil,or_false] at this
    rcases this with rfl | rfl | rfl | rfl <;> rfl
   refine ⟨_,_,zzh d m us j i v j' c hi hm4 (by omega) (by omega) (fun h=>?_) h1 h2 (h3 0 σ0),rfl,_,_,rfl,?_,by omega,fun u hu=>?_⟩
   ·cases i with
    | zero=>exact absurd (List.length_eq_zero_iff.1 (by rw [hlu]; rfl)) h
    | succ i=>rfl
   ·rw [List.map_append,p1,← fL fS i hio,← cO fS i [] hio]
    rfl
   ·rcases List.mem_append.1 hu with h | h
    ·exact p3 u h
    ·rw [List.mem_singleton.1 h]
     exact ⟨v % 4,hv4,rfl,hng,a1,a2,by simp only; omega,by simp only; omega⟩)
  (fun e σ ⟨hσ,us,j,he,p1,p2,p3⟩=>by
   subst hσ he
   exact ⟨_,zbyb d m us j,fun _ _ h=>(by cases h),us,j,rfl,p1,p3⟩) 0 6 (Emd d m [] 1 0) σ0 (by omega) (by omega)
  ⟨rfl,_,_,rfl,rfl,by omega,(fun a h=>by cases h)⟩
 have hul:us.length=m + 1:=by rw [← hal,← q1,List.length_map]
 refine ⟨m,us,j,hm4,hp0,hm,hr,⟨⟨by omega,by rw [q1]; exact zp9 m hm4,fun u hu=>?_,fun u hu=>?_⟩,by omega,fun u hu=>?_⟩,q1,fun u hu=>?_⟩
 ·obtain ⟨k,hk,e,_⟩:=q2 u hu
  rw [e]
  exact ⟨zr8 k hk,by simp [kT]; omega⟩
 ·obtain ⟨k,hk,e,h1,h2,h3,h4,h5⟩:=q2 u hu
  rw [q1]
  exact ⟨h2,by omega⟩
 ·obtain ⟨k,hk,e,h1,h2,h3,h4,h5⟩:=q2 u hu
  have hpl:u.ps.length≤3:=by rw [e]; simp [kT]; omega
  exact ⟨⟨h3.1,by omega,by omega,by omega⟩,by omega⟩
 ·obtain ⟨k,hk,e,h1,h2,h3,h4,h5⟩:=q2 u hu
  refine ⟨h3.2,fun s hs=>?_⟩
  rw [e] at hs
  have:=List.mem_of_mem_take hs
  simp only [kT,List.mem_cons,List.not_mem_nil,or_false] at this
  rcases this with rfl | rfl | rfl <;> rfl
theorem zzg {d:D} {xs:List Int} (hR:Un lT d xs) (hS:∀ x∈xs,Small x):∃ us,OkP Wi [d] ⟨false,dUs us⟩∧Je us∧∃ m,m < 4∧us.map Su.name=fS.take (m + 1)∧∀ u∈us,Pl u.body∧∀ s∈u.ps,Nv s:=by
 have mkIR:∀ ys:List Int,(∀ x∈ys,Small x)→IR (.list lT (ys.map fun x=>.int .i64 x)) ys:=fun ys hs=>by
  refine ⟨by simp [lenOf],fun i h=>?_,by rw [bS]; exact iR (fun _=>rfl) ys,hs⟩
  have hn:nth (ys.map fun x=>D.int .i64 x) i=some (.int .i64 ys[i]):=by rw [Dc,Db _ _ h]; rfl
  have hk:(lT.sz == 1)=true:=rfl
  rw [idxL,hk,hn]
  rfl
 have e0:ow 0=false:=rfl
 have e1:dUs []=.nils:=rfl
 have hI:IR d xs:=by
  rcases hR with rfl | ⟨rfl,rfl⟩
  ·exact mkIR xs hS
  ·exact ⟨rfl,fun i h=>by simp at h,rfl,hS⟩
 by_cases hl:xs.length≤80
 ·obtain ⟨m,us,j,hm,hp,hpm,hr,hok,hnm⟩:=zbm hI
  refine ⟨us,OkP.weak (o:=true) rfl (eD (af:=Yv) (n:=6) (σ':=σ0) (eR (SMd d xs) 1) rfl rfl (by simp [aX,hI.np]) (sG _) ?_),hok,m,hm,hnm⟩
  have hg:¬ ((80:Int) < (xs.length:Int)):=by omega
  have t4:((dO xs 0:Nat):Int).tmod 4=(m:Int):=by rw [hpm]; exact jQ _ 4
  have wm:=aR (i:=m) (by omega)
  have hp:=hp σ0
  generalize dO xs 0=v at hp t4
  simp only [Emd,bV,zuz,e0,e1,Ku,Rz] at hr
  simp only [Yv,sA,seval,kn,hI.len,hg,hp,t4,wm,hr]
 ·rcases hR with rfl | ⟨rfl,rfl⟩
  ·have hI2:=mkIR (xs.take 80) fun x hx=>hS x (List.mem_of_mem_take hx)
   obtain ⟨m,us,j,hm,hp,hpm,hr,hok,hnm⟩:=zbm hI2
   refine ⟨us,OkP.weak (o:=true) rfl (eD (af:=Yv) (n:=6) (σ':=σ0) (eR (SMd (.list lT ((xs.take 80).map fun x=>.int .i64 x)) (xs.take 80)) 1) rfl rfl (by simp only [aX,hI.np]; rfl) (sG _) ?_),hok,m,hm,hnm⟩
   have hg:((80:Int) < (xs.length:Int)):=by omega
   have t4:((dO (xs.take 80) 0:Nat):Int).tmod 4=(m:Int):=by rw [hpm]; exact jQ _ 4
   have wm:=aR (i:=m) (by omega)
   have hsl:jS 1 (.list lT (xs.map fun x=>.int .i64 x)) 0 (some 80)=some (.list lT ((xs.take 80).map fun x=>.int .i64 x)):=by
    have h1:decide (0≤80)=true:=rfl
    have h2:decide (80≤(xs.map fun x=>D.int .i64 x).length)=true:=by simp; omega
    have h3:(lT.sz == 1)=true:=rfl
    simp only [jS,Option.getD_some,h2,h3,List.drop_zero,Nat.sub_zero,List.map_take]
    rfl
   have hp:=hp σ0
   have hlen:=hI.len
   generalize dO (xs.take 80) 0=v at hp t4
   generalize D.list lT ((xs.take 80).map fun x=>D.int .i64 x)=d2 at *
   generalize D.list lT (xs.map fun x=>D.int .i64 x)=d1 at *
   have n80:∀ {k:IntKind},D.nat? (.int k 80)=some 80:=rfl
   simp only [Emd,bV,zuz,e0,e1,Ku,Rz] at hr
   simp only [Yv,sA,seval,kn,hlen,hg,hsl,n80,hp,t4,wm,hr]
  ·exact absurd (Nat.zero_le 80) hl
theorem zzf {d:D} {xs:List Int} (hR:Un lT d xs) (hS:∀ x∈xs,Small x):∃ us,OkP Wi [d] ⟨false,dUs us⟩∧Je us∧∃ m,m < 4∧us.map Su.name=fS.take (m + 1):=by
 obtain ⟨us,h1,h2,m,h3,h4,_⟩:=zzg hR hS
 exact ⟨us,h1,h2,m,h3,h4⟩
end Go.Fu
namespace Go.Fu
open Go Go.Mx
set_option maxRecDepth 10000
set_option maxHeartbeats 4000000
def Jb (us:List Su) (acc:List Cd) (i:Nat):Env:={slots:=[(7,⟨true,dDs acc⟩),(62,⟨false,dUs us⟩),(63,⟨false,.int .i64 us.length⟩),(64,⟨false,.int .i64 i⟩)],locs:=[],boxes:=[],defers:=[]}
def Aw (us:List Su) (i:Nat) (vs:List Su) (acc:List Cd) (j:Nat):Env:={slots:=[(7,⟨true,dDs acc⟩),(62,⟨false,dUs us⟩),(63,⟨false,.int .i64 us.length⟩),(64,⟨false,.int .i64 i⟩),(69,⟨false,dUs vs⟩),(70,⟨false,.int .i64 vs.length⟩),(71,⟨false,.int .i64 j⟩)],locs:=[],boxes:=[],defers:=[]}
section
variable {C:aM} {n:Nat} {σ:Store}
theorem zbbb (us:List Su) (acc:List Cd) (o:Bool):exec C n none iV (Av us acc o 5) σ=some (.exit 0,{Av us acc o 5 with slots:=[(1,⟨false,dUs us⟩),(7,⟨o,dDs acc⟩),(23,⟨false,dFs FL⟩),(24,⟨false,.int .i64 5⟩),(25,⟨false,.int .i64 (5:Nat)⟩),(26,⟨false,.bool false⟩)]},σ):=by
 have hlt:¬ (((5:Nat):Int) < 5):=by omega
 simp only [iV,Av,sA,Nat.reduceAdd,Nat.reduceSub,Nat.reduceMul,Nat.reduceBEq,Nat.reduceLeDiff,Int.reduceBEq,Int.reduceBNe,Int.reduceLE,Int.reduceLT,Int.reduceGE,Int.reduceGT,Int.reduceNeg,kn,hlt]
theorem zyp (us:List Su) (i:Nat) (vs:List Su) (acc:List Cd) (j:Nat) (hj:j < vs.length) (hv:vs.length < 100000000) (hl:acc.length < 100000000) (c:Cd) (hc:C Le [dU vs[j]] σ=some (.ret ⟨false,dD c⟩,σ)):exec C n none hZ (Aw us i vs acc j) σ=some (.normal,Aw us i vs (acc ++ [c]) (j + 1),σ):=by
 have hlt:((j:Int) < (vs.length:Int)):=by omega
 have w:=aR (i:=j) (by omega)
 have hx:=zen vs j hj
 generalize vs[j]=u at hx hc
 have hon:=fF u.body
 have hoS:=dN u.ps
 have hap:=zxc acc c true (fun _=>rfl) (by omega)
 have hdd:dD c=.agg [.str c.name,.int .i64 c.arity,dIs c.body]:=rfl
 have hoI:(dIs c.body).one=true:=bZ
 have okI:(dIs c.body).ok=true:=dQ
 have ceI:(dIs c.body).cells=[dIs c.body]:=bX
 rw [hdd] at hap hc
 rw [Cj] at hx hc
 simp only [hZ,Aw,sA,Nat.reduceAdd,Nat.reduceSub,Nat.reduceMul,Nat.reduceBEq,Nat.reduceLeDiff,Int.reduceBEq,Int.reduceBNe,Int.reduceLE,Int.reduceLT,Int.reduceGE,Int.reduceGT,Int.reduceNeg,kn,bF,mB,hlt,cL,hx,hon,hoS,hc,hap,hoI,okI,ceI,w]
theorem zbcb (us:List Su) (i:Nat) (vs:List Su) (acc:List Cd):exec C n none hZ (Aw us i vs acc vs.length) σ=some (.exit 6,{Aw us i vs acc vs.length with slots:=[(7,⟨true,dDs acc⟩),(62,⟨false,dUs us⟩),(63,⟨false,.int .i64 us.length⟩),(64,⟨false,.int .i64 i⟩),(69,⟨false,dUs vs⟩),(70,⟨false,.int .i64 vs.length⟩),(71,⟨false,.int .i64 vs.length⟩),(72,⟨false,.bool false⟩)]},σ):=by
 have hlt:¬ ((vs.length:Int) < (vs.length:Int)):=by omega
 simp only [hZ,Aw,sA,Nat.reduceAdd,Nat.reduceSub,Nat.reduceMul,Nat.reduceBEq,Nat.reduceLeDiff,Int.reduceBEq,Int.reduceBNe,Int.reduceLE,Int.reduceLT,Int.reduceGE,Int.reduceGT,Int.reduceNeg,kn,hlt]
theorem zyq (us:List Su) (i:Nat) (vs:List Su) (acc acc':List Cd) (hi:i < us.length) (hu:us.length < 100000000) (hc:C uE [dU us[i]] σ=some (.ret ⟨false,dUs vs⟩,σ))
  (hl:dL (exec C n none hZ) n (Aw us i vs acc 0) σ=some (.exit 6,{Aw us i vs acc' vs.length with slots:=[(7,⟨true,dDs acc'⟩),(62,⟨false,dUs us⟩),(63,⟨false,.int .i64 us.length⟩),(64,⟨false,.int .i64 i⟩),(69,⟨false,dUs vs⟩),(70,⟨false,.int .i64 vs.length⟩),(71,⟨false,.int .i64 vs.length⟩),(72,⟨false,.bool false⟩)]},σ)) :
  exec C n none iW (Jb us acc i) σ=some (.normal,Jb us acc' (i + 1),σ):=by
 have hlt:((i:Int) < (us.length:Int)):=by omega
 have w:=aR (i:=i) (by omega)
 have hx:=zen us i hi
 generalize us[i]=u at hx hc
 have hon:=fF u.body
 have hoS:=dN u.ps
 have hlv:=Gg vs
 rw [Cj] at hx hc
 simp only [Aw,bV] at hl
 simp only [iW,Jb,sA,Nat.reduceAdd,Nat.reduceSub,Nat.reduceMul,Nat.reduceBEq,Nat.reduceLeDiff,Int.reduceBEq,Int.reduceBNe,Int.reduceLE,Int.reduceLT,Int.reduceGE,Int.reduceGT,Int.reduceNeg,kn,bF,mB,hlt,cL,hx,hon,hoS,hc,hlv,hl,w]
theorem zbdb (us:List Su) (acc:List Cd):exec C n none iW (Jb us acc us.length) σ=some (.exit 4,{Jb us acc us.length with slots:=[(7,⟨true,dDs acc⟩),(62,⟨false,dUs us⟩),(63,⟨false,.int .i64 us.length⟩),(64,⟨false,.int .i64 us.length⟩),(65,⟨false,.bool false⟩)]},σ):=by
 have hlt:¬ ((us.length:Int) < (us.length:Int)):=by omega
 simp only [iW,Jb,sA,Nat.reduceAdd,Nat.reduceSub,Nat.reduceMul,Nat.reduceBEq,Nat.reduceLeDiff,Int.reduceBEq,Int.reduceBNe,Int.reduceLE,Int.reduceLT,Int.reduceGE,Int.reduceGT,Int.reduceNeg,kn,hlt]
end
structure CompOK (us:List Su):Prop where
 good:GoodP us
 few:us.length≤6
 pre:∀ u∈us,Jf 6 200 u∧u.body.size≤1200
theorem Rq {us:List Su} (h:CompOK us) (u:Su) (hu:u∈us):OkP uE [dU u] ⟨false,dUs (fV u)⟩∧(∀ v∈fV u,FlU 200 v)∧(fV u).length≤1200:=by
 obtain ⟨h1,h2⟩:=h.pre u hu
 obtain ⟨h3,h4,h5,_⟩:=zua (B:=6) (B':=200) (by omega) (by omega) u.body.size u (Nat.le_refl _) h1
 exact ⟨h3,h4,by unfold fV; omega⟩
theorem ztu {u:Su} (h:FlU 200 u):OkP Le [dU u] ⟨false,dD (eG u)⟩∧(eG u).body.length < 9000000:=by
 obtain ⟨h1,h2,h3⟩:=h
 have h4:=(zle h1 h3).2
 exact ⟨zqu u h1 (by omega) (by omega) (by omega),by omega⟩
theorem zty {us:List Su} (h:CompOK us):∃ σ',lP Ra (fun _ _ _=>none) kN 0 (exec (W (SGC us) 2) 100000 none kN.body (eT [dFs FL,dUs us]) σ0)=some (.ret ⟨false,.tup [dDs (bW us),.int .i64 0]⟩,σ'):=by
 have hfew:=h.few
 obtain ⟨cw,hw1,hw2⟩:=nP (S:=SGC us) (s:=spGw us) rfl rfl (ds:=[dFs FL,dUs us]) (c:=⟨false,.int .i64 0⟩) (fun _=>rfl) (zje us h.good)
 rw [hw1 rfl] at hw2
 have hF:FL.length=5:=rfl
 obtain ⟨r,hr,σ1,hr1⟩:=sD (body:=exec (W (SGC us) 2) 100000 none iV)
  (fun i e _=>i≤5∧e=Av us ((FL.take i).map dR) (ow i) i)
  (fun r=>∃ σ1,r=(.exit 0,{Av us (FL.map dR) true 5 with slots:=[(1,⟨false,dUs us⟩),(7,⟨true,dDs (FL.map dR)⟩),(23,⟨false,dFs FL⟩),(24,⟨false,.int .i64 5⟩),(25,⟨false,.int .i64 (5:Nat)⟩),(26,⟨false,.bool false⟩)]},σ1)) 5
  (fun i e σ hi ⟨_,he⟩=>by
   subst he
   obtain ⟨σ',hs⟩:=zyo us ((FL.take i).map dR) (ow i) (fun hne=>by
    cases i with
    | zero=>exact absurd rfl hne
    | succ i=>rfl) i (by omega) (by rw [List.length_map,List.length_take]; omega) σ 1 100000 (by omega)
   refine ⟨_,_,hs,by omega,?_⟩
   rw [← fL FL i (by omega),List.map_append]
   rfl)
  (fun e σ ⟨_,he⟩=>by
   subst he
   exact ⟨_,zbbb us _ _,fun _ _ h=>(by cases h),σ,rfl⟩) 0 100000 (Av us [] false 0) σ0 (by omega) (by omega) ⟨by omega,rfl⟩
 subst hr1
 have hfo:=Rq h
 have hlen:∀ l:List Su,(∀ u∈l,u∈us)→(l.flatMap fun u=>(fV u).map eG).length≤1200 * l.length:=by
  intro l
  induction l with
  | nil=>intro _; simp
  | cons x r ih =>
   intro hl
   have h1:=ih fun u hu=>hl u (List.mem_cons_of_mem _ hu)
   have h2:=(hfo x (hl x (List.mem_cons_self ..))).2.2
   rw [List.flatMap_cons,List.length_append,List.length_map,List.length_cons]
   omega
 have hrun:=gI (body:=exec (W (SGC us) 2) 100000 none iW) (fun i=>Jb us (FL.map dR ++ (us.take i).flatMap fun u=>(fV u).map eG) i) (fun _=>σ1) us.length (r:=_) (fun _ _ h=>by cases h) (fun i hi=>by
  have hm:=List.getElem_mem hi
  obtain ⟨f1,f2,f3⟩:=hfo _ hm
  obtain ⟨cf,hf1,hf2⟩:=nP (S:=SGC us) (s:=spGf) rfl rfl (ds:=[dU us[i]]) (c:=⟨false,dUs (fV us[i])⟩) (fun u hu=>by
   simp only [List.cons.injEq,and_true] at hu
   rw [Jt hu]) f1
  rw [hf1 _ rfl] at hf2
  have hll:=hlen (us.take i) fun u hu=>List.mem_of_mem_take hu
  rw [List.length_take] at hll
  have hin:=gI (body:=exec (W (SGC us) 2) 100000 none hZ) (fun j=>Aw us i (fV us[i]) (FL.map dR ++ ((us.take i).flatMap fun u=>(fV u).map eG) ++ ((fV us[i]).take j).map eG) j) (fun _=>σ1) (fV us[i]).length (r:=_) (fun _ _ h=>by cases h) (fun j hj=>by
   have hmj:=List.getElem_mem hj
   obtain ⟨g1,_⟩:=ztu (f2 _ hmj)
   obtain ⟨cc,hc1,hc2⟩:=nP (S:=SGC us) (s:=spGc) rfl rfl (ds:=[dU (fV us[i])[j]]) (c:=⟨false,dD (eG (fV us[i])[j])⟩) (fun u hu=>by
    simp only [List.cons.injEq,and_true] at hu
    rw [Jt hu]) g1
   rw [hc1 _ rfl] at hc2
   have hs:=zyp (C:=W (SGC us) 2) (n:=100000) (σ:=σ1) us i (fV us[i]) (FL.map dR ++ ((us.take i).flatMap fun u=>(fV u).map eG) ++ ((fV us[i]).take j).map eG) j hj (by omega) (by
    rw [List.length_append,List.length_append,List.length_map,List.length_map,List.length_take]
    omega) (eG (fV us[i])[j]) (hc2 1 σ1)
   rw [← fL (fV us[i]) j hj,List.map_append,← List.append_assoc]
   exact hs) (zbcb us i (fV us[i]) _) 0 100000 (by omega) (by omega)
  rw [List.take_length] at hin
  have e0:FL.map dR ++ ((us.take i).flatMap fun u=>(fV u).map eG) ++ ((fV us[i]).take 0).map eG=FL.map dR ++ ((us.take i).flatMap fun u=>(fV u).map eG):=by simp
  simp only [e0] at hin
  have hs:=zyq (C:=W (SGC us) 2) (n:=100000) (σ:=σ1) us i (fV us[i]) _ _ hi (by omega) (hf2 1 σ1) hin
  rw [← fL us i hi,List.flatMap_append,← List.append_assoc,List.flatMap_cons,List.flatMap_nil,List.append_nil]
  exact hs) (zbdb us _) 0 100000 (by omega) (by omega)
 rw [List.take_length] at hrun
 have e0:(FL.map dR ++ (us.take 0).flatMap fun u=>(fV u).map eG)=FL.map dR:=by simp
 simp only [e0] at hrun
 have hcomp:(FL.map dR ++ us.flatMap fun u=>(fV u).map eG)=bW us:=rfl
 rw [hcomp] at hrun
 have hw:=hw2 1 σ0
 have hlF:lenOf (dFs FL)=some 5:=rfl
 have hlU:=Gg us
 have h5:((5:Nat):Int)=5:=rfl
 have hnil:dDs []=.nils:=rfl
 have ow0:ow 0=false:=rfl
 have okD:(dDs (bW us)).ok=true:=dQ
 have onD:(dDs (bW us)).one=true:=bZ
 generalize bW us=cs at *
 generalize FL.map dR=fc at *
 refine ⟨σ1,?_⟩
 simp only [Av,Jb,bV,h5,hnil,ow0] at hr hrun
 simp only [kN,sA,Nat.reduceAdd,Nat.reduceSub,Nat.reduceMul,Nat.reduceBEq,Nat.reduceLeDiff,Int.reduceBEq,Int.reduceBNe,Int.reduceLE,Int.reduceLT,Int.reduceGE,Int.reduceGT,Int.reduceNeg,kn,bF,mB,hw,hlF,hlU,h5,hr,hrun,okD,onD]
theorem zce {us:List Su} (h:CompOK us):OkP Bf [dFs FL,dUs us] ⟨false,.tup [dDs (bW us),.int .i64 0]⟩:=by
 obtain ⟨σ',hr⟩:=zty h
 exact pO (af:=kN) (n:=100000) (σ':=σ') (mX (SGC us) 2) rfl rfl (by simp [aX,sG]; rfl) (by simp [bS,aX,Lo]) hr
end Go.Fu
namespace Go.Fu
open Go Go.Mx
set_option maxRecDepth 10000
end Go.Fu
namespace Go.Fu
open Go Go.Mx
set_option maxRecDepth 10000
set_option maxHeartbeats 4000000
def isN (s:Tx):Bool:=(s == [80,85,83,72,71] || s == [80,65,67,75]) || s == [84,69,83,84]
def isM (s:Tx):Bool:=s == [80,65,67,75] || s == [84,69,83,84,73]
def zol:List Tx:=[[80,85,83,72,73],[80,85,83,72,65],[80,65,67,75],[83,76,73,68,69],[80,79,80],[85,80,68,65,84,69],[65,76,76,79,67],[84,69,83,84],[84,69,83,84,73],[83,80,76,73,84],[74,85,77,80]]
def isK (s:Tx):Bool:=zol.any (· == s)
def jZ (i:In):Tx:=(((32 :: i.op) ++ ifB (isN i.op) (32 :: i.name) []) ++ ifB (isM i.op) (32 :: cE i.m) []) ++ ifB (isK i.op) (32 :: cE i.n) []
theorem zaa {b:Bool} {x:Tx} {n:Nat} (h:x.length≤n):(ifB b x []).length≤n:=by cases b <;> simp [ifB,h]
theorem zbj {B:Nat} {i:In} (h:GI B i):(jZ i).length≤B + 60:=by
 have h1:(ifB (isN i.op) (32 :: i.name) []).length≤B + 1:=zaa (by have:=h.2.2.2; simp; omega)
 have h2:(ifB (isM i.op) (32 :: cE i.m) []).length≤22:=zaa (by have:=nK i.m; simp; omega)
 have h3:(ifB (isK i.op) (32 :: cE i.n) []).length≤22:=zaa (by have:=nK i.n; simp; omega)
 have:=h.1
 simp only [jZ,List.length_append,List.length_cons]
 omega
theorem zbsb (op:Tx) (n m:Int) (nm:Tx) (e:op=[80,85,83,72,71]):jZ ⟨op,n,m,nm⟩=(32 :: op) ++ [32] ++ nm:=by
 subst e
 have h1:isN [80,85,83,72,71]=true:=by decide
 have h2:isM [80,85,83,72,71]=false:=by decide
 have h3:isK [80,85,83,72,71]=false:=by decide
 simp [jZ,h1,h2,h3,ifB]
theorem zbub (op:Tx) (n m:Int) (nm:Tx) (e:op=[80,65,67,75]):jZ ⟨op,n,m,nm⟩=(32 :: op) ++ [32] ++ nm ++ [32] ++ cE m ++ [32] ++ cE n:=by
 subst e
 have h1:isN [80,65,67,75]=true:=by decide
 have h2:isM [80,65,67,75]=true:=by decide
 have h3:isK [80,65,67,75]=true:=by decide
 simp [jZ,h1,h2,h3,ifB]
theorem zbvb (op:Tx) (n m:Int) (nm:Tx) (e:op=[84,69,83,84]):jZ ⟨op,n,m,nm⟩=(32 :: op) ++ [32] ++ nm ++ [32] ++ cE n:=by
 subst e
 have h1:isN [84,69,83,84]=true:=by decide
 have h2:isM [84,69,83,84]=false:=by decide
 have h3:isK [84,69,83,84]=true:=by decide
 simp [jZ,h1,h2,h3,ifB]
theorem zbtb (op:Tx) (n m:Int) (nm:Tx) (e:op=[84,69,83,84,73]):jZ ⟨op,n,m,nm⟩=(32 :: op) ++ [32] ++ cE m ++ [32] ++ cE n:=by
 subst e
 have h1:isN [84,69,83,84,73]=false:=by decide
 have h2:isM [84,69,83,84,73]=true:=by decide
 have h3:isK [84,69,83,84,73]=true:=by decide
 simp [jZ,h1,h2,h3,ifB]
end Go.Fu
