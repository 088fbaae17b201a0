/-
 Terms that are made: numbers' operations,cases.
-/
import Derived.Test.YtldfbnbckiifeaaGreatDoorFgBh
import Derived.Test.YtldfbnbckiifeaaGreatDoorFgIds
set_option maxHeartbeats 4000000
set_option linter.unusedSimpArgs false
set_option linter.unusedVariables false
set_option linter.unusedSectionVars false
namespace Go.Fu
open Go Go.Mx
set_option maxRecDepth 10000
set_option maxHeartbeats 4000000
def all6:List Tx:=[[97,100,100],[115,117,98],[109,117,108],[100,105,118],[101,113],[108,116]]
theorem zlxb:∀ s∈all6,(primM s == [])=false∧s.length≤5:=by decide
theorem zoeb {d:D} {xs:List Int} (hR:IR d xs) (D i:Nat) (hT:TmHas d D) (ns:List Tx) (hp:PT ns (D + 1) i) (hc:pickM xs i % 8=3) (hd:D < 1000) :
  ∃ co j,OkP n_7 [d,.int .i64 i,dSs ns,.int .i64 (D + 1:Nat)] ⟨false,.tup [dCo co,.int .i64 (j:Nat)]⟩∧TmOK ns (D + 1) i co j:=by
 obtain ⟨h0,hl,h5,hi⟩:=hp
 simp only [szN] at hi
 have h1:=zd8 (S:=STm d xs D) rfl hR i (by omega) 0 σ0
 have hv:=zgb hR.small i
 generalize pickM xs i=v at h1 hv hc
 have wi:=zak (i:=i) (by omega)
 have wd:=ziz hd
 have hle:¬ (((D + 1:Nat):Int)≤0):=by omega
 obtain ⟨a,j1,⟨a1,a2,a3,a4,a5⟩,h2⟩:=zgg (S:=STm d xs D) rfl hT (i + 1) ns ⟨h0,by omega,h5,by omega⟩
 obtain ⟨b,j2,⟨b1,b2,b3,b4,b5⟩,h3⟩:=zgg (S:=STm d xs D) rfl hT j1 ns ⟨h0,by omega,h5,by omega⟩
 have h2:=h2 0 σ0
 have h3:=h3 0 σ0
 have d8:((v:Int)).tdiv 8=((v / 8:Nat):Int):=tdivN v 8
 have w8:IntKind.i64.wrap ((v / 8:Nat):Int)=((v / 8:Nat):Int):=zc1 (by omega) (by omega)
 have t6:(((v / 8:Nat):Int)).tmod 6=((v / 8 % 6:Nat):Int):=tmodN _ 6
 have hj:v / 8 % 6 < all6.length:=Nat.mod_lt _ (by decide)
 have hx:=idx_S all6 _ hj
 have hs:=zlxb _ (List.getElem_mem hj)
 generalize all6[v / 8 % 6]=s at hx hs
 have hx:zbj 1 (.list k_0 [.str [97,100,100],.str [115,117,98],.str [109,117,108],.str [100,105,118],.str [101,113],.str [108,116]]) (v / 8 % 6)=some (.eptr (.str s)):=hx
 have hsz:(Co.mk 10 0 s [a,b] [] []).size=1 + a.size + b.size:=by simp only [Co.size,szK,szB,szA]; omega
 refine ⟨.mk 10 0 s [a,b] [] [],j2,tm_mk hR (o:=false) ?_,.prim hs.1 a1 b1,.prim hs.2 a2 b2,by rw [hsz]; simp only [szT]; omega,by simp only [hgt,hgK,hgB,hgA]; omega,by simp only [szN]; omega⟩
 have eC:dCs [a,b]=.list k_2 [dCo a,dCo b]:=rfl
 have t8:((v:Int)).tmod 8=3:=by rw [show ((v:Int)).tmod 8=((v % 8:Nat):Int) from tmodN v 8,hc]; rfl
 rw [za1 (.mk 10 0 s [a,b] [] []),zdh]
 simp only [co,eC]
 simp only [za1,zdh] at h2 h3 ⊢
 simp only [a_22,sA,seval,kn,h1,wi,wd,hle,t8,h2,h3,onel,okl,celll,d8,w8,t6,natI,hx]
 rfl
theorem zocb {d:D} {xs:List Int} (hR:IR d xs) (D i:Nat) (hT:TmHas d D) (ns:List Tx) (hp:PT ns (D + 1) i) (hc:pickM xs i % 8=2) (hd:D < 1000) :
  ∃ co j,OkP n_7 [d,.int .i64 i,dSs ns,.int .i64 (D + 1:Nat)] ⟨false,.tup [dCo co,.int .i64 (j:Nat)]⟩∧TmOK ns (D + 1) i co j:=by
 obtain ⟨h0,hl,h5,hi⟩:=hp
 simp only [szN] at hi
 have h1:=zd8 (S:=STm d xs D) rfl hR i (by omega) 0 σ0
 have hv:=zgb hR.small i
 generalize pickM xs i=v at h1 hv hc
 have wi:=zak (i:=i) (by omega)
 have wd:=ziz hd
 have hle:¬ (((D + 1:Nat):Int)≤0):=by omega
 obtain ⟨a,j1,⟨a1,a2,a3,a4,a5⟩,h2⟩:=zgg (S:=STm d xs D) rfl hT (i + 1) ns ⟨h0,by omega,h5,by omega⟩
 obtain ⟨al,j2,⟨b1,b2,b3⟩,h3⟩:=zl2b (S:=STm d xs D) rfl hR hT hd j1 ns h0 hl h5 (by omega)
 have h2:=h2 0 σ0
 have h3:=h3 0 σ0
 have hsz:(Co.mk 9 0 [] [a] [] al).size=1 + a.size + szA al:=by simp only [Co.size,szK,szB]; omega
 have hh:=zhfb al fun x hx=>(b1 x hx).2.2.2.2.2
 refine ⟨.mk 9 0 [] [a] [] al,j2,tm_mk hR (o:=false) ?_,.cas a1 (fun x hx=>(b1 x hx).1) (fun x hx=>(b1 x hx).2.2.2.1),.cas (by simp) (fun x hx=>⟨(b1 x hx).1.1,(b1 x hx).2.1,(b1 x hx).2.2.1⟩) a2 (fun x hx=>(b1 x hx).2.2.2.2.1),by rw [hsz]; simp only [szT]; omega,by simp only [hgt,hgK,hgB]; omega,by simp only [szN]; omega⟩
 have eC:dCs [a]=.list k_2 [dCo a]:=rfl
 have t8:((v:Int)).tmod 8=2:=by rw [show ((v:Int)).tmod 8=((v % 8:Nat):Int) from tmodN v 8,hc]; rfl
 rw [za1 (.mk 9 0 [] [a] [] al),zdh]
 simp only [co,eC]
 simp only [za1,zdh] at h2 h3 ⊢
 simp only [a_22,sA,seval,kn,h1,wi,wd,hle,t8,h2,h3,onel,okl,celll]
 rfl
end Go.Fu
namespace Go.Fu
open Go Go.Mx
set_option maxRecDepth 10000
set_option maxHeartbeats 4000000
def own2:List Tx:=[[97],[98]]
theorem zs1 (r:Nat) (h:r < 3):zew 1 (.list k_0 [.str [97],.str [98]]) 0 (some r)=some (lS (own2.take r)):=by
 have:r=0∨r=1∨r=2:=by omega
 rcases this with rfl | rfl | rfl <;> rfl
theorem zh6b (r:Nat) (h:r < 3):zc5 (own2.take r)=false:=by
 have:r=0∨r=1∨r=2:=by omega
 rcases this with rfl | rfl | rfl <;> decide
section
variable {C:CallF} {n:Nat} {σ:Store}
def bLet (o:Bool) (bs:List (Tx × Co)):List Cell:=[⟨false,.int .i64 8⟩,⟨false,.int .i64 0⟩,⟨false,.str []⟩,⟨false,.int .i64 0⟩,⟨false,.int .i64 0⟩,⟨false,.str []⟩,⟨false,.nils⟩,⟨false,.nils⟩,⟨o,dBl bs⟩,⟨false,.nils⟩]
def Elt (d:D) (ns:List Tx) (D r:Nat) (bs:List (Tx × Co)) (j k:Nat):Env:={slots:=[(0,⟨false,d⟩),(1,⟨false,.int .i64 j⟩),(2,⟨false,dSs ns⟩),(3,⟨false,.int .i64 (D + 1:Nat)⟩),(20,⟨true,.list k_0 [.str [97],.str [98]]⟩),(21,⟨false,.int .i64 r⟩),(23,⟨false,.int .i64 k⟩)],locs:=[(8,8,0),(22,22,0)],boxes:=[(8,z10),(22,bLet (ow k) bs)],defers:=[]}
theorem zm9b (d:D) (ns:List Tx) (D r:Nat) (bs:List (Tx × Co)) (j k j':Nat) (c:Co) (hk:k < r) (hr:r < 3) (hd:D < 1000) (hb:bs.length < 100) (hne:bs≠[]→ow k=true)
  (h1:C n_16 [dSs ns,lS (own2.take r)] σ=some (.ret ⟨false,dSs (ns ++ own2.take r)⟩,σ))
  (h2:C n_7 [d,.int .i64 j,dSs (ns ++ own2.take r),.int .i64 D] σ=some (.ret ⟨false,.tup [dCo c,.int .i64 j']⟩,σ)) :
  exec C n none a_88 (Elt d ns D r bs j k) σ=some (.normal,Elt d ns D r (bs ++ [(own2.getD k [],c)]) j' (k + 1),σ):=by
 have hlt:((k:Int) < (r:Int)):=by omega
 have wd:=ziz hd
 have wk:=zak (i:=k) (by omega)
 have hs:=zs1 r hr
 have ho:k < own2.length:=by simp [own2]; omega
 have hx:=idx_S own2 k ho
 rw [← za5 own2 k [] ho] at hx
 have ha:=appB1 bs (own2.getD k [],c) (ow k) hne (by omega)
 rw [dB_eq] at ha
 generalize own2.getD k []=s at hx ha
 have hx:zbj 1 (.list k_0 [.str [97],.str [98]]) k=some (.eptr (.str s)):=hx
 simp only [za1,zdh] at h2 ha
 simp only [a_88,Elt,bLet,z10,sA,seval,kn,hlt,natI,hs,h1,wd,h2,hx,ha,wk,onel,okl,celll,zcp,zdx]
theorem zpmb (d:D) (ns:List Tx) (D r:Nat) (bs:List (Tx × Co)) (j:Nat):exec C n none a_88 (Elt d ns D r bs j r) σ=some (.exit 1,{Elt d ns D r bs j r with slots:=[(0,⟨false,d⟩),(1,⟨false,.int .i64 j⟩),(2,⟨false,dSs ns⟩),(3,⟨false,.int .i64 (D + 1:Nat)⟩),(20,⟨true,.list k_0 [.str [97],.str [98]]⟩),(21,⟨false,.int .i64 r⟩),(23,⟨false,.int .i64 r⟩),(116,⟨false,.bool false⟩)]},σ):=by
 have hlt:¬ ((r:Int) < (r:Int)):=by omega
 simp only [a_88,Elt,sA,seval,kn,hlt]
end
theorem zp9b {d:D} {xs:List Int} (hR:IR d xs) (D i:Nat) (hT:TmHas d D) (ns:List Tx) (hp:PT ns (D + 1) i) (hc:pickM xs i % 8=4) (hd:D < 1000) :
  ∃ co j,OkP n_7 [d,.int .i64 i,dSs ns,.int .i64 (D + 1:Nat)] ⟨false,.tup [dCo co,.int .i64 (j:Nat)]⟩∧TmOK ns (D + 1) i co j:=by
 obtain ⟨h0,hl,h5,hi⟩:=hp
 simp only [szN] at hi
 have h1:=zd8 (S:=STm d xs D) rfl hR i (by omega) 0 σ0
 have hv:=zgb hR.small i
 generalize pickM xs i=v at h1 hv hc
 have wi:=zak (i:=i) (by omega)
 have wd:=ziz hd
 have hle:¬ (((D + 1:Nat):Int)≤0):=by omega
 have d8:((v:Int)).tdiv 8=((v / 8:Nat):Int):=tdivN v 8
 have w8:IntKind.i64.wrap ((v / 8:Nat):Int)=((v / 8:Nat):Int):=zc1 (by omega) (by omega)
 have t3:(((v / 8:Nat):Int)).tmod 3=((v / 8 % 3:Nat):Int):=tmodN _ 3
 have hr3:v / 8 % 3 < 3:=Nat.mod_lt _ (by decide)
 have t8:((v:Int)).tmod 8=4:=by rw [show ((v:Int)).tmod 8=((v % 8:Nat):Int) from tmodN v 8,hc]; rfl
 generalize v / 8 % 3=r at t3 hr3
 have hol:(own2.take r).length≤2:=by simp [own2]; omega
 have hb:=zsc (S:=STm d xs D) rfl ns (own2.take r) (by omega) 0 σ0
 have hn5:∀ s∈ns ++ own2.take r,s.length≤5:=fun s hs=>by
  rcases List.mem_append.1 hs with h | h
  ·exact h5 s h
  ·have:=List.mem_of_mem_take h
   simp only [own2,List.mem_cons,List.not_mem_nil,or_false] at this
   rcases this with rfl | rfl <;> simp
 have hn0:ns ++ own2.take r≠[]:=by simp [h0]
 have hnl:(ns ++ own2.take r).length + 2 * D≤100:=by rw [List.length_append]; omega
 obtain ⟨res,hr,bs,j,rfl,q1,q2,q3,q4⟩:=zg9 (body:=exec (T (STm d xs D) 1) 5 none a_88)
  (fun k e σ=>σ=σ0∧∃ bs j,e=Elt d ns D r bs j k∧bs.map Prod.fst=own2.take k∧(∀ p∈bs,Good (ns ++ own2.take r) p.2∧Shp 5 p.2∧hgt p.2≤D + 1)∧szB bs≤k * (szT D + 1)∧j≤i + 1 + k * szN D)
  (fun res=>∃ bs j,res=(.exit 1,{Elt d ns D r bs j r with slots:=[(0,⟨false,d⟩),(1,⟨false,.int .i64 j⟩),(2,⟨false,dSs ns⟩),(3,⟨false,.int .i64 (D + 1:Nat)⟩),(20,⟨true,.list k_0 [.str [97],.str [98]]⟩),(21,⟨false,.int .i64 r⟩),(23,⟨false,.int .i64 r⟩),(116,⟨false,.bool false⟩)]},σ0)∧bs.map Prod.fst=own2.take r∧(∀ p∈bs,Good (ns ++ own2.take r) p.2∧Shp 5 p.2∧hgt p.2≤D + 1)∧szB bs≤r * (szT D + 1)∧j≤i + 1 + r * szN D) r
  (fun k e σ hk ⟨hσ,bs,j,he,p1,p2,p3,p4⟩=>by
   subst hσ he
   have hkm:(k + 1) * szN D≤2 * szN D:=Nat.mul_le_mul_right _ (by omega)
   rw [Nat.succ_mul] at hkm
   obtain ⟨c,j',⟨a1,a2,a3,a4,a5⟩,h2⟩:=zgg (S:=STm d xs D) rfl hT j (ns ++ own2.take r) ⟨hn0,hnl,hn5,by omega⟩
   have hlb:bs.length=(own2.take k).length:=by rw [← p1,List.length_map]
   have hlk:(own2.take k).length≤2:=by simp [own2]; omega
   have hko:k < own2.length:=by simp [own2]; omega
   refine ⟨_,_,zm9b d ns D r bs j k j' c hk hr3 hd (by omega) (fun h=>?_) hb (h2 0 σ0),rfl,_,_,rfl,?_,fun p hp=>?_,?_,?_⟩
   ·cases k with
    | zero=>exact absurd (List.length_eq_zero_iff.1 (by rw [hlb]; rfl)) h
    | succ k=>rfl
   ·rw [List.map_append,p1,← zb3 own2 k hko,← za5 own2 k [] hko]
    rfl
   ·rcases List.mem_append.1 hp with h | h
    ·exact p2 p h
    ·rw [List.mem_singleton.1 h]
     exact ⟨a1,a2,a4⟩
   ·rw [zflb,Nat.succ_mul]
    simp only [szB]
    omega
   ·rw [Nat.succ_mul]; omega)
  (fun e σ ⟨hσ,bs,j,he,p1,p2,p3,p4⟩=>by
   subst hσ he
   exact ⟨_,zpmb d ns D r bs j,fun _ _ h=>(by cases h),bs,j,rfl,p1,p2,p3,p4⟩) 0 5 (Elt d ns D r [] (i + 1) 0) σ0 (by omega) (by omega)
  ⟨rfl,_,_,rfl,rfl,(fun a h=>by cases h),by simp [szB],by omega⟩
 have hm1:r * (szT D + 1)≤2 * (szT D + 1):=Nat.mul_le_mul_right _ (by omega)
 have hm2:r * szN D≤2 * szN D:=Nat.mul_le_mul_right _ (by omega)
 obtain ⟨b,j2,⟨b1,b2,b3,b4,b5⟩,h3⟩:=zgg (S:=STm d xs D) rfl hT j (ns ++ own2.take r) ⟨hn0,hnl,hn5,by omega⟩
 have h3:=h3 0 σ0
 have hsz:(Co.mk 8 0 [] [b] bs []).size=1 + b.size + szB bs:=by simp only [Co.size,szK,szA]; omega
 have hh:=zhgb bs fun x hx=>(q2 x hx).2.2
 refine ⟨.mk 8 0 [] [b] bs [],j2,tm_mk hR (o:=false) ?_,.lt (by rw [q1]; exact zh6b r hr3) (fun p hp=>by rw [q1]; exact (q2 p hp).1) (by rw [q1]; exact b1),.lt (by simp) (fun p hp=>?_) (fun p hp=>(q2 p hp).2.1) b2,by rw [hsz]; simp only [szT]; omega,by simp only [hgt,hgK,hgA]; omega,by simp only [szN]; omega⟩
 ·have eC:dCs [b]=.list k_2 [dCo b]:=rfl
  rw [za1 (.mk 8 0 [] [b] bs []),zdh]
  simp only [co,eC]
  have e0:ow 0=false:=rfl
  have e1:dBl []=.nils:=rfl
  have hs:=zs1 r hr3
  simp only [Elt,bLet,z10,zeroI,e0,e1] at hr
  simp only [za1,zdh] at h3 ⊢
  simp only [a_22,sA,seval,kn,h1,wi,wd,hle,t8,d8,w8,t3,hr,natI,hs,hb,h3,onel,okl,celll]
  rfl
 ·have:p.1∈own2.take r:=by rw [← q1]; exact List.mem_map_of_mem hp
  exact hn5 _ (List.mem_append.2 (.inr this))
end Go.Fu
namespace Go.Fu
open Go Go.Mx
set_option maxRecDepth 10000
set_option maxHeartbeats 4000000
theorem zivb {d:D} {xs:List Int} (hR:IR d xs):∀ deep,deep < 1000→TmHas d deep
 | 0,h=>fun i ns hp=>zddb hR 0 i ns hp (.inl rfl) h
 | D + 1,h=>fun i ns hp=>by
  have ih:=zivb hR D (by omega)
  have h8:pickM xs i % 8 < 2∨pickM xs i % 8=2∨pickM xs i % 8=3∨pickM xs i % 8=4∨pickM xs i % 8=5∨(pickM xs i % 8=6∨pickM xs i % 8=7):=by omega
  rcases h8 with q | q | q | q | q | q
  ·exact zddb hR (D + 1) i ns hp (.inr q) h
  ·exact zocb hR D i ih ns hp q (by omega)
  ·exact zoeb hR D i ih ns hp q (by omega)
  ·exact zp9b hR D i ih ns hp q (by omega)
  ·exact zodb hR D i ns hp q (by omega)
  ·exact zp8b hR D i ih ns hp q (by omega)
def all4:List Tx:=[[102],[103],[104],[120]]
def own3:List Tx:=[[120],[121],[122]]
def lAll:D:=.list k_0 [.str [102],.str [103],.str [104],.str [120]]
def lOwn:D:=.list k_0 [.str [120],.str [121],.str [122]]
theorem zdfb (m:Nat) (h:m < 4):zew 1 lAll 0 (some (m + 1))=some (dSs (all4.take (m + 1))):=by
 have:m=0∨m=1∨m=2∨m=3:=by omega
 rcases this with rfl | rfl | rfl | rfl <;> rfl
theorem zewb (k:Nat) (h:k < 4):zew 1 lOwn 0 (some k)=some (lS (own3.take k)):=by
 have:k=0∨k=1∨k=2∨k=3:=by omega
 rcases this with rfl | rfl | rfl | rfl <;> rfl
theorem zh7b (k:Nat) (h:k < 4):zc5 (own3.take k)=false:=by
 have:k=0∨k=1∨k=2∨k=3:=by omega
 rcases this with rfl | rfl | rfl | rfl <;> decide
theorem zf7b (m:Nat) (h:m < 4):zc5 (FL.map Fd.name ++ all4.take (m + 1))=false:=by
 have:m=0∨m=1∨m=2∨m=3:=by omega
 rcases this with rfl | rfl | rfl | rfl <;> decide
section
variable {C:CallF} {n:Nat} {σ:Store}
def Emd (d:D) (m:Nat) (us:List Su) (j i:Nat):Env:={slots:=[(0,⟨false,d⟩),(3,⟨true,lAll⟩),(4,⟨true,lOwn⟩),(5,⟨false,.int .i64 (m + 1:Nat)⟩),(6,⟨false,.int .i64 j⟩),(7,⟨ow i,dUs us⟩),(8,⟨false,.int .i64 i⟩)],locs:=[],boxes:=[],defers:=[]}
theorem zneb (d:D) (m:Nat) (us:List Su) (j i v j':Nat) (c:Co) (hi:i < m + 1) (hm:m < 4) (hj:j < 1000000) (hul:us.length < 100) (hne:us≠[]→ow i=true)
  (h1:C n_20 [d,.int .i64 j] σ=some (.ret ⟨false,.int .i64 v⟩,σ))
  (h2:C n_16 [dSs (all4.take (m + 1)),lS (own3.take (v % 4))] σ=some (.ret ⟨false,dSs (all4.take (m + 1) ++ own3.take (v % 4))⟩,σ))
  (h3:C n_7 [d,.int .i64 (j + 1:Nat),dSs (all4.take (m + 1) ++ own3.take (v % 4)),.int .i64 4] σ=some (.ret ⟨false,.tup [dCo c,.int .i64 j']⟩,σ)) :
  exec C n none a_66 (Emd d m us j i) σ=some (.normal,Emd d m (us ++ [⟨all4.getD i [],own3.take (v % 4),c⟩]) j' (i + 1),σ):=by
 have hlt:((i:Int) < ((m + 1:Nat):Int)):=by omega
 have t4:((v:Int)).tmod 4=((v % 4:Nat):Int):=tmodN v 4
 have hv4:v % 4 < 4:=Nat.mod_lt _ (by decide)
 have wj:=zak (i:=j) (by omega)
 have wi:=zak (i:=i) (by omega)
 have hs1:=zdfb m hm
 have hs2:=zewb (v % 4) hv4
 have ho:i < all4.length:=by simp [all4]; omega
 have hx:=idx_S all4 i ho
 rw [← za5 all4 i [] ho] at hx
 have ap:za4 k_0 16 ⟨false,.nils⟩ ((own3.take (v % 4)).map D.str)=some ⟨true,dSs (own3.take (v % 4))⟩:=appS0 _ false (by simp [own3]; omega)
 have ha:=appU1 us ⟨all4.getD i [],own3.take (v % 4),c⟩ (ow i) hne (by omega)
 have has:zbw (lS (own3.take (v % 4)))=some ((own3.take (v % 4)).map D.str):=rfl
 rw [dU_eq,cU] at ha
 generalize all4.getD i []=s at hx ha
 have hx:zbj 1 lAll i=some (.eptr (.str s)):=hx
 generalize own3.take (v % 4)=o3 at *
 simp only [za1,zdh] at h3 ha
 simp only [a_66,Emd,sA,seval,kn,hlt,natI,hs1,hs2,h1,h2,t4,wj,h3,hx,ha,has,ap,wi,onel,okl,celll,zcp,zdx]
theorem zpnb (d:D) (m:Nat) (us:List Su) (j:Nat):exec C n none a_66 (Emd d m us j (m + 1)) σ=some (.exit 0,{Emd d m us j (m + 1) with slots:=[(0,⟨false,d⟩),(3,⟨true,lAll⟩),(4,⟨true,lOwn⟩),(5,⟨false,.int .i64 (m + 1:Nat)⟩),(6,⟨false,.int .i64 j⟩),(7,⟨true,dUs us⟩),(8,⟨false,.int .i64 (m + 1:Nat)⟩),(26,⟨false,.bool false⟩)]},σ):=by
 have hlt:¬ (((m + 1:Nat):Int) < ((m + 1:Nat):Int)):=by omega
 simp only [a_66,Emd,sA,seval,kn,hlt,zdx]
end
end Go.Fu
namespace Go.Fu
open Go Go.Mx
set_option maxRecDepth 10000
set_option maxHeartbeats 4000000
def SMd (d:D) (xs:List Int):Specs:=[(n_20,ztd d xs),(n_16,zp0),(n_7,spTm d 4)]
def zon (us:List Su):Prop:=GoodP us∧us.length≤4∧∀ u∈us,PreU 5 200 u∧u.body.size≤1200
theorem zu8 {d:D} {xs:List Int} (hR:IR d xs):∃ (m:Nat) (us:List Su) (j:Nat),m < 4∧(∀ σ,T (SMd d xs) 1 n_20 [d,.int .i64 0] σ=some (.ret ⟨false,.int .i64 (pickM xs 0:Nat)⟩,σ))∧m=pickM xs 0 % 4 ∧
  loopN (exec (T (SMd d xs) 1) 6 none a_66) 6 (Emd d m [] 1 0) σ0=some (.exit 0,{Emd d m us j (m + 1) with slots:=[(0,⟨false,d⟩),(3,⟨true,lAll⟩),(4,⟨true,lOwn⟩),(5,⟨false,.int .i64 (m + 1:Nat)⟩),(6,⟨false,.int .i64 j⟩),(7,⟨true,dUs us⟩),(8,⟨false,.int .i64 (m + 1:Nat)⟩),(26,⟨false,.bool false⟩)]},σ0)∧zon us∧us.map Su.name=all4.take (m + 1):=by
 have hp0:∀ σ,T (SMd d xs) 1 n_20 [d,.int .i64 0] σ=some (.ret ⟨false,.int .i64 (pickM xs 0:Nat)⟩,σ):=fun σ=>zd8 (S:=SMd d xs) rfl hR 0 (by omega) 0 σ
 obtain ⟨m,hm⟩:∃ m,m=pickM xs 0 % 4:=⟨_,rfl⟩
 have hm4:m < 4:=by rw [hm]; exact Nat.mod_lt _ (by decide)
 have hN:szN 4=681:=rfl
 have hT4:szT 4=1106:=rfl
 have hal:(all4.take (m + 1)).length=m + 1:=by simp [all4]; omega
 obtain ⟨r,hr,us,j,rfl,q1,q2⟩:=zg9 (body:=exec (T (SMd d xs) 1) 6 none a_66)
  (fun i e σ=>σ=σ0∧∃ us j,e=Emd d m us j i∧us.map Su.name=all4.take i∧j≤1 + i * 682∧∀ u∈us,∃ k,k < 4∧u.ps=own3.take k∧u.name.length=1∧Good (all4.take (m + 1) ++ u.ps) u.body∧Shp 5 u.body∧u.body.size≤1106∧hgt u.body≤5)
  (fun r=>∃ us j,r=(.exit 0,{Emd d m us j (m + 1) with slots:=[(0,⟨false,d⟩),(3,⟨true,lAll⟩),(4,⟨true,lOwn⟩),(5,⟨false,.int .i64 (m + 1:Nat)⟩),(6,⟨false,.int .i64 j⟩),(7,⟨true,dUs us⟩),(8,⟨false,.int .i64 (m + 1:Nat)⟩),(26,⟨false,.bool false⟩)]},σ0)∧us.map Su.name=all4.take (m + 1)∧∀ u∈us,∃ k,k < 4∧u.ps=own3.take k∧u.name.length=1∧Good (all4.take (m + 1) ++ u.ps) u.body∧Shp 5 u.body∧u.body.size≤1106∧hgt u.body≤5) (m + 1)
  (fun i e σ hi ⟨hσ,us,j,he,p1,p2,p3⟩=>by
   subst hσ he
   have h1:=zd8 (S:=SMd d xs) rfl hR j (by omega) 0 σ0
   generalize pickM xs j=v at h1
   have hv4:v % 4 < 4:=Nat.mod_lt _ (by decide)
   have hol:(own3.take (v % 4)).length≤3:=by simp [own3]; omega
   have h2:=zsc (S:=SMd d xs) rfl (all4.take (m + 1)) (own3.take (v % 4)) (by omega) 0 σ0
   have hlu:us.length=(all4.take i).length:=by rw [← p1,List.length_map]
   have hli:(all4.take i).length≤4:=by simp [all4]; omega
   have hio:i < all4.length:=by simp [all4]; omega
   obtain ⟨c,j',⟨a1,a2,a3,a4,a5⟩,h3⟩:=zgg (S:=SMd d xs) rfl (zivb hR 4 (by omega)) (j + 1) (all4.take (m + 1) ++ own3.take (v % 4)) ⟨fun h=>by
     have:=congrArg List.length h
     rw [List.length_append,hal] at this
     simp at this,by rw [List.length_append,hal]; omega,fun s hs=>by
     rcases List.mem_append.1 hs with h | h
     ·have:=List.mem_of_mem_take h
      simp only [all4,List.mem_cons,List.not_mem_nil,or_false] at this
      rcases this with rfl | rfl | rfl | rfl <;> simp
     ·have:=List.mem_of_mem_take h
      simp only [own3,List.mem_cons,List.not_mem_nil,or_false] at this
      rcases this with rfl | rfl | rfl <;> simp,by omega⟩
   have hng:(all4.getD i []).length=1:=by
    rw [za5 all4 i [] hio]
    have:=List.getElem_mem hio
    generalize all4[i]=s at this
    simp only [all4,List.mem_cons,List.not_mem_nil,or_false] at this
    rcases this with rfl | rfl | rfl | rfl <;> rfl
   refine ⟨_,_,zneb d m us j i v j' c hi hm4 (by omega) (by omega) (fun h=>?_) h1 h2 (h3 0 σ0),rfl,_,_,rfl,?_,by omega,fun u hu=>?_⟩
   ·cases i with
    | zero=>exact absurd (List.length_eq_zero_iff.1 (by rw [hlu]; rfl)) h
    | succ i=>rfl
   ·rw [List.map_append,p1,← zb3 all4 i hio,← za5 all4 i [] hio]
    rfl
   ·rcases List.mem_append.1 hu with h | h
    ·exact p3 u h
    ·rw [List.mem_singleton.1 h]
     exact ⟨v % 4,hv4,rfl,hng,a1,a2,by simp only; omega,by simp only; omega⟩)
  (fun e σ ⟨hσ,us,j,he,p1,p2,p3⟩=>by
   subst hσ he
   exact ⟨_,zpnb d m us j,fun _ _ h=>(by cases h),us,j,rfl,p1,p3⟩) 0 6 (Emd d m [] 1 0) σ0 (by omega) (by omega)
  ⟨rfl,_,_,rfl,rfl,by omega,(fun a h=>by cases h)⟩
 have hul:us.length=m + 1:=by rw [← hal,← q1,List.length_map]
 refine ⟨m,us,j,hm4,hp0,hm,hr,⟨⟨by omega,by rw [q1]; exact zf7b m hm4,fun u hu=>?_,fun u hu=>?_⟩,by omega,fun u hu=>?_⟩,q1⟩
 ·obtain ⟨k,hk,e,_⟩:=q2 u hu
  rw [e]
  exact ⟨zh7b k hk,by simp [own3]; omega⟩
 ·obtain ⟨k,hk,e,h1,h2,h3,h4,h5⟩:=q2 u hu
  rw [q1]
  exact ⟨h2,by omega⟩
 ·obtain ⟨k,hk,e,h1,h2,h3,h4,h5⟩:=q2 u hu
  have hpl:u.ps.length≤3:=by rw [e]; simp [own3]; omega
  exact ⟨⟨h3,by omega,by omega,by omega⟩,by omega⟩
theorem zndb {d:D} {xs:List Int} (hR:zwt k_int d xs) (hS:∀ x∈xs,Small x):∃ us,OkP n_193 [d] ⟨false,dUs us⟩∧zon us∧∃ m,m < 4∧us.map Su.name=all4.take (m + 1):=by
 have mkIR:∀ ys:List Int,(∀ x∈ys,Small x)→IR (.list k_int (ys.map fun x=>.int .i64 x)) ys:=fun ys hs=>by
  refine ⟨by simp [lenOf],fun i h=>?_,by rw [noPtr]; exact zc6 (fun _=>rfl) ys,hs⟩
  have hn:nth (ys.map fun x=>D.int .i64 x) i=some (.int .i64 ys[i]):=by rw [zl6,zl5 _ _ h]; rfl
  have hk:(k_int.sz == 1)=true:=rfl
  rw [idxL,hk,hn]
  rfl
 have e0:ow 0=false:=rfl
 have e1:dUs []=.nils:=rfl
 have hI:IR d xs:=by
  rcases hR with rfl | ⟨rfl,rfl⟩
  ·exact mkIR xs hS
  ·exact ⟨rfl,fun i h=>by simp at h,rfl,hS⟩
 by_cases hl:xs.length≤80
 ·obtain ⟨m,us,j,hm,hp,hpm,hr,hok,hnm⟩:=zu8 hI
  refine ⟨us,OkP.weak (o:=true) rfl (zbv (af:=a_87) (n:=6) (σ':=σ0) (zb5 (SMd d xs) 1) rfl rfl (by simp [zam,hI.np]) (zhc _) ?_),hok,m,hm,hnm⟩
  have hg:¬ ((80:Int) < (xs.length:Int)):=by omega
  have t4:((pickM xs 0:Nat):Int).tmod 4=(m:Int):=by rw [hpm]; exact tmodN _ 4
  have wm:=zak (i:=m) (by omega)
  have hp:=hp σ0
  generalize pickM xs 0=v at hp t4
  simp only [Emd,zeroI,oneI,e0,e1,lAll,lOwn] at hr
  simp only [a_87,sA,seval,kn,hI.len,hg,hp,t4,wm,hr]
 ·rcases hR with rfl | ⟨rfl,rfl⟩
  ·have hI2:=mkIR (xs.take 80) fun x hx=>hS x (List.mem_of_mem_take hx)
   obtain ⟨m,us,j,hm,hp,hpm,hr,hok,hnm⟩:=zu8 hI2
   refine ⟨us,OkP.weak (o:=true) rfl (zbv (af:=a_87) (n:=6) (σ':=σ0) (zb5 (SMd (.list k_int ((xs.take 80).map fun x=>.int .i64 x)) (xs.take 80)) 1) rfl rfl (by simp only [zam,hI.np]; rfl) (zhc _) ?_),hok,m,hm,hnm⟩
   have hg:((80:Int) < (xs.length:Int)):=by omega
   have t4:((pickM (xs.take 80) 0:Nat):Int).tmod 4=(m:Int):=by rw [hpm]; exact tmodN _ 4
   have wm:=zak (i:=m) (by omega)
   have hsl:zew 1 (.list k_int (xs.map fun x=>.int .i64 x)) 0 (some 80)=some (.list k_int ((xs.take 80).map fun x=>.int .i64 x)):=by
    have h1:decide (0≤80)=true:=rfl
    have h2:decide (80≤(xs.map fun x=>D.int .i64 x).length)=true:=by simp; omega
    have h3:(k_int.sz == 1)=true:=rfl
    simp only [zew,Option.getD_some,h2,h3,List.drop_zero,Nat.sub_zero,List.map_take]
    rfl
   have hp:=hp σ0
   have hlen:=hI.len
   generalize pickM (xs.take 80) 0=v at hp t4
   generalize D.list k_int ((xs.take 80).map fun x=>D.int .i64 x)=d2 at *
   generalize D.list k_int (xs.map fun x=>D.int .i64 x)=d1 at *
   have n80:∀ {k:IntKind},D.nat? (.int k 80)=some 80:=rfl
   simp only [Emd,zeroI,oneI,e0,e1,lAll,lOwn] at hr
   simp only [a_87,sA,seval,kn,hlen,hg,hsl,n80,hp,t4,wm,hr]
  ·exact absurd (Nat.zero_le 80) hl
end Go.Fu
namespace Go.Fu
open Go Go.Mx
set_option maxRecDepth 10000
set_option maxHeartbeats 4000000
def isN (s:Tx):Bool:=(s == [80,85,83,72,71] || s == [80,65,67,75]) || s == [84,69,83,84]
def isM (s:Tx):Bool:=s == [80,65,67,75] || s == [84,69,83,84,73]
def nums:List Tx:=[[80,85,83,72,73],[80,85,83,72,65],[80,65,67,75],[83,76,73,68,69],[80,79,80],[85,80,68,65,84,69],[65,76,76,79,67],[84,69,83,84],[84,69,83,84,73],[83,80,76,73,84],[74,85,77,80]]
def isK (s:Tx):Bool:=nums.any (· == s)
def lineM (i:In):Tx:=(((32 :: i.op) ++ ifB (isN i.op) (32 :: i.name) []) ++ ifB (isM i.op) (32 :: itoaN i.m) []) ++ ifB (isK i.op) (32 :: itoaN i.n) []
theorem zt2 {b:Bool} {x:Tx} {n:Nat} (h:x.length≤n):(ifB b x []).length≤n:=by cases b <;> simp [ifB,h]
theorem zu5 {B:Nat} {i:In} (h:GI B i):(lineM i).length≤B + 60:=by
 have h1:(ifB (isN i.op) (32 :: i.name) []).length≤B + 1:=zt2 (by have:=h.2.2.2; simp; omega)
 have h2:(ifB (isM i.op) (32 :: itoaN i.m) []).length≤22:=zt2 (by have:=zff i.m; simp; omega)
 have h3:(ifB (isK i.op) (32 :: itoaN i.n) []).length≤22:=zt2 (by have:=zff i.n; simp; omega)
 have:=h.1
 simp only [lineM,List.length_append,List.length_cons]
 omega
theorem zphb (op:Tx) (n m:Int) (nm:Tx) (e:op=[80,85,83,72,71]):lineM ⟨op,n,m,nm⟩=(32 :: op) ++ [32] ++ nm:=by
 subst e
 have h1:isN [80,85,83,72,71]=true:=by decide
 have h2:isM [80,85,83,72,71]=false:=by decide
 have h3:isK [80,85,83,72,71]=false:=by decide
 simp [lineM,h1,h2,h3,ifB]
theorem zpjb (op:Tx) (n m:Int) (nm:Tx) (e:op=[80,65,67,75]):lineM ⟨op,n,m,nm⟩=(32 :: op) ++ [32] ++ nm ++ [32] ++ itoaN m ++ [32] ++ itoaN n:=by
 subst e
 have h1:isN [80,65,67,75]=true:=by decide
 have h2:isM [80,65,67,75]=true:=by decide
 have h3:isK [80,65,67,75]=true:=by decide
 simp [lineM,h1,h2,h3,ifB]
theorem zpkb (op:Tx) (n m:Int) (nm:Tx) (e:op=[84,69,83,84]):lineM ⟨op,n,m,nm⟩=(32 :: op) ++ [32] ++ nm ++ [32] ++ itoaN n:=by
 subst e
 have h1:isN [84,69,83,84]=true:=by decide
 have h2:isM [84,69,83,84]=false:=by decide
 have h3:isK [84,69,83,84]=true:=by decide
 simp [lineM,h1,h2,h3,ifB]
theorem zpib (op:Tx) (n m:Int) (nm:Tx) (e:op=[84,69,83,84,73]):lineM ⟨op,n,m,nm⟩=(32 :: op) ++ [32] ++ itoaN m ++ [32] ++ itoaN n:=by
 subst e
 have h1:isN [84,69,83,84,73]=false:=by decide
 have h2:isM [84,69,83,84,73]=true:=by decide
 have h3:isK [84,69,83,84,73]=true:=by decide
 simp [lineM,h1,h2,h3,ifB]
end Go.Fu
