/-
 Small functions of the document's answer: names in lists,instructions,environments.
-/
import Derived.Test.YtldfbnbckiifeaaGreatDoorFgT
set_option maxHeartbeats 4000000
set_option linter.unusedSimpArgs false
set_option linter.unusedVariables false
set_option linter.unusedSectionVars false
namespace Go.Fu
open Go Go.Mx
set_option maxRecDepth 10000
theorem zrd {body:Env→Store→mS} (E:Nat→Env) (σ:Store) (k:Nat) (q:Nat→Bool) {stop r:AExit × Env × Store} (hr:∀ e σ,r≠(.normal,e,σ)) (hs:∀ e σ,stop≠(.normal,e,σ))
  (hstep:∀ i,i < k→q i=false→body (E i) σ=some (.normal,E (i + 1),σ)) (hstop:∀ i,i < k→q i=true→body (E i) σ=some stop) (hend:body (E k) σ=some r) (n:Nat) (hn:k < n):gU body n (E 0) σ=some (ifB ((List.range k).any q) stop r):=by
 rcases xN (body:=body) E (fun _=>σ) k (fun i=>!q i) (r:=r) (fun _=>stop) hr (fun _=>hs) (fun i hi hq=>hstep i hi (by simpa using hq)) (fun i hi hq=>hstop i hi (by simpa using hq)) hend n 0 (Nat.zero_le _) (by omega) with ⟨i,_,hi,hq,_,h⟩ | ⟨hq,h⟩
 ·have:(List.range k).any q=true:=List.any_eq_true.2 ⟨i,List.mem_range.2 hi,by simpa using hq⟩
  rw [h,this]
  rfl
 ·have:(List.range k).any q=false:=by
   rw [List.any_eq_false]
   intro i hi
   have:=hq i (Nat.zero_le _) (List.mem_range.1 hi)
   simpa using this
  rw [h,this]
  rfl
theorem eY {α:Type} (l:List α) (i:Nat) (d:α) (h:i < l.length):l.getD i d=l[i]:=by simp [List.getD_eq_getElem?_getD,List.getElem?_eq_getElem h]
theorem zth {α:Type} (l:List α) (d:α) (q:α→Bool):((List.range l.length).any fun i=>q (l.getD i d))=l.any q:=by
 rw [Bool.eq_iff_iff,List.any_eq_true,List.any_eq_true]
 constructor
 ·rintro ⟨i,hi,h⟩
  have hi:=List.mem_range.1 hi
  rw [eY _ _ _ hi] at h
  exact ⟨_,aX hi,h⟩
 ·rintro ⟨x,hx,h⟩
  obtain ⟨i,hi,rfl⟩:=List.getElem_of_mem hx
  exact ⟨i,List.mem_range.2 hi,by rw [eY _ _ _ hi]; exact h⟩
section
variable {C:dQ} {n:Nat} {σ:Store}
def Ein (l:List Tx) (s:Tx) (i:Nat):Env:={slots:=[(0,⟨false,dSs l⟩),(1,⟨false,.str s⟩),(5,⟨false,.int .i64 i⟩)],locs:=[],boxes:=[],defers:=[]}
theorem zcmb (l:List Tx) (s:Tx) (i:Nat) (h:i < l.length) (hl:l.length < 1000000000) (hq:(l.getD i [] == s)=false):exec C n none Nw (Ein l s i) σ=some (.normal,Ein l s (i + 1),σ):=by
 rw [eY _ _ _ h] at hq
 have hi:((i:Int) < (l.length:Int)):=by omega
 simp only [Nw,Ein,sA,seval,kn,mO,hi,fL,rW l i h,hq,dV (i:=i) (by omega)]
theorem zcnb (l:List Tx) (s:Tx) (i:Nat) (h:i < l.length) (hq:(l.getD i [] == s)=true):exec C n none Nw (Ein l s i) σ=some (.ret,{slots:=[(4,⟨false,.bool true⟩)],locs:=[],boxes:=[],defers:=[]},σ):=by
 rw [eY _ _ _ h] at hq
 have hi:((i:Int) < (l.length:Int)):=by omega
 simp only [Nw,Ein,sA,seval,kn,mO,hi,fL,rW l i h,hq]
theorem zfeb (l:List Tx) (s:Tx):exec C n none Nw (Ein l s l.length) σ=some (.exit 0,{Ein l s l.length with slots:=[(0,⟨false,dSs l⟩),(1,⟨false,.str s⟩),(5,⟨false,.int .i64 l.length⟩),(9,⟨false,.bool false⟩)]},σ):=by
 have hi:¬ ((l.length:Int) < (l.length:Int)):=by omega
 simp only [Nw,Ein,sA,seval,kn,mO,hi]
end
theorem zclb (l:List Tx) (s:Tx) (hl:l.length < 1000000000):OkP Zp [dSs l,.str s] ⟨false,.bool (l.any (· == s))⟩:=by
 refine hU (af:=Yc) (n:=l.length + 1) (σ':=σ0) (iT [] 0) rfl rfl (by simp [eB,fQ,eT]) rfl ?_
 have h:=zrd (body:=exec (T [] 0) (l.length + 1) none Nw) (Ein l s) σ0 l.length (fun i=>l.getD i [] == s) (fun _ _ h=>by cases h) (fun _ _ h=>by cases h) (fun i hi hq=>zcmb l s i hi hl hq) (fun i hi hq=>zcnb l s i hi hq) (zfeb l s) (l.length + 1) (by omega)
 rw [zth l [] (· == s)] at h
 simp only [Ein,eR] at h
 cases hb:l.any (· == s) with
 | true =>
  rw [hb] at h
  simp only [Yc,sA,seval,kn,h]
 | false =>
  rw [hb] at h
  simp only [Yc,sA,seval,kn,h]
def za7b:List D→Cell→Prop:=fun ds c=>∀ l s,ds=[dSs l,.str s]→c=⟨false,.bool (l.any (· == s))⟩
theorem zbrb {S:eD} (hS:dE S Zp=some za7b) (l:List Tx) (s:Tx) (hl:l.length < 1000000000) (n:Nat) (σ:Store):T S (n + 1) Zp [dSs l,.str s] σ=some (.ret ⟨false,.bool (l.any (· == s))⟩,σ):=by
 obtain ⟨c,h1,h2⟩:=mX (S:=S) hS rfl (c:=⟨false,.bool (l.any (· == s))⟩) (fun l' s' e=>by
  simp only [aL,D.str.injEq,and_true] at e
  obtain ⟨e1,rfl⟩:=e
  rw [jT e1]) (zclb l s hl)
 rw [h2,h1 l s rfl]
end Go.Fu
namespace Go.Fu
open Go Go.Mx
set_option maxRecDepth 10000
theorem zig (l:List Tx):jM (dSs l)=some (l.map D.str):=sH
theorem zic (a b:List Tx) (o:Bool) (ho:a≠[]→o=true) (hl:a.length + b.length < 1000000000):gC k_0 16 ⟨o,dSs a⟩ (b.map D.str)=some ⟨true,dSs (a ++ b)⟩:=by
 rw [dSs,Ue (fun h=>ho (by simpa using h)) (fun d hd=>by obtain ⟨x,_,rfl⟩:=bF.1 hd; exact ⟨rfl,rfl⟩) (by simp [eL]; omega) (by simp [eL]; omega)]
 rw [dSs,aU]
theorem Ro (b:List Tx) (o:Bool) (hl:b.length < 1000000000):gC k_0 16 ⟨o,.nils⟩ (b.map D.str)=some ⟨true,dSs b⟩:=by
 have:=zic [] b o (fun h=>absurd rfl h) (by simpa using hl)
 simpa [dSs,eJ] using this
theorem zdn (a b:List Tx) (hl:a.length + b.length < 1000000000):OkP n_9 [dSs a,dSs b] ⟨false,dSs (a ++ b)⟩:=by
 refine OkP.weak (o:=true) rfl (hU (af:=zbs) (n:=1) (σ':=σ0) (iT [] 0) rfl rfl (by simp [eB,fQ]) (fQ _) ?_)
 simp only [zbs,sA,seval,kn,zig,Ro a false (by omega),zic a b true (fun _=>rfl) hl]
def zpc:List D→Cell→Prop:=fun ds c=>∀ a b,ds=[dSs a,dSs b]→c=⟨false,dSs (a ++ b)⟩
theorem zdp {S:eD} (hS:dE S n_9=some zpc) (a b:List Tx) (hl:a.length + b.length < 1000000000) (n:Nat) (σ:Store):T S (n + 1) n_9 [dSs a,dSs b] σ=some (.ret ⟨false,dSs (a ++ b)⟩,σ):=by
 obtain ⟨c,h1,h2⟩:=mX (S:=S) hS rfl (c:=⟨false,dSs (a ++ b)⟩) (fun a' b' e=>by
  simp only [aL,and_true] at e
  rw [jT e.1,jT e.2]) (zdn a b hl)
 rw [h2,h1 a b rfl]
def op1 (s:Tx) (n:Int):In:=⟨s,n,0,[]⟩
section
variable {C:dQ} {n:Nat} {σ:Store}
end
end Go.Fu
namespace Go.Fu
open Go Go.Mx
set_option maxRecDepth 10000
mutual
def Co.size:Co→Nat
 | .mk _ _ _ ks bs al=>1 + szK ks + szB bs + szA al
def szK:List Co→Nat
 | []=>0
 | c :: r=>c.size + szK r
def szB:List (Tx × Co)→Nat
 | []=>0
 | (_,c) :: r=>1 + c.size + szB r
def szA:List (Hd × Co)→Nat
 | []=>0
 | (h,c) :: r=>1 + h.vars.length + c.size + szA r
end
theorem iV (c:Co):c.size=1 + szK c.ks + szB c.bs + szA c.al:=by
 cases c
 simp only [Co.size,Co.ks,Co.bs,Co.al]
theorem kO (c:Co):1≤c.size:=by rw [iV]; omega
theorem Hu:∀ l:List Co,l.length≤szK l
 | []=>by simp [szK]
 | c :: r=>by
  have:=Hu r
  have:=kO c
  simp only [szK,aG]
  omega
theorem mW:∀ l:List (Tx × Co),l.length≤szB l
 | []=>by simp [szB]
 | (s,c) :: r=>by
  have:=mW r
  simp only [szB,aG]
  omega
theorem oK:∀ l:List (Hd × Co),l.length≤szA l
 | []=>by simp [szA]
 | (s,c) :: r=>by
  have:=oK r
  simp only [szA,aG]
  omega
theorem vG:∀ (l:List Co) (x:Co),x∈l→x.size≤szK l
 | c :: r,x,h=>by
  simp only [szK]
  rcases aS.1 h with rfl | h
  ·omega
  ·have:=vG r x h; omega
theorem qK:∀ (l:List (Tx × Co)) (x:Tx × Co),x∈l→x.2.size + 1≤szB l
 | (s,c) :: r,x,h=>by
  simp only [szB]
  rcases aS.1 h with rfl | h
  ·simp only; omega
  ·have:=qK r x h; omega
theorem lU:∀ (l:List (Hd × Co)) (x:Hd × Co),x∈l→x.2.size + x.1.vars.length + 1≤szA l
 | (s,c) :: r,x,h=>by
  simp only [szA]
  rcases aS.1 h with rfl | h
  ·simp only; omega
  ·have:=lU r x h; omega
theorem Ll (a b:List Co):szK (a ++ b)=szK a + szK b:=by
 induction a with
 | nil=>simp [szK]
 | cons x r ih=>simp only [aW,szK,ih]; omega
theorem zso (a b:List (Tx × Co)):szB (a ++ b)=szB a + szB b:=by
 induction a with
 | nil=>simp [szB]
 | cons x r ih=>obtain ⟨s,c⟩:=x; simp only [aW,szB,ih]; omega
theorem zsn (a b:List (Hd × Co)):szA (a ++ b)=szA a + szA b:=by
 induction a with
 | nil=>simp [szA]
 | cons x r ih=>obtain ⟨s,c⟩:=x; simp only [aW,szA,ih]; omega
def cB (b:Tx × Co):List D:=.str b.1 :: .int .i64 0 :: .int .i64 0 :: .str [] :: .nils :: cCo b.2
def cA (a:Hd × Co):List D:=.int .i64 a.1.form :: .int .i64 a.1.num :: .str a.1.name :: dSs a.1.vars :: cCo a.2
theorem agg?_dB (b:Tx × Co):(dB b).agg?=some (cB b):=by rw [tX]; rfl
theorem agg?_dA (b:Hd × Co):(dA b).agg?=some (cA b):=by rw [Rt]; rfl
theorem ziz (c:Co):D.agg (cCo c)=dCo c:=(fC c).symm
theorem zizb (b:Tx × Co):Mx.part none (cB b) 0=some (.str b.1)∧Mx.part (some 10) (cB b) 5=some (dCo b.2):=by
 refine ⟨rfl,?_⟩
 rw [← ziz]
 rfl
theorem ziyb (a:Hd × Co):Mx.part none (cA a) 0=some (.int .i64 a.1.form)∧Mx.part none (cA a) 1=some (.int .i64 a.1.num)∧Mx.part none (cA a) 2=some (.str a.1.name)∧Mx.part none (cA a) 3=some (dSs a.1.vars)∧Mx.part (some 10) (cA a) 4=some (dCo a.2):=by
 refine ⟨rfl,rfl,rfl,rfl,?_⟩
 rw [← ziz]
 rfl
theorem Ak (c:Co):(cCo c).length=10:=rfl
theorem gW (l:List Tx):(dSs l).one=true:=fM
def dCs (l:List Co):D:=eJ k_2 (l.map dCo)
def dBl (l:List (Tx × Co)):D:=eJ k_3 (l.map dB)
def dAl (l:List (Hd × Co)):D:=eJ k_4 (l.map dA)
theorem zg7 (l:List Co):lenOf (dCs l)=some l.length:=mM _ l
theorem zg6 (l:List (Tx × Co)):lenOf (dBl l)=some l.length:=mM _ l
theorem zaxb (l:List (Hd × Co)):lenOf (dAl l)=some l.length:=mM _ l
theorem zhub (l:List Co) (i:Nat) (h:i < l.length):iD 10 (dCs l) i=some (.eptr (dCo l[i])):=mL rfl _ _ _ h
theorem zavb (l:List (Tx × Co)) (i:Nat) (h:i < l.length):iD 15 (dBl l) i=some (.eptr (dB l[i])):=mL rfl _ _ _ h
theorem zhtb (l:List (Hd × Co)) (i:Nat) (h:i < l.length):iD 14 (dAl l) i=some (.eptr (dA l[i])):=mL rfl _ _ _ h
theorem zo1 (l:List Co):(dCs l).one=true:=fM
theorem zo0 (l:List (Tx × Co)):(dBl l).one=true:=fM
theorem zoz (l:List (Hd × Co)):(dAl l).one=true:=fM
theorem zhrb (a:List Co) (x:Co) (o:Bool) (ho:a≠[]→o=true) (hl:a.length < 1000000000):gC k_2 160 ⟨o,dCs a⟩ [dCo x]=some ⟨true,dCs (a ++ [x])⟩:=qT yD lH (by omega) a x o ho hl
theorem iC (c:Co):cCo c=[.int .i64 c.f,.int .i64 c.n,.str c.s,.int .i64 0,.int .i64 0,.str [],.nils,dCs c.ks,dBl c.bs,dAl c.al]:=rfl
def bC (c:Co):List Cell:=[⟨false,.int .i64 c.f⟩,⟨false,.int .i64 c.n⟩,⟨false,.str c.s⟩,⟨false,.int .i64 0⟩,⟨false,.int .i64 0⟩,⟨false,.str []⟩,⟨false,.nils⟩,⟨false,dCs c.ks⟩,⟨false,dBl c.bs⟩,⟨false,dAl c.al⟩]
section
variable {C:dQ} {n:Nat} {σ:Store}
def Nh (c:Co) (i:Nat):Env:={slots:=[(3,⟨ow i,dSs ((c.bs.take i).map Prod.fst)⟩),(4,⟨false,.int .i64 i⟩)],locs:=[(1,1,0)],boxes:=[(1,bC c)],defers:=[]}
theorem zpy (c:Co) (i:Nat) (h:i < c.bs.length) (hl:c.size < 100000000):exec C n none zbr (Nh c i) σ=some (.normal,Nh c (i + 1),σ):=by
 have hb:=mW c.bs
 have hsz:=iV c
 have hi:((i:Int) < (c.bs.length:Int)):=by omega
 have ha:=uG ((c.bs.take i).map Prod.fst) c.bs[i].1 (ow i) (fun h=>zru (fun e=>h (by rw [e]; rfl))) (by simp; omega)
 have e:(c.bs.take i).map Prod.fst ++ [c.bs[i].1]=(c.bs.take (i + 1)).map Prod.fst:=by rw [← hZ c.bs i h,aU]; rfl
 rw [e] at ha
 have hp:=zizb c.bs[i]
 simp only [zbr,Nh,bC,sA,seval,kn,zg6,hi,fL,zavb _ i h,agg?_dB,hp,ha,dV (i:=i) (by omega),kK]
theorem ztn (c:Co):exec C n none zbr (Nh c c.bs.length) σ=some (.exit 0,{Nh c c.bs.length with slots:=[(3,⟨ow c.bs.length,dSs (c.bs.map Prod.fst)⟩),(4,⟨false,.int .i64 c.bs.length⟩),(9,⟨false,.bool false⟩)]},σ):=by
 have hi:¬ ((c.bs.length:Int) < (c.bs.length:Int)):=by omega
 simp only [zbr,Nh,bC,sA,seval,kn,zg6,hi,aV]
end
theorem zpx (c:Co) (hl:c.size < 100000000):OkP Zn [dCo c] ⟨false,dSs (c.bs.map Prod.fst)⟩:=by
 refine OkP.weak (o:=ow c.bs.length) rfl (hU (af:=zgo) (n:=c.bs.length + 1) (σ':=σ0) (iT [] 0) rfl rfl (by simp [eB,jH]) (fQ _) ?_)
 have h:=iL (body:=exec (T [] 0) (c.bs.length + 1) none zbr) (Nh c) (fun _=>σ0) c.bs.length (r:=_) (fun _ _ h=>by cases h) (fun i hi=>zpy c i hi hl) (ztn c) 0 (c.bs.length + 1) (by omega) (by omega)
 simp only [Nh,bC,eR,List.take_zero,aZ,dSs,zds,oJ] at h
 simp only [zgo,sA,seval,kn,fC,iC,zo1,zo0,zoz,h,dSs]
def zk0:List D→Cell→Prop:=fun ds c=>∀ a,ds=[dCo a]→c=⟨false,dSs (a.bs.map Prod.fst)⟩
theorem zp3 {S:eD} (hS:dE S Zn=some zk0) (a:Co) (hl:a.size < 100000000) (n:Nat) (σ:Store):T S (n + 1) Zn [dCo a] σ=some (.ret ⟨false,dSs (a.bs.map Prod.fst)⟩,σ):=by
 obtain ⟨c,h1,h2⟩:=mX (S:=S) hS rfl (c:=⟨false,dSs (a.bs.map Prod.fst)⟩) (fun a' e=>by
  simp only [aL,and_true] at e
  rw [rL e]) (zpx a hl)
 rw [h2,h1 a rfl]
end Go.Fu
namespace Go.Fu
open Go Go.Mx
set_option maxRecDepth 10000
def iM (c:Co):List Co:=c.bs.map Prod.snd ++ c.ks ++ c.al.map Prod.snd
section
variable {C:dQ} {n:Nat} {σ:Store}
end
theorem zb1b {a b:List Co} (h:dCs a=dCs b):a=b:=wR rL (qM h)
def Bi (c:Co) (i:Nat):List Tx:=if c.bs.length + c.ks.length≤i then (c.al.map fun a=>a.1.vars).getD (i - (c.bs.length + c.ks.length)) [] else c.bs.map Prod.fst
theorem zrz (c:Co):(iM c).length=c.bs.length + c.ks.length + c.al.length:=by simp [iM]; omega
end Go.Fu
namespace Go.Fu
open Go Go.Mx
set_option maxRecDepth 10000
section
variable {C:dQ} {n:Nat} {σ:Store}
end
section
variable {C:dQ} {n:Nat} {σ:Store}
end
section
variable {C:dQ} {n:Nat} {σ:Store}
def Dq (l:List Tx) (j:Nat):Env:={slots:=[(0,⟨false,dSs l⟩),(3,⟨ow j,dSs (l.reverse.take j)⟩),(4,⟨false,.int .i64 ((l.length:Int) - 1 - j)⟩)],locs:=[],boxes:=[],defers:=[]}
theorem ztm (l:List Tx) (j:Nat) (h:j < l.length) (hl:l.length < 1000000000):exec C n none zbq (Dq l j) σ=some (.normal,Dq l (j + 1),σ):=by
 have hlt:l.length - 1 - j < l.length:=by omega
 have e:((l.length:Int) - 1 - (j:Int))=((l.length - 1 - j:Nat):Int):=by omega
 have hge:(((l.length - 1 - j:Nat):Int) ≥ 0):=by omega
 have w:IntKind.i64.wrap (((l.length - 1 - j:Nat):Int) - 1)=(l.length:Int) - 1 - ((j + 1:Nat):Int):=by rw [lV (by omega) (by omega)]; omega
 have ha:=uG (l.reverse.take j) l[l.length - 1 - j] (ow j) zru (by simp; omega)
 have e2:l.reverse.take j ++ [l[l.length - 1 - j]]=l.reverse.take (j + 1):=by rw [← hZ l.reverse j (by simpa using h),List.getElem_reverse]
 rw [e2] at ha
 simp only [zbq,Dq,e,sA,seval,kn,hge,fL,rW l _ hlt,ha,w,kK]
theorem zw0 (l:List Tx):exec C n none zbq (Dq l l.length) σ=some (.exit 0,{Dq l l.length with slots:=[(0,⟨false,dSs l⟩),(3,⟨ow l.length,dSs l.reverse⟩),(4,⟨false,.int .i64 (-1)⟩),(9,⟨false,.bool false⟩)]},σ):=by
 have e:((l.length:Int) - 1 - (l.length:Int))=-1:=by omega
 have e2:l.reverse.take l.length=l.reverse:=by rw [List.take_of_length_le (by simp)]
 simp only [zbq,Dq,e,sA,seval,kn,e2]
end
theorem ztl (l:List Tx) (hl:l.length < 1000000000):OkP zri [dSs l] ⟨false,dSs l.reverse⟩:=by
 refine OkP.weak (o:=ow l.length) rfl (hU (af:=zgn) (n:=l.length + 1) (σ':=σ0) (iT [] 0) rfl rfl (by simp [eB,fQ]) (fQ _) ?_)
 have h:=iL (body:=exec (T [] 0) (l.length + 1) none zbq) (Dq l) (fun _=>σ0) l.length (r:=_) (fun _ _ h=>by cases h) (fun i hi=>ztm l i hi hl) (zw0 l) 0 (l.length + 1) (by omega) (by omega)
 have w:IntKind.i64.wrap ((l.length:Int) - 1)=(l.length:Int) - 1:=lV (by omega) (by omega)
 have e0:(l.length:Int) - 1 - ((0:Nat):Int)=(l.length:Int) - 1:=by omega
 have e1:dSs []=.nils:=rfl
 simp only [Dq,e0,List.take_zero,e1,oJ] at h
 simp only [zgn,sA,seval,kn,mO,w,h]
def zd4b:List D→Cell→Prop:=fun ds c=>∀ l,ds=[dSs l]→c=⟨false,dSs l.reverse⟩
theorem sL {S:eD} (hS:dE S zri=some zd4b) (l:List Tx) (hl:l.length < 1000000000) (n:Nat) (σ:Store):T S (n + 1) zri [dSs l] σ=some (.ret ⟨false,dSs l.reverse⟩,σ):=by
 obtain ⟨c,h1,h2⟩:=mX (S:=S) hS rfl (c:=⟨false,dSs l.reverse⟩) (fun l' e=>by
  simp only [aL,and_true] at e
  rw [jT e]) (ztl l hl)
 rw [h2,h1 l rfl]
def Aa (s:Tx):Tx:=ifB (s == [97,100,100]) [65,68,68] (ifB (s == [115,117,98]) [83,85,66] (ifB (s == [109,117,108]) [77,85,76] (ifB (s == [100,105,118]) [68,73,86] (ifB (s == [101,113]) [69,81] (ifB (s == [108,116]) [76,84] [])))))
end Go.Fu
namespace Go.Fu
open Go Go.Mx
set_option maxRecDepth 10000
def lC (l:List Tx):Bool:=(List.range l.length).any fun i=>(List.range i).any fun k=>l.getD i [] == l.getD k []
section
variable {C:dQ} {n:Nat} {σ:Store}
end
def FL:List Fd:=[⟨[70,97,108,115,101],0,2,0⟩,⟨[84,114,117,101],1,2,0⟩,⟨[78,105,108],0,2,0⟩,⟨[67,111,110,115],1,2,2⟩,⟨[79,110,101],0,1,1⟩]
theorem zt5 {a b:Fd} (h:dF a=dF b):a=b:=by
 cases a; cases b
 simpa [dF] using h
theorem zb2b {a b:List Fd} (h:dFs a=dFs b):a=b:=wR zt5 (qM h)
theorem tY (l:List Fd):lenOf (dFs l)=some l.length:=mM _ l
theorem Rx (l:List Fd) (i:Nat) (h:i < l.length):iD 8 (dFs l) i=some (.eptr (dF l[i])):=mL rfl _ _ _ h
def Yr (s:Tx) (m:Int) (f:Fd):Bool:=(f.name == s) && (decide (m < 0) || (f.arity == m))
def tO (l:List Fd) (s:Tx) (m:Int):Bool:=l.any (Yr s m)
section
variable {C:dQ} {n:Nat} {σ:Store}
def f0:Fd:=⟨[],0,0,0⟩
end
end Go.Fu
namespace Go.Fu
open Go Go.Mx
set_option maxRecDepth 10000
def zh6 (h:Hd):Prop:=Small h.num∧lC h.vars=false∧((h.form=1∧tO FL h.name h.vars.length=true)∨(h.form=2∧h.vars=[])∨(h.form=3∧h.vars=[]))
inductive Good:List Tx→Co→Prop
 | int {ns n}:Small n→Good ns (.mk 3 n [] [] [] [])
 | con {ns s}:tO FL s (-1)=true→Good ns (.mk 2 0 s [] [] [])
 | var {ns s}:ns.any (· == s)=true→Good ns (.mk 1 0 s [] [] [])
 | fail {ns}:Good ns (.mk 11 0 [] [] [] [])
 | app {ns a b}:Good ns a→Good ns b→Good ns (.mk 4 0 [] [a,b] [] [])
 | prim {ns s a b}:(Aa s == [])=false→Good ns a→Good ns b→Good ns (.mk 10 0 s [a,b] [] [])
 | lt {ns b bs}:lC (bs.map Prod.fst)=false→(∀ p∈bs,Good (ns ++ bs.map Prod.fst) p.2)→Good (ns ++ bs.map Prod.fst) b→Good ns (.mk 8 0 [] [b] bs [])
 | cas {ns x al}:Good ns x→(∀ a∈al,zh6 a.1)→(∀ a∈al,Good (ns ++ a.1.vars) a.2)→Good ns (.mk 9 0 [] [x] [] al)
section
variable {f n:Int} {s:Tx} {ks:List Co} {bs:List (Tx × Co)} {al:List (Hd × Co)}
theorem co:(Co.mk f n s ks bs al).f=f∧(Co.mk f n s ks bs al).n=n∧(Co.mk f n s ks bs al).s=s∧(Co.mk f n s ks bs al).ks=ks∧(Co.mk f n s ks bs al).bs=bs∧(Co.mk f n s ks bs al).al=al:=⟨rfl,rfl,rfl,rfl,rfl,rfl⟩
end
/-! ### Forms -/
section
variable {C:dQ} {n:Nat} {σ:Store}
end
section
variable {C:dQ} {n:Nat} {σ:Store}
end
end Go.Fu
namespace Go.Fu
open Go Go.Mx
set_option maxRecDepth 10000
section
variable {C:dQ} {n:Nat} {σ:Store}
end
theorem zqq {ns:List Tx} {c:Co} (h:Good ns c):lC (c.bs.map Prod.fst)=false:=by
 cases h <;> first | rfl | assumption
theorem Jc {ns:List Tx} {c:Co} (h:Good ns c):∀ a∈c.al,zh6 a.1:=by
 cases h <;> first | (intro a ha; cases ha; done) | assumption
section
variable {C:dQ} {n:Nat} {σ:Store}
end
theorem zui {ns:List Tx} {c:Co} (h:Good ns c):(c.f=1∧ns.any (· == c.s)=true)∨(c.f=2∧tO FL c.s (-1)=true)∨((c.f == 1)=false∧(c.f == 2)=false):=by
 cases h with
 | int _=>exact .inr (.inr ⟨rfl,rfl⟩)
 | con h=>exact .inr (.inl ⟨rfl,h⟩)
 | var h=>exact .inl ⟨rfl,h⟩
 | fail=>exact .inr (.inr ⟨rfl,rfl⟩)
 | app _ _=>exact .inr (.inr ⟨rfl,rfl⟩)
 | prim _ _ _=>exact .inr (.inr ⟨rfl,rfl⟩)
 | lt _ _ _=>exact .inr (.inr ⟨rfl,rfl⟩)
 | cas _ _ _=>exact .inr (.inr ⟨rfl,rfl⟩)
end Go.Fu
namespace Go.Fu
open Go Go.Mx
set_option maxRecDepth 10000
def cU (u:Su):List D:=.str u.name :: dSs u.ps :: cCo u.body
theorem Ru (u:Su):dU u=.agg (cU u):=rfl
theorem zry (u:Su):Mx.part none (cU u) 0=some (.str u.name)∧Mx.part none (cU u) 1=some (dSs u.ps)∧Mx.part (some 10) (cU u) 2=some (dCo u.body):=by
 refine ⟨rfl,rfl,?_⟩
 rw [← ziz]
 rfl
theorem zrs (u:Su):(dU u).ok=true:=by
 rw [Ru]
 simp only [cU,iC,D.ok,List.all_cons,D.one,gW,zo1,zo0,zoz,List.all_nil,aY]
theorem Bc (u:Su):(dU u).cells.length=12:=rfl
theorem zQ (l:List Su):lenOf (dUs l)=some l.length:=mM _ l
theorem Je (l:List Su) (i:Nat) (h:i < l.length):iD 12 (dUs l) i=some (.eptr (dU l[i])):=mL rfl _ _ _ h
theorem zwy (l:List Su):jM (dUs l)=some (l.map dU):=sH
section
variable {C:dQ} {n:Nat} {σ:Store}
theorem Hh {k:Nat} (h:k≠0):ow k=true:=by cases k with
 | zero=>exact absurd rfl h
 | succ k=>rfl
end
structure GoodP (us:List Su):Prop where
 few:us.length < 1000
 once:lC (FL.map Fd.name ++ us.map Su.name)=false
 ps:∀ u∈us,lC u.ps=false∧u.ps.length < 1000
 body:∀ u∈us,Good (us.map Su.name ++ u.ps) u.body∧u.body.size < 10000000
section
variable {C:dQ} {n:Nat} {σ:Store}
end
end Go.Fu
namespace Go.Fu
open Go Go.Mx
set_option maxRecDepth 10000
section
variable {C:dQ} {n:Nat} {σ:Store}
def chr (d:Nat):UInt8:=UInt8.ofNat (48 + d)
theorem Vo:∀ (k a:Nat) (s:Tx),(Im k a s).length≤s.length + k
 | 0,a,s=>by simp [Im]
 | k + 1,a,s=>by
  unfold Im
  by_cases h:a < 10
  ·rw [decide_eq_true h]
   simp only [dJ,aG]
   omega
  ·rw [decide_eq_false h]
   simp only [dH]
   have:=Vo k (a / 10) (UInt8.ofNat (48 + a % 10) :: s)
   simp only [aG] at this
   omega
end
end Go.Fu
namespace Go.Fu
open Go Go.Mx
set_option maxRecDepth 10000
def eQ (s:Tx):Co:=.mk 1 0 s [] [] []
def appC' (a b:Co):Co:=.mk 4 0 [] [a,b] [] []
def kS (c:Co):List Tx→Co
 | []=>c
 | s :: l=>kS (appC' c (eQ s)) l
theorem zl0 (c:Co) (l:List Tx) (s:Tx):kS c (l ++ [s])=appC' (kS c l) (eQ s):=by
 induction l generalizing c with
 | nil=>rfl
 | cons x r ih=>simp only [aW,kS,ih]
theorem zkx (s:Tx):(eQ s).size=1:=by simp [eQ,Co.size,szK,szB,szA]
theorem zyx (a b:Co):(appC' a b).size=1 + a.size + b.size:=by simp [appC',Co.size,szK,szB,szA]; omega
theorem zmz (c:Co) (l:List Tx):(kS c l).size=c.size + 2 * l.length:=by
 induction l generalizing c with
 | nil=>simp [kS]
 | cons x r ih=>simp only [kS,ih,zyx,zkx,aG]; omega
section
variable {C:dQ} {n:Nat} {σ:Store}
end
end Go.Fu
namespace Go.Fu
open Go Go.Mx
set_option maxRecDepth 10000
def fO (l:List Tx) (s:Tx):Bool:=l.any (· == s)
def c0:Co:=.mk 0 0 [] [] [] []
def lY (c:Co) (g s h:List Tx):Bool:=(((c.f == 1) && !fO g c.s) && fO s c.s) && !fO h c.s
def fU:Nat→Co→List Tx→List Tx→List Tx→List Tx
 | 0,_,_,_,h=>h
 | k + 1,c,g,s,h=>ifB (lY c g s h) (h ++ [c.s]) ((List.range (iM c).length).foldl (fun h i=>fU k ((iM c).getD i c0) (g ++ Bi c i) s h) h)
theorem vO {α β:Type} {f g:β→α→β}:∀ (l:List α) (b:β),(∀ a∈l,∀ b,f b a=g b a)→l.foldl f b=l.foldl g b
 | [],_,_=>rfl
 | a :: l,b,h=>by
  simp only [List.foldl_cons]
  rw [h a (aQ ..) b]
  exact vO l _ fun x hx=>h x (aI _ hx)
theorem Oz:∀ (m:Nat) (c:Co) (g s h:List Tx),(fU m c g s h).length≤h.length + c.size
 | 0,c,g,s,h=>by simp [fU]
 | m + 1,c,g,s,h=>by
  simp only [fU]
  have hp:=kO c
  cases lY c g s h with
  | true=>simp only [dJ,aF,aG,aH]; omega
  | false =>
   simp only [dH]
   have hf:∀ (n:Nat) (h:List Tx),n≤(iM c).length→((List.range n).foldl (fun h i=>fU m ((iM c).getD i c0) (g ++ Bi c i) s h) h).length≤h.length + szK ((iM c).take n):=by
    intro n
    induction n with
    | zero=>intro h _; simp
    | succ n ihn =>
     intro h hn
     rw [List.range_succ,List.foldl_append]
     simp only [List.foldl_cons,List.foldl_nil]
     have h1:=Oz m ((iM c).getD n c0) (g ++ Bi c n) s ((List.range n).foldl (fun h i=>fU m ((iM c).getD i c0) (g ++ Bi c i) s h) h)
     have h2:=ihn h (by omega)
     rw [← hZ (iM c) n (by omega),Ll]
     rw [eY _ _ _ (show n < (iM c).length by omega)] at h1 ⊢
     simp only [szK,Nat.add_zero]
     omega
   have:=hf (iM c).length h (aM _)
   rw [aV] at this
   have hs:szK (iM c)≤c.size:=by
    have hsz:=iV c
    have hbs:∀ l:List (Tx × Co),szK (l.map Prod.snd)≤szB l:=by
     intro l
     induction l with
     | nil=>simp [szK,szB]
     | cons x r ih=>obtain ⟨t,d⟩:=x; simp only [aO,szK,szB]; omega
    have has:∀ l:List (Hd × Co),szK (l.map Prod.snd)≤szA l:=by
     intro l
     induction l with
     | nil=>simp [szK,szA]
     | cons x r ih=>obtain ⟨t,d⟩:=x; simp only [aO,szK,szA]; omega
    rw [iM,Ll,Ll]
    have:=hbs c.bs
    have:=has c.al
    omega
   omega
section
variable {C:dQ} {n:Nat} {σ:Store}
end
end Go.Fu
namespace Go.Fu
open Go Go.Mx
set_option maxRecDepth 10000
def fF (F:Co→List Su→Co × List Su):List (Tx × Co)→List Su→List (Tx × Co) × List Su
 | [],m=>([],m)
 | p :: r,m=>((p.1,(F p.2 m).1) :: (fF F r (F p.2 m).2).1,(fF F r (F p.2 m).2).2)
def gP (F:Co→List Su→Co × List Su):List Co→List Su→List Co × List Su
 | [],m=>([],m)
 | p :: r,m=>((F p m).1 :: (gP F r (F p m).2).1,(gP F r (F p m).2).2)
def iE (F:Hd→Co→List Su→Co × List Su):List (Hd × Co)→List Su→List (Hd × Co) × List Su
 | [],m=>([],m)
 | p :: r,m=>((p.1,(F p.1 p.2 m).1) :: (iE F r (F p.1 p.2 m).2).1,(iE F r (F p.1 p.2 m).2).2)
theorem Jm {F G:Co→List Su→Co × List Su}:∀ (l:List (Tx × Co)) (m:List Su),(∀ p∈l,∀ m,F p.2 m=G p.2 m)→fF F l m=fF G l m
 | [],m,_=>rfl
 | p :: l,m,h=>by
  simp only [fF]
  rw [h p (aQ ..) m,Jm l _ fun q hq=>h q (aI _ hq)]
theorem Jn {F G:Co→List Su→Co × List Su}:∀ (l:List Co) (m:List Su),(∀ p∈l,∀ m,F p m=G p m)→gP F l m=gP G l m
 | [],m,_=>rfl
 | p :: l,m,h=>by
  simp only [gP]
  rw [h p (aQ ..) m,Jn l _ fun q hq=>h q (aI _ hq)]
theorem Jl {F G:Hd→Co→List Su→Co × List Su}:∀ (l:List (Hd × Co)) (m:List Su),(∀ p∈l,∀ m,F p.1 p.2 m=G p.1 p.2 m)→iE F l m=iE G l m
 | [],m,_=>rfl
 | p :: l,m,h=>by
  simp only [iE]
  rw [h p (aQ ..) m,Jl l _ fun q hq=>h q (aI _ hq)]
theorem Wg (F:Co→List Su→Co × List Su):∀ (l:List (Tx × Co)) (m:List Su),(fF F l m).1.length=l.length
 | [],m=>rfl
 | p :: l,m=>by simp only [fF,aG,Wg F l]
theorem Wi (F:Co→List Su→Co × List Su):∀ (l:List Co) (m:List Su),(gP F l m).1.length=l.length
 | [],m=>rfl
 | p :: l,m=>by simp only [gP,aG,Wi F l]
theorem Wb (F:Hd→Co→List Su→Co × List Su):∀ (l:List (Hd × Co)) (m:List Su),(iE F l m).1.length=l.length
 | [],m=>rfl
 | p :: l,m=>by simp only [iE,aG,Wb F l]
theorem Pn (F:Co→List Su→Co × List Su):∀ (l:List (Tx × Co)) (m:List Su),(∀ p∈l,∀ m,(F p.2 m).2.length≤m.length + p.2.size)→(fF F l m).2.length≤m.length + szB l
 | [],m,_=>by simp [fF]
 | (s,c) :: l,m,h=>by
  have h1:=h (s,c) (aQ ..) m
  have h2:=Pn F l (F c m).2 fun q hq=>h q (aI _ hq)
  simp only [fF,szB] at h1 h2 ⊢
  omega
theorem Po (F:Co→List Su→Co × List Su):∀ (l:List Co) (m:List Su),(∀ p∈l,∀ m,(F p m).2.length≤m.length + p.size)→(gP F l m).2.length≤m.length + szK l
 | [],m,_=>by simp [gP]
 | c :: l,m,h=>by
  have h1:=h c (aQ ..) m
  have h2:=Po F l (F c m).2 fun q hq=>h q (aI _ hq)
  simp only [gP,szK] at h1 h2 ⊢
  omega
theorem zd4 (F:Hd→Co→List Su→Co × List Su):∀ (l:List (Hd × Co)) (m:List Su),(∀ p∈l,∀ m,(F p.1 p.2 m).2.length≤m.length + p.2.size)→(iE F l m).2.length≤m.length + szA l
 | [],m,_=>by simp [iE]
 | (s,c) :: l,m,h=>by
  have h1:=h (s,c) (aQ ..) m
  have h2:=zd4 F l (F s c m).2 fun q hq=>h q (aI _ hq)
  simp only [iE,szA] at h1 h2 ⊢
  omega
def kZ (c:Co) (lz:Bool):Bool:=lz && (((c.f == 9) || (c.f == 10)) || (c.f == 11))
def oQ (t:Tx) (m:List Su):Tx:=(t ++ [37]) ++ tB ((m.length:Int) + 1)
def pK (c:Co) (ar:List Tx) (t:Tx) (m:List Su):Co × List Su:=(kS (eQ (oQ t m)) (fU c.size c [] ar []),m ++ [⟨oQ t m,fU c.size c [] ar [],c⟩])
def fH:Nat→Co→Bool→List Tx→Tx→List Su→Co × List Su
 | 0,c,_,_,_,m=>(c,m)
 | k + 1,c,lz,ar,t,m=>ifB (kZ c lz) (pK c ar t m) (
     (.mk c.f c.n c.s (gP (fun x m=>fH k x (lz || (c.f == 4)) (ar ++ c.bs.map Prod.fst) t m) c.ks (fF (fun x m=>fH k x true (ar ++ c.bs.map Prod.fst) t m) c.bs m).2).1 (fF (fun x m=>fH k x true (ar ++ c.bs.map Prod.fst) t m) c.bs m).1
      (iE (fun h x m=>fH k x false (ar ++ h.vars) t m) c.al (gP (fun x m=>fH k x (lz || (c.f == 4)) (ar ++ c.bs.map Prod.fst) t m) c.ks (fF (fun x m=>fH k x true (ar ++ c.bs.map Prod.fst) t m) c.bs m).2).2).1),
     (iE (fun h x m=>fH k x false (ar ++ h.vars) t m) c.al (gP (fun x m=>fH k x (lz || (c.f == 4)) (ar ++ c.bs.map Prod.fst) t m) c.ks (fF (fun x m=>fH k x true (ar ++ c.bs.map Prod.fst) t m) c.bs m).2).2).2)
theorem Iw:∀ (n:Nat) (c:Co),c.size=n→∀ (k k':Nat) (lz:Bool) (ar:List Tx) (t:Tx) (m:List Su),c.size≤k→c.size≤k'→fH k c lz ar t m=fH k' c lz ar t m:=by
 intro n
 induction n using Nat.strongRecOn with
 | ind n ih =>
  intro c hn k k' lz ar t m hk hk'
  have hp:=kO c
  have hsz:=iV c
  obtain ⟨k,rfl⟩:∃ j,k=j + 1:=⟨k - 1,by omega⟩
  obtain ⟨k',rfl⟩:∃ j,k'=j + 1:=⟨k' - 1,by omega⟩
  have hB:∀ m,fF (fun x m=>fH k x true (ar ++ c.bs.map Prod.fst) t m) c.bs m=fF (fun x m=>fH k' x true (ar ++ c.bs.map Prod.fst) t m) c.bs m:=fun m=>Jm _ _ fun p hp m=>by
   have:=qK c.bs p hp
   exact ih _ (by omega) _ rfl _ _ _ _ _ _ (by omega) (by omega)
  have hK:∀ m,gP (fun x m=>fH k x (lz || (c.f == 4)) (ar ++ c.bs.map Prod.fst) t m) c.ks m=gP (fun x m=>fH k' x (lz || (c.f == 4)) (ar ++ c.bs.map Prod.fst) t m) c.ks m:=fun m=>Jn _ _ fun p hp m=>by
   have:=vG c.ks p hp
   exact ih _ (by omega) _ rfl _ _ _ _ _ _ (by omega) (by omega)
  have hA:∀ m,iE (fun h x m=>fH k x false (ar ++ h.vars) t m) c.al m=iE (fun h x m=>fH k' x false (ar ++ h.vars) t m) c.al m:=fun m=>Jl _ _ fun p hp m=>by
   have:=lU c.al p hp
   exact ih _ (by omega) _ rfl _ _ _ _ _ _ (by omega) (by omega)
  simp only [fH,hB,hK,hA]
theorem zO:∀ (k:Nat) (c:Co) (lz:Bool) (ar:List Tx) (t:Tx) (m:List Su),(fH k c lz ar t m).2.length≤m.length + c.size
 | 0,c,lz,ar,t,m=>by simp [fH]
 | k + 1,c,lz,ar,t,m=>by
  have hp:=kO c
  have hsz:=iV c
  simp only [fH]
  cases kZ c lz with
  | true=>simp only [dJ,pK,aF,aG,aH]; omega
  | false =>
   simp only [dH]
   have h1:=Pn (fun x m=>fH k x true (ar ++ c.bs.map Prod.fst) t m) c.bs m fun p _ m=>zO k p.2 _ _ _ m
   have h2:=Po (fun x m=>fH k x (lz || (c.f == 4)) (ar ++ c.bs.map Prod.fst) t m) c.ks (fF (fun x m=>fH k x true (ar ++ c.bs.map Prod.fst) t m) c.bs m).2 fun p _ m=>zO k p _ _ _ m
   have h3:=zd4 (fun h x m=>fH k x false (ar ++ h.vars) t m) c.al (gP (fun x m=>fH k x (lz || (c.f == 4)) (ar ++ c.bs.map Prod.fst) t m) c.ks (fF (fun x m=>fH k x true (ar ++ c.bs.map Prod.fst) t m) c.bs m).2).2 fun p _ m=>zO k p.2 _ _ _ m
   omega
def flM (c:Co) (lz:Bool) (ar:List Tx) (t:Tx) (m:List Su):Co × List Su:=fH c.size c lz ar t m
def fB (c:Co) (ar:List Tx) (t:Tx) (m:List Su) (i:Nat):List (Tx × Co) × List Su:=fF (fun x m=>flM x true (ar ++ c.bs.map Prod.fst) t m) (c.bs.take i) m
def fK (c:Co) (lz:Bool) (ar:List Tx) (t:Tx) (m:List Su) (i:Nat):List Co × List Su:=gP (fun x m=>flM x (lz || (c.f == 4)) (ar ++ c.bs.map Prod.fst) t m) (c.ks.take i) m
def fA (c:Co) (ar:List Tx) (t:Tx) (m:List Su) (i:Nat):List (Hd × Co) × List Su:=iE (fun h x m=>flM x false (ar ++ h.vars) t m) (c.al.take i) m
theorem yA (c:Co) (lz:Bool) (ar:List Tx) (t:Tx) (m:List Su) (h:kZ c lz=false):flM c lz ar t m=(.mk c.f c.n c.s (fK c lz ar t (fB c ar t m c.bs.length).2 c.ks.length).1 (fB c ar t m c.bs.length).1 (fA c ar t (fK c lz ar t (fB c ar t m c.bs.length).2 c.ks.length).2 c.al.length).1,
  (fA c ar t (fK c lz ar t (fB c ar t m c.bs.length).2 c.ks.length).2 c.al.length).2):=by
 have hp:=kO c
 have hsz:=iV c
 obtain ⟨k,hk⟩:∃ j,c.size=j + 1:=⟨c.size - 1,by omega⟩
 have hB:∀ m,fF (fun x m=>fH k x true (ar ++ c.bs.map Prod.fst) t m) c.bs m=fF (fun x m=>flM x true (ar ++ c.bs.map Prod.fst) t m) c.bs m:=fun m=>Jm _ _ fun p hp m=>by
  have:=qK c.bs p hp
  exact Iw _ _ rfl _ _ _ _ _ _ (by omega) (aM _)
 have hK:∀ m,gP (fun x m=>fH k x (lz || (c.f == 4)) (ar ++ c.bs.map Prod.fst) t m) c.ks m=gP (fun x m=>flM x (lz || (c.f == 4)) (ar ++ c.bs.map Prod.fst) t m) c.ks m:=fun m=>Jn _ _ fun p hp m=>by
  have:=vG c.ks p hp
  exact Iw _ _ rfl _ _ _ _ _ _ (by omega) (aM _)
 have hA:∀ m,iE (fun h x m=>fH k x false (ar ++ h.vars) t m) c.al m=iE (fun h x m=>flM x false (ar ++ h.vars) t m) c.al m:=fun m=>Jl _ _ fun p hp m=>by
  have:=lU c.al p hp
  exact Iw _ _ rfl _ _ _ _ _ _ (by omega) (aM _)
 rw [flM,hk,fH,h]
 simp only [dH,hB,hK,hA,fB,fK,fA,aV]
theorem Bf (c:Co) (lz:Bool) (ar:List Tx) (t:Tx) (m:List Su) (h:kZ c lz=true):flM c lz ar t m=pK c ar t m:=by
 have hp:=kO c
 obtain ⟨k,hk⟩:∃ j,c.size=j + 1:=⟨c.size - 1,by omega⟩
 rw [flM,hk,fH,h]
 rfl
theorem Bg (c:Co) (lz:Bool) (ar:List Tx) (t:Tx) (m:List Su):(flM c lz ar t m).2.length≤m.length + c.size:=zO _ _ _ _ _ _
end Go.Fu
namespace Go.Fu
open Go Go.Mx
set_option maxRecDepth 10000
theorem zarb (a:List (Tx × Co)) (x:Tx × Co) (o:Bool) (ho:a≠[]→o=true) (hl:a.length < 1000000000):gC k_3 232 ⟨o,dBl a⟩ [dB x]=some ⟨true,dBl (a ++ [x])⟩:=qT za4b uH (by omega) a x o ho hl
theorem zaqb (a:List (Hd × Co)) (x:Hd × Co) (o:Bool) (ho:a≠[]→o=true) (hl:a.length < 1000000000):gC k_4 216 ⟨o,dAl a⟩ [dA x]=some ⟨true,dAl (a ++ [x])⟩:=qT za3b wK (by omega) a x o ho hl
theorem zatb (a:List Su) (x:Su) (o:Bool) (ho:a≠[]→o=true) (hl:a.length < 1000000000):gC k_5 200 ⟨o,dUs a⟩ [dU x]=some ⟨true,dUs (a ++ [x])⟩:=qT zrs Bc (by omega) a x o ho hl
theorem appU (a b:List Su) (o:Bool) (ho:a≠[]→o=true) (hl:a.length + b.length < 1000000000):gC k_5 200 ⟨o,dUs a⟩ (b.map dU)=some ⟨true,dUs (a ++ b)⟩:=by
 rw [dUs,Ue (fun h=>ho (by simpa using h)) (fun d hd=>by obtain ⟨x,_,rfl⟩:=bF.1 hd; exact ⟨zrs x,Bc x⟩) (by simp [eL]; omega) (by simp [eL]; omega)]
 rw [dUs,aU]
theorem okl:(∀ l,(dSs l).ok=true)∧(∀ l,(dCs l).ok=true)∧(∀ l,(dBl l).ok=true)∧(∀ l,(dAl l).ok=true)∧(∀ l,(dUs l).ok=true)∧(∀ l,(dIs l).ok=true):=⟨fun _=>gZ,fun _=>gZ,fun _=>gZ,fun _=>gZ,fun _=>gZ,fun _=>gZ⟩
theorem mE:(∀ l,(dSs l).cells=[dSs l])∧(∀ l,(dCs l).cells=[dCs l])∧(∀ l,(dBl l).cells=[dBl l])∧(∀ l,(dAl l).cells=[dAl l])∧(∀ l,(dUs l).cells=[dUs l])∧(∀ l,(dIs l).cells=[dIs l]):=⟨fun _=>fG,fun _=>fG,fun _=>fG,fun _=>fG,fun _=>fG,fun _=>fG⟩
theorem nV:(∀ l,(dSs l).one=true)∧(∀ l,(dCs l).one=true)∧(∀ l,(dBl l).one=true)∧(∀ l,(dAl l).one=true)∧(∀ l,(dUs l).one=true)∧(∀ l,(dIs l).one=true):=⟨fun _=>fM,fun _=>fM,fun _=>fM,fun _=>fM,fun _=>fM,fun _=>fM⟩
theorem zdy (x:Int):(tB x).length≤21:=by
 cases x with
 | ofNat a =>
  have:=Vo 20 a []
  simp only [tB,zce,aH] at this ⊢
  omega
 | negSucc a =>
  have:=Vo 20 (a + 1) []
  simp only [tB,zce,aH,aG] at this ⊢
  omega
theorem Xt:∀ (l:List (Tx × Co)) (x:Tx × Co),x∈l→x.2.size + l.length≤szB l:=by
 intro l
 induction l with
 | nil=>intro x hx; cases hx
 | cons y r ihl =>
  intro x hx
  obtain ⟨s,c'⟩:=y
  simp only [szB,aG]
  rcases aS.1 hx with rfl | hx
  ·have:=mW r; simp only; omega
  ·have:=ihl x hx; omega
section
variable {C:dQ} {n:Nat} {σ:Store}
def z10:List Cell:=[⟨false,.int .i64 0⟩,⟨false,.int .i64 0⟩,⟨false,.str []⟩,⟨false,.int .i64 0⟩,⟨false,.int .i64 0⟩,⟨false,.str []⟩,⟨false,.nils⟩,⟨false,.nils⟩,⟨false,.nils⟩,⟨false,.nils⟩]
end
end Go.Fu
