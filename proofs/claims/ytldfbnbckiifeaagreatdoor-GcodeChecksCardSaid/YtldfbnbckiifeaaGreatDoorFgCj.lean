/-
 Is there one in a row of which a function tells so; what the closures within keeps tell.
-/
import Derived.Test.YtldfbnbckiifeaaGreatDoorFgBq
import Derived.Test.YtldfbnbckiifeaaGreatDoorFgZa
import Derived.Test.YtldfbnbckiifeaaGreatDoorFgBo
import Derived.Test.YtldfbnbckiifeaaGreatDoorFgE
import Derived.Test.YtldfbnbckiifeaaGreatDoorFgR
set_option maxHeartbeats 4000000
set_option linter.unusedSimpArgs false
set_option linter.unusedVariables false
set_option linter.unusedSectionVars false
namespace Go.Fu
open Go Go.Mx
set_option maxRecDepth 10000
set_option maxHeartbeats 4000000
def cd0:Cd:=⟨[],0,[]⟩
section
variable {C:CallF} {n:Nat} {σ:Store}
def zdo (l:List Fd) (g:D) (i:Nat):Env:={slots:=[(0,⟨false,dFs l⟩),(1,⟨false,g⟩),(7,⟨false,.int .i64 l.length⟩),(8,⟨false,.int .i64 i⟩)],locs:=[],boxes:=[],defers:=[]}
theorem zuw (l:List Fd) (g:D) (fid:Nat) (ca:List D) (q:Fd→Bool) (hg:D.fn? g=some (fid,[],ca)) (i:Nat) (h:i < l.length) (hl:l.length < 1000000000) (h1:C fid (dF (l.getD i f0) :: ca) σ=some (.ret ⟨false,.bool (q (l.getD i f0))⟩,σ)) (hq:q (l.getD i f0)=false):exec C n none a_72 (zdo l g i) σ=some (.normal,zdo l g (i + 1),σ):=by
 have hlt:((i:Int) < (l.length:Int)):=by omega
 have w:=zag (i:=i) (by omega)
 have hx:=idx_F l i h
 rw [← zaq l i f0 h] at hx
 rw [hq] at h1
 generalize l.getD i f0=f at hx h1
 simp only [dF] at hx h1
 simp only [a_72,zdo,sA,seval,kn,len_F,hlt,natI,hx,hg,h1,w]
theorem zux (l:List Fd) (g:D) (fid:Nat) (ca:List D) (q:Fd→Bool) (hg:D.fn? g=some (fid,[],ca)) (i:Nat) (h:i < l.length) (h1:C fid (dF (l.getD i f0) :: ca) σ=some (.ret ⟨false,.bool (q (l.getD i f0))⟩,σ)) (hq:q (l.getD i f0)=true):exec C n none a_72 (zdo l g i) σ=some (.ret,{slots:=[(4,⟨false,.int .i64 i⟩)],locs:=[],boxes:=[],defers:=[]},σ):=by
 have hlt:((i:Int) < (l.length:Int)):=by omega
 have hx:=idx_F l i h
 rw [← zaq l i f0 h] at hx
 rw [hq] at h1
 generalize l.getD i f0=f at hx h1
 simp only [dF] at hx h1
 simp only [a_72,zdo,sA,seval,kn,len_F,hlt,natI,hx,hg,h1]
theorem zxx (l:List Fd) (g:D):exec C n none a_72 (zdo l g l.length) σ=some (.exit 0,{zdo l g l.length with slots:=[(0,⟨false,dFs l⟩),(1,⟨false,g⟩),(7,⟨false,.int .i64 l.length⟩),(8,⟨false,.int .i64 l.length⟩),(9,⟨false,.bool false⟩)]},σ):=by
 have hlt:¬ ((l.length:Int) < (l.length:Int)):=by omega
 simp only [a_72,zdo,sA,seval,kn,len_F,hlt]
end
theorem zm8 {S:Specs} (hs1:has S n_192=false) (hs2:has S n_157=false) (N:Nat) (l:List Fd) (g:D) (fid:Nat) (ca:List D) (q:Fd→Bool) (hg:D.fn? g=some (fid,[],ca)) (hl:l.length < 1000000000) (hN:l.length < N) (σ:Store)
  (hc:∀ i,i < l.length→T S N fid (dF (l.getD i f0) :: ca) σ=some (.ret ⟨false,.bool (q (l.getD i f0))⟩,σ)):T S (N + 2) n_157 [dFs l,g] σ=some (.ret ⟨false,.bool (l.any q)⟩,σ):=by
 have hr:=zfn (body:=exec (T S N) N none a_72) (zdo l g) (fun _=>σ) l.length (fun i=>!(q (l.getD i f0))) (r:=_) (fun i=>(.ret,{slots:=[(4,⟨false,.int .i64 i⟩)],locs:=[],boxes:=[],defers:=[]},σ)) (fun _ _ h=>by cases h) (fun _ _ _ h=>by cases h) (fun i hi hq=>zuw l g fid ca q hg i hi hl (hc i hi) (by simpa using hq)) (fun i hi hq=>zux l g fid ca q hg i hi (hc i hi) (by simpa using hq)) (zxx l g) N 0 (Nat.zero_le _) (by omega)
 simp only [zdo,zeroI] at hr
 have hv:∃ v:Int,T S (N + 1) n_192 [dFs l,g] σ=some (.ret ⟨false,.int .i64 v⟩,σ)∧(v ≥ 0↔l.any q=true):=by
  rcases hr with ⟨i,_,hi,hq,_,h⟩ | ⟨hq,h⟩
  ·refine ⟨i,?_,fun _=>?_,fun _=>by omega⟩
   ·rw [T_fun (af:=a_127) hs1 rfl rfl]
    simp only [a_127,sA,seval,kn,len_F,h]
   ·rw [zaq _ _ _ hi] at hq
    exact List.any_eq_true.2 ⟨_,List.getElem_mem hi,by simpa using hq⟩
  ·refine ⟨-1,?_,fun h=>by omega,fun ha=>?_⟩
   ·rw [T_fun (af:=a_127) hs1 rfl rfl]
    simp only [a_127,sA,seval,kn,len_F,h]
   ·obtain ⟨x,hx,hxs⟩:=List.any_eq_true.1 ha
    obtain ⟨i,hi,rfl⟩:=List.getElem_of_mem hx
    have:=hq i (Nat.zero_le _) hi
    rw [zaq _ _ _ hi,hxs] at this
    cases this
 obtain ⟨v,h1,h2⟩:=hv
 rw [T_fun (af:=a_145) hs2 rfl rfl]
 cases hb:l.any q with
 | true =>
  have hv:v ≥ 0:=h2.2 hb
  simp only [a_145,sA,seval,kn,h1,hv]
 | false =>
  have hv:¬ v ≥ 0:=fun h=>by rw [h2.1 h] at hb; cases hb
  simp only [a_145,sA,seval,kn,h1,hv]
section
variable {C:CallF} {n:Nat} {σ:Store}
def zej (l:List Cd) (g:D) (i:Nat):Env:={slots:=[(0,⟨false,dDs l⟩),(1,⟨false,g⟩),(7,⟨false,.int .i64 l.length⟩),(8,⟨false,.int .i64 i⟩)],locs:=[],boxes:=[],defers:=[]}
theorem zxv (l:List Cd) (g:D) (fid:Nat) (ca:List D) (q:Cd→Bool) (hg:D.fn? g=some (fid,[],ca)) (i:Nat) (h:i < l.length) (hl:l.length < 1000000000) (h1:C fid (dD (l.getD i cd0) :: ca) σ=some (.ret ⟨false,.bool (q (l.getD i cd0))⟩,σ)) (hq:q (l.getD i cd0)=false):exec C n none a_71 (zej l g i) σ=some (.normal,zej l g (i + 1),σ):=by
 have hlt:((i:Int) < (l.length:Int)):=by omega
 have w:=zag (i:=i) (by omega)
 have hx:=idx_D l i h
 rw [← zaq l i cd0 h] at hx
 rw [hq] at h1
 generalize l.getD i cd0=f at hx h1
 simp only [dD] at hx h1
 simp only [a_71,zej,sA,seval,kn,len_D,hlt,natI,hx,hg,h1,w]
theorem zxw (l:List Cd) (g:D) (fid:Nat) (ca:List D) (q:Cd→Bool) (hg:D.fn? g=some (fid,[],ca)) (i:Nat) (h:i < l.length) (h1:C fid (dD (l.getD i cd0) :: ca) σ=some (.ret ⟨false,.bool (q (l.getD i cd0))⟩,σ)) (hq:q (l.getD i cd0)=true):exec C n none a_71 (zej l g i) σ=some (.ret,{slots:=[(4,⟨false,.int .i64 i⟩)],locs:=[],boxes:=[],defers:=[]},σ):=by
 have hlt:((i:Int) < (l.length:Int)):=by omega
 have hx:=idx_D l i h
 rw [← zaq l i cd0 h] at hx
 rw [hq] at h1
 generalize l.getD i cd0=f at hx h1
 simp only [dD] at hx h1
 simp only [a_71,zej,sA,seval,kn,len_D,hlt,natI,hx,hg,h1]
theorem zanb (l:List Cd) (g:D):exec C n none a_71 (zej l g l.length) σ=some (.exit 0,{zej l g l.length with slots:=[(0,⟨false,dDs l⟩),(1,⟨false,g⟩),(7,⟨false,.int .i64 l.length⟩),(8,⟨false,.int .i64 l.length⟩),(9,⟨false,.bool false⟩)]},σ):=by
 have hlt:¬ ((l.length:Int) < (l.length:Int)):=by omega
 simp only [a_71,zej,sA,seval,kn,len_D,hlt]
end
theorem zyb {S:Specs} (hs1:has S n_200=false) (hs2:has S n_199=false) (N:Nat) (l:List Cd) (g:D) (fid:Nat) (ca:List D) (q:Cd→Bool) (hg:D.fn? g=some (fid,[],ca)) (hl:l.length < 1000000000) (hN:l.length < N) (σ:Store)
  (hc:∀ i,i < l.length→T S N fid (dD (l.getD i cd0) :: ca) σ=some (.ret ⟨false,.bool (q (l.getD i cd0))⟩,σ)):T S (N + 2) n_199 [dDs l,g] σ=some (.ret ⟨false,.bool (l.any q)⟩,σ):=by
 have hr:=zfn (body:=exec (T S N) N none a_71) (zej l g) (fun _=>σ) l.length (fun i=>!(q (l.getD i cd0))) (r:=_) (fun i=>(.ret,{slots:=[(4,⟨false,.int .i64 i⟩)],locs:=[],boxes:=[],defers:=[]},σ)) (fun _ _ h=>by cases h) (fun _ _ _ h=>by cases h) (fun i hi hq=>zxv l g fid ca q hg i hi hl (hc i hi) (by simpa using hq)) (fun i hi hq=>zxw l g fid ca q hg i hi (hc i hi) (by simpa using hq)) (zanb l g) N 0 (Nat.zero_le _) (by omega)
 simp only [zej,zeroI] at hr
 have hv:∃ v:Int,T S (N + 1) n_200 [dDs l,g] σ=some (.ret ⟨false,.int .i64 v⟩,σ)∧(v ≥ 0↔l.any q=true):=by
  rcases hr with ⟨i,_,hi,hq,_,h⟩ | ⟨hq,h⟩
  ·refine ⟨i,?_,fun _=>?_,fun _=>by omega⟩
   ·rw [T_fun (af:=a_126) hs1 rfl rfl]
    simp only [a_126,sA,seval,kn,len_D,h]
   ·rw [zaq _ _ _ hi] at hq
    exact List.any_eq_true.2 ⟨_,List.getElem_mem hi,by simpa using hq⟩
  ·refine ⟨-1,?_,fun h=>by omega,fun ha=>?_⟩
   ·rw [T_fun (af:=a_126) hs1 rfl rfl]
    simp only [a_126,sA,seval,kn,len_D,h]
   ·obtain ⟨x,hx,hxs⟩:=List.any_eq_true.1 ha
    obtain ⟨i,hi,rfl⟩:=List.getElem_of_mem hx
    have:=hq i (Nat.zero_le _) hi
    rw [zaq _ _ _ hi,hxs] at this
    cases this
 obtain ⟨v,h1,h2⟩:=hv
 rw [T_fun (af:=a_144) hs2 rfl rfl]
 cases hb:l.any q with
 | true =>
  have hv:v ≥ 0:=h2.2 hb
  simp only [a_144,sA,seval,kn,h1,hv]
 | false =>
  have hv:¬ v ≥ 0:=fun h=>by rw [h2.1 h] at hb; cases hb
  simp only [a_144,sA,seval,kn,h1,hv]
def packQ (i:In) (f:Fd):Bool:=f.name == i.name && (!(i.op == [80,65,67,75]) || (f.arity == i.n && f.tag == i.m))
theorem zn2b {S:Specs} (hs:has S n_131=false) (n:Nat) (i:In) (f:Fd) (p:Nat) (σ:Store) (hp:aget σ.objs p=some [⟨false,.str i.op⟩,⟨false,.int .i64 i.n⟩,⟨false,.int .i64 i.m⟩,⟨false,.str i.name⟩]):T S (n + 1) n_131 [dF f,.ptr p 0] σ=some (.ret ⟨false,.bool (packQ i f)⟩,σ):=by
 obtain ⟨op,x,y,nm⟩:=i
 simp only at hp
 rw [T_fun (af:=a_81) hs rfl rfl]
 unfold packQ
 cases h1:f.name == nm with
 | false=>simp only [a_81,dF,sA,seval,kn,hp,h1]
 | true =>
  cases h2:op == [80,65,67,75] with
  | false=>simp only [a_81,dF,sA,seval,kn,hp,h1,h2]
  | true =>
   cases h3:f.arity == x with
   | false=>simp only [a_81,dF,sA,seval,kn,hp,h1,h2,h3]
   | true=>simp only [a_81,dF,sA,seval,kn,hp,h1,h2,h3]
theorem agA {α:Type} (k:Nat) (v:α):∀ l:List (Nat × α),aget (aset l k v) k=some v
 | []=>by simp [aset,aget,ifB]
 | (a,x) :: r=>by
  rw [aset]
  cases h:a == k with
  | true=>simp [aget,ifB,h]
  | false =>
   cases h2:Nat.ble k a with
   | true=>simp [aget,ifB]
   | false=>simp only [zab,aget,h,agA k v r]
theorem agB {α:Type} (k j:Nat) (v:α) (hj:(k == j)=false):∀ l:List (Nat × α),aget (aset l k v) j=aget l j
 | []=>by simp [aset,aget,ifB,hj]
 | (a,x) :: r=>by
  rw [aset]
  cases h:a == k with
  | true =>
   have:a=k:=by simpa using h
   subst this
   simp [aget,ifB,hj]
  | false =>
   cases h2:Nat.ble k a with
   | true=>simp [aget,ifB,hj]
   | false=>simp only [zab,aget,agB k j v hj r]
theorem zjfb (ds:List Int) (k:Nat) (h:k < ds.length):ds.set k (ds.getD k 0)=ds:=by
 rw [zaq _ _ _ h]
 exact List.set_getElem_self h
structure KS (σ:Store) (m:Nat) (ds:List Int):Prop where
 a:aget σ.objs 0=some (cZ ds)
 b:aget σ.objs 2=some [⟨false,.arr k_int 0 0 m⟩]
 n:3≤σ.next
 l:ds.length=m
theorem zd2 {S:Specs} (hs:has S n_9=false) (n:Nat) (σ:Store) (m k:Nat) (d:Int) (ds:List Int) (h:KS σ m ds) (hk:k < m) :
  match tellM k d ds with
  | none=>T S (n + 1) n_9 [.int .i64 k,.int .i64 d,.ptr 2 0] σ=some (.ret ⟨false,.bool false⟩,σ)
  | some ds'=>∃ σ',T S (n + 1) n_9 [.int .i64 k,.int .i64 d,.ptr 2 0] σ=some (.ret ⟨false,.bool true⟩,σ')∧KS σ' m ds'∧σ'.next=σ.next∧(∀ p,3≤p→aget σ'.objs p=aget σ.objs p):=by
 have hb:=h.b
 have ha:=h.a
 have hl:=h.l
 have x1:=zf9 0 m k hk
 have n1:=zeg ds k (by omega)
 have f1:k + 1≤(cZ ds).length:=by rw [zeq]; omega
 have p1:=zfk ds k d (by omega)
 unfold tellM
 by_cases g:0≤ds.getD k 0
 ·have g':¬ ds.getD k 0 < 0:=by omega
  cases e:ds.getD k 0 == d with
  | true =>
   have e':ds.getD k 0=d:=by simpa using e
   have e2:(ds.getD k 0 != d)=false:=by
    show (!(ds.getD k 0 == d))=false
    rw [e]
    rfl
   simp only [g,e2,decide_true,Bool.and_false,zab]
   refine ⟨σ,?_,?_,rfl,fun _ _=>rfl⟩
   ·rw [T_fun (af:=a_60) hs rfl rfl]
    simp only [a_60,sA,seval,kn,hb,ha,natI,x1,n1,g',e]
   ·rw [← e',zjfb ds k (by omega)]
    exact h
  | false =>
   have e2:(ds.getD k 0 != d)=true:=by
    show (!(ds.getD k 0 == d))=true
    rw [e]
    rfl
   simp only [g,e2,decide_true,Bool.and_self,zac]
   rw [T_fun (af:=a_60) hs rfl rfl]
   simp only [a_60,sA,seval,kn,hb,ha,natI,x1,n1,g',e]
 ·have g':ds.getD k 0 < 0:=by omega
  have hg:decide (0≤ds.getD k 0)=false:=decide_eq_false g
  simp only [hg,Bool.false_and,zab]
  have n2:=zeg (ds.set k d) k (by simp; omega)
  rw [zaq _ _ _ (by simp; omega),List.getElem_set_self] at n2
  have a2:=agA 0 (cZ (ds.set k d)) σ.objs
  have b2:=agB 0 2 (cZ (ds.set k d)) rfl σ.objs
  rw [hb] at b2
  refine ⟨{σ with objs:=aset σ.objs 0 (cZ (ds.set k d))},?_,⟨a2,b2,h.n,by simp; omega⟩,rfl,fun p hp=>agB 0 p _ (beq_false_of_ne (by omega)) _⟩
  rw [T_fun (af:=a_60) hs rfl rfl]
  simp only [a_60,sA,seval,kn,memE,memOp,hb,ha,natI,x1,n1,g',f1,p1,a2,b2,n2]
end Go.Fu
namespace Go.Fu
open Go Go.Mx
set_option maxRecDepth 10000
set_option maxHeartbeats 4000000
def ent (s:Tx) (a b:Int) (k:Nat):D × D × Nat:=(.str s,.agg [.int .i64 a,.int .i64 b],k)
def effE (i:In):List (D × D × Nat) :=
 [ent [80,85,83,72,71] (0) (1) 0,
  ent [80,85,83,72,73] (0) (1) 1,
  ent [80,85,83,72,65] (IntKind.i64.wrap (i.n + 1)) (1) 2,
  ent [77,75,65,80] (2) (-1) 3,
  ent [80,65,67,75] (i.n) (IntKind.i64.wrap (1 - i.n)) 4,
  ent [83,76,73,68,69] (IntKind.i64.wrap (i.n + 1)) (IntKind.i64.wrap (0 - i.n)) 5,
  ent [80,79,80] (i.n) (IntKind.i64.wrap (0 - i.n)) 6,
  ent [85,80,68,65,84,69] (IntKind.i64.wrap (i.n + 1)) (-1) 7,
  ent [65,76,76,79,67] (0) (i.n) 8,
  ent [69,86,65,76] (1) (0) 9,
  ent [84,69,83,84] (1) (0) 10,
  ent [84,69,83,84,73] (1) (0) 11,
  ent [83,80,76,73,84] (1) (IntKind.i64.wrap (i.n - 1)) 12,
  ent [74,85,77,80] (0) (0) 13,
  ent [70,65,73,76] (0) (1) 14,
  ent [85,78,87,73,78,68] (0) (0) 15,
  ent [65,68,68] (2) (-1) 16,
  ent [83,85,66] (2) (-1) 17,
  ent [77,85,76] (2) (-1) 18,
  ent [68,73,86] (2) (-1) 19,
  ent [69,81] (2) (-1) 20,
  ent [76,84] (2) (-1) 21]
theorem fe0 (i:In):findM (.str [80,85,83,72,71]) ((effE i).take 0)=some none:=rfl
theorem fe1 (i:In):findM (.str [80,85,83,72,73]) ((effE i).take 1)=some none:=rfl
theorem fe2 (i:In):findM (.str [80,85,83,72,65]) ((effE i).take 2)=some none:=rfl
theorem fe3 (i:In):findM (.str [77,75,65,80]) ((effE i).take 3)=some none:=rfl
theorem fe4 (i:In):findM (.str [80,65,67,75]) ((effE i).take 4)=some none:=rfl
theorem fe5 (i:In):findM (.str [83,76,73,68,69]) ((effE i).take 5)=some none:=rfl
theorem fe6 (i:In):findM (.str [80,79,80]) ((effE i).take 6)=some none:=rfl
theorem fe7 (i:In):findM (.str [85,80,68,65,84,69]) ((effE i).take 7)=some none:=rfl
theorem fe8 (i:In):findM (.str [65,76,76,79,67]) ((effE i).take 8)=some none:=rfl
theorem fe9 (i:In):findM (.str [69,86,65,76]) ((effE i).take 9)=some none:=rfl
theorem fe10 (i:In):findM (.str [84,69,83,84]) ((effE i).take 10)=some none:=rfl
theorem fe11 (i:In):findM (.str [84,69,83,84,73]) ((effE i).take 11)=some none:=rfl
theorem fe12 (i:In):findM (.str [83,80,76,73,84]) ((effE i).take 12)=some none:=rfl
theorem fe13 (i:In):findM (.str [74,85,77,80]) ((effE i).take 13)=some none:=rfl
theorem fe14 (i:In):findM (.str [70,65,73,76]) ((effE i).take 14)=some none:=rfl
theorem fe15 (i:In):findM (.str [85,78,87,73,78,68]) ((effE i).take 15)=some none:=rfl
theorem fe16 (i:In):findM (.str [65,68,68]) ((effE i).take 16)=some none:=rfl
theorem fe17 (i:In):findM (.str [83,85,66]) ((effE i).take 17)=some none:=rfl
theorem fe18 (i:In):findM (.str [77,85,76]) ((effE i).take 18)=some none:=rfl
theorem fe19 (i:In):findM (.str [68,73,86]) ((effE i).take 19)=some none:=rfl
theorem fe20 (i:In):findM (.str [69,81]) ((effE i).take 20)=some none:=rfl
theorem fe21 (i:In):findM (.str [76,84]) ((effE i).take 21)=some none:=rfl
theorem zyf {S:Specs} (h:has S n_190=false) (i:In) (n:Nat) (σ:Store):T S (n + 1) n_190 [dI i] σ=some (.ret ⟨false,.map σ.next⟩,{σ with oth:=(σ.next,.map (effE i) 22) :: σ.oth,next:=σ.next + 1}):=by
 have f0:=fe0 i
 have f1:=fe1 i
 have f2:=fe2 i
 have f3:=fe3 i
 have f4:=fe4 i
 have f5:=fe5 i
 have f6:=fe6 i
 have f7:=fe7 i
 have f8:=fe8 i
 have f9:=fe9 i
 have f10:=fe10 i
 have f11:=fe11 i
 have f12:=fe12 i
 have f13:=fe13 i
 have f14:=fe14 i
 have f15:=fe15 i
 have f16:=fe16 i
 have f17:=fe17 i
 have f18:=fe18 i
 have f19:=fe19 i
 have f20:=fe20 i
 have f21:=fe21 i
 obtain ⟨op,x,m,nm⟩:=i
 rw [T_fun (af:=a_163) h rfl rfl]
 simp only [effE,ent,List.take_succ_cons,List.take_zero,List.take_nil] at f0
 simp only [effE,ent,List.take_succ_cons,List.take_zero,List.take_nil] at f1
 simp only [effE,ent,List.take_succ_cons,List.take_zero,List.take_nil] at f2
 simp only [effE,ent,List.take_succ_cons,List.take_zero,List.take_nil] at f3
 simp only [effE,ent,List.take_succ_cons,List.take_zero,List.take_nil] at f4
 simp only [effE,ent,List.take_succ_cons,List.take_zero,List.take_nil] at f5
 simp only [effE,ent,List.take_succ_cons,List.take_zero,List.take_nil] at f6
 simp only [effE,ent,List.take_succ_cons,List.take_zero,List.take_nil] at f7
 simp only [effE,ent,List.take_succ_cons,List.take_zero,List.take_nil] at f8
 simp only [effE,ent,List.take_succ_cons,List.take_zero,List.take_nil] at f9
 simp only [effE,ent,List.take_succ_cons,List.take_zero,List.take_nil] at f10
 simp only [effE,ent,List.take_succ_cons,List.take_zero,List.take_nil] at f11
 simp only [effE,ent,List.take_succ_cons,List.take_zero,List.take_nil] at f12
 simp only [effE,ent,List.take_succ_cons,List.take_zero,List.take_nil] at f13
 simp only [effE,ent,List.take_succ_cons,List.take_zero,List.take_nil] at f14
 simp only [effE,ent,List.take_succ_cons,List.take_zero,List.take_nil] at f15
 simp only [effE,ent,List.take_succ_cons,List.take_zero,List.take_nil] at f16
 simp only [effE,ent,List.take_succ_cons,List.take_zero,List.take_nil] at f17
 simp only [effE,ent,List.take_succ_cons,List.take_zero,List.take_nil] at f18
 simp only [effE,ent,List.take_succ_cons,List.take_zero,List.take_nil] at f19
 simp only [effE,ent,List.take_succ_cons,List.take_zero,List.take_nil] at f20
 simp only [effE,ent,List.take_succ_cons,List.take_zero,List.take_nil] at f21
 simp only [a_163,dI,sA,seval,kn,memE,memOp,mapAt,keyD,effE,ent,f0,f1,f2,f3,f4,f5,f6,f7,f8,f9,f10,f11,f12,f13,f14,f15,f16,f17,f18,f19,f20,f21]
theorem zkqb (i:In):∃ r,findM (.str i.op) (effE i)=some r∧caseO r (ifB true (.tup [.agg [.int .i64 0,.int .i64 0],.bool false]) (.agg [.int .i64 0,.int .i64 0])) (fun v=>ifB true (.tup [v.1,.bool true]) v.1)=.tup [.agg [.int .i64 (effM i).1,.int .i64 (effM i).2.1],.bool (effM i).2.2]:=by
 obtain ⟨op,x,m,nm⟩:=i
 by_cases h:op∈([[80,85,83,72,71],[80,85,83,72,73],[80,85,83,72,65],[77,75,65,80],[80,65,67,75],[83,76,73,68,69],[80,79,80],[85,80,68,65,84,69],[65,76,76,79,67],[69,86,65,76],[84,69,83,84],[84,69,83,84,73],[83,80,76,73,84],[74,85,77,80],[70,65,73,76],[85,78,87,73,78,68],[65,68,68],[83,85,66],[77,85,76],[68,73,86],[69,81],[76,84]]:List Tx)
 ·simp only [List.mem_cons,List.not_mem_nil,or_false] at h
  rcases h with rfl | rfl | rfl | rfl | rfl | rfl | rfl | rfl | rfl | rfl | rfl | rfl | rfl | rfl | rfl | rfl | rfl | rfl | rfl | rfl | rfl | rfl <;> exact ⟨_,rfl,rfl⟩
 ·simp only [List.mem_cons,List.not_mem_nil,or_false,not_or] at h
  obtain ⟨h0,h1,h2,h3,h4,h5,h6,h7,h8,h9,h10,h11,h12,h13,h14,h15,h16,h17,h18,h19,h20,h21⟩:=h
  have e0:(op == [80,85,83,72,71])=false:=beq_false_of_ne h0
  have e1:(op == [80,85,83,72,73])=false:=beq_false_of_ne h1
  have e2:(op == [80,85,83,72,65])=false:=beq_false_of_ne h2
  have e3:(op == [77,75,65,80])=false:=beq_false_of_ne h3
  have e4:(op == [80,65,67,75])=false:=beq_false_of_ne h4
  have e5:(op == [83,76,73,68,69])=false:=beq_false_of_ne h5
  have e6:(op == [80,79,80])=false:=beq_false_of_ne h6
  have e7:(op == [85,80,68,65,84,69])=false:=beq_false_of_ne h7
  have e8:(op == [65,76,76,79,67])=false:=beq_false_of_ne h8
  have e9:(op == [69,86,65,76])=false:=beq_false_of_ne h9
  have e10:(op == [84,69,83,84])=false:=beq_false_of_ne h10
  have e11:(op == [84,69,83,84,73])=false:=beq_false_of_ne h11
  have e12:(op == [83,80,76,73,84])=false:=beq_false_of_ne h12
  have e13:(op == [74,85,77,80])=false:=beq_false_of_ne h13
  have e14:(op == [70,65,73,76])=false:=beq_false_of_ne h14
  have e15:(op == [85,78,87,73,78,68])=false:=beq_false_of_ne h15
  have e16:(op == [65,68,68])=false:=beq_false_of_ne h16
  have e17:(op == [83,85,66])=false:=beq_false_of_ne h17
  have e18:(op == [77,85,76])=false:=beq_false_of_ne h18
  have e19:(op == [68,73,86])=false:=beq_false_of_ne h19
  have e20:(op == [69,81])=false:=beq_false_of_ne h20
  have e21:(op == [76,84])=false:=beq_false_of_ne h21
  refine ⟨none,?_,?_⟩
  ·simp only [effE,ent,findM,sameD,bindO,zad,zao,zab,e0,e1,e2,e3,e4,e5,e6,e7,e8,e9,e10,e11,e12,e13,e14,e15,e16,e17,e18,e19,e20,e21]
  ·simp only [effM,zao,zac,zab,e0,e1,e2,e3,e4,e5,e6,e7,e8,e9,e10,e11,e12,e13,e14,e15,e16,e17,e18,e19,e20,e21]
theorem zflb (i:In):OkP n_20 [dI i] ⟨false,.bool (goesI i.op)⟩:=by
 refine zas (af:=a_94) (n:=1) (σ':=σ0) (zav [] 1) rfl rfl rfl rfl ?_
 obtain ⟨op,x,m,nm⟩:=i
 unfold goesI
 cases e1:op == [84,69,83,84] with
 | true=>simp only [a_94,dI,sA,seval,kn,e1]
 | false =>
  cases e2:op == [84,69,83,84,73] with
  | true=>simp only [a_94,dI,sA,seval,kn,e1,e2]
  | false=>simp only [a_94,dI,sA,seval,kn,e1,e2]
def zbcb:List D→Cell→Prop:=fun ds c=>∀ i,ds=[dI i]→c=⟨false,.bool (goesI i.op)⟩
theorem zeyb {S:Specs} (hS:aget S n_20=some zbcb) (i:In) (n:Nat) (σ:Store):T S (n + 1) n_20 [dI i] σ=some (.ret ⟨false,.bool (goesI i.op)⟩,σ):=by
 obtain ⟨c,h1,h2⟩:=T_orc (S:=S) hS rfl (c:=⟨false,.bool (goesI i.op)⟩) (fun i' e=>by
  simp only [List.cons.injEq,and_true] at e
  rw [zqs e]) (zflb i)
 rw [h2,h1 i rfl]
end Go.Fu
namespace Go.Fu
open Go Go.Mx
set_option maxRecDepth 10000
set_option maxHeartbeats 8000000
def seqL:ACode→ACode
 | .seq a _=>a
 | x=>x
def seqR:ACode→ACode
 | .seq _ b=>b
 | x=>x
def blkB:ACode→ACode
 | .block _ b=>b
 | x=>x
def gB:ACode:=blkB (seqL (seqR (seqR a_2)))
def gB1:ACode:=seqR gB
def gB2:ACode:=seqR gB1
def gB3:ACode:=seqR gB2
def gB4:ACode:=seqR gB3
def gB5:ACode:=seqR gB4
def gB6:ACode:=seqR gB5
theorem gB_eq:gB=.seq (seqL gB) (.seq (seqL gB1) (.seq (seqL gB2) gB3)):=rfl
theorem znsb:gB3=.seq (seqL gB3) gB4:=rfl
theorem zntb:gB4=.seq (seqL gB4) gB5:=rfl
theorem znub:gB5=.seq (seqL gB5) gB6:=rfl
def cntM (op:Tx):Bool:=((((((op == [80,65,67,75]) || (op == [83,76,73,68,69])) || (op == [80,79,80])) || (op == [65,76,76,79,67])) || (op == [83,80,76,73,84])) || (op == [80,85,83,72,65])) || (op == [85,80,68,65,84,69])
def tellF:D:=.fn (.func n_9) [] [.ptr 2 0]
def Eg (fs:List Fd) (ns:List Tx) (b:List In) (k:Nat):Env:={slots:=[(0,⟨false,dFs fs⟩),(1,⟨false,dSs ns⟩),(7,⟨false,.int .i64 b.length⟩),(8,⟨false,.ptr 2 0⟩),(10,⟨false,tellF⟩),(72,⟨false,dIs b⟩),(73,⟨false,.int .i64 b.length⟩),(74,⟨false,.int .i64 k⟩)],locs:=[],boxes:=[],defers:=[]}
def Egt (fs:List Fd) (ns:List Tx) (b:List In) (k:Nat):Env:={slots:=[(0,⟨false,dFs fs⟩),(1,⟨false,dSs ns⟩),(7,⟨false,.int .i64 b.length⟩),(8,⟨false,.ptr 2 0⟩),(10,⟨false,tellF⟩),(72,⟨false,dIs b⟩),(73,⟨false,.int .i64 b.length⟩),(74,⟨false,.int .i64 k⟩),(75,⟨false,.bool true⟩)],locs:=[],boxes:=[],defers:=[]}
def Ega (fs:List Fd) (ns:List Tx) (b:List In) (k p:Nat) (e1 e2 d:Int) (is:Bool):Env:={slots:=[(0,⟨false,dFs fs⟩),(1,⟨false,dSs ns⟩),(7,⟨false,.int .i64 b.length⟩),(8,⟨false,.ptr 2 0⟩),(10,⟨false,tellF⟩),(11,⟨false,.int .i64 k⟩),(12,⟨false,.ptr p 0⟩),(14,⟨false,.bool is⟩),(15,⟨false,.int .i64 d⟩),(72,⟨false,dIs b⟩),(73,⟨false,.int .i64 b.length⟩),(74,⟨false,.int .i64 k⟩)],locs:=[(13,(13,0))],boxes:=[(13,[⟨false,.int .i64 e1⟩,⟨false,.int .i64 e2⟩])],defers:=[]}
def Egb (fs:List Fd) (ns:List Tx) (b:List In) (k p:Nat) (e1 e2 d:Int) (is cn:Bool):Env:={slots:=[(0,⟨false,dFs fs⟩),(1,⟨false,dSs ns⟩),(7,⟨false,.int .i64 b.length⟩),(8,⟨false,.ptr 2 0⟩),(10,⟨false,tellF⟩),(11,⟨false,.int .i64 k⟩),(12,⟨false,.ptr p 0⟩),(14,⟨false,.bool is⟩),(15,⟨false,.int .i64 d⟩),(16,⟨false,.bool cn⟩),(72,⟨false,dIs b⟩),(73,⟨false,.int .i64 b.length⟩),(74,⟨false,.int .i64 k⟩)],locs:=[(13,(13,0))],boxes:=[(13,[⟨false,.int .i64 e1⟩,⟨false,.int .i64 e2⟩])],defers:=[]}
def Egc (fs:List Fd) (ns:List Tx) (b:List In) (k p:Nat) (e1 e2 d:Int) (is cn co:Bool):Env:={slots:=[(0,⟨false,dFs fs⟩),(1,⟨false,dSs ns⟩),(7,⟨false,.int .i64 b.length⟩),(8,⟨false,.ptr 2 0⟩),(10,⟨false,tellF⟩),(11,⟨false,.int .i64 k⟩),(12,⟨false,.ptr p 0⟩),(14,⟨false,.bool is⟩),(15,⟨false,.int .i64 d⟩),(16,⟨false,.bool cn⟩),(17,⟨false,.bool co⟩),(72,⟨false,dIs b⟩),(73,⟨false,.int .i64 b.length⟩),(74,⟨false,.int .i64 k⟩)],locs:=[(13,(13,0))],boxes:=[(13,[⟨false,.int .i64 e1⟩,⟨false,.int .i64 e2⟩])],defers:=[]}
def inC (i:In):List Cell:=[⟨false,.str i.op⟩,⟨false,.int .i64 i.n⟩,⟨false,.int .i64 i.m⟩,⟨false,.str i.name⟩]
def SG (i:In) (σ:Store):Store:={objs:=(σ.next,inC i) :: σ.objs,tys:=(σ.next,⟨t_263,0⟩) :: σ.tys,oth:=(σ.next + 1,.map (effE i) 22) :: σ.oth,next:=σ.next + 1 + 1}
theorem SG_KS {i:In} {σ:Store} {m:Nat} {ds:List Int} (h:KS σ m ds):KS (SG i σ) m ds:=by
 have hn:=h.n
 have e0:(σ.next == 0)=false:=beq_false_of_ne (by omega)
 have e2:(σ.next == 2)=false:=beq_false_of_ne (by omega)
 refine ⟨?_,?_,?_,h.l⟩
 ·show aget ((σ.next,inC i) :: σ.objs) 0=_
  rw [aget,e0,zab,h.a]
 ·show aget ((σ.next,inC i) :: σ.objs) 2=_
  rw [aget,e2,zab,h.b]
 ·show 3≤σ.next + 1 + 1
  omega
theorem zmyb {i:In} {σ:Store}:aget (SG i σ).objs σ.next=some (inC i):=by
 show aget ((σ.next,inC i) :: σ.objs) σ.next=_
 rw [aget,beq_self_eq_true,zac]
section
variable {S:Specs} {N n:Nat}
theorem gA1 (hE:has S n_190=false) (X:ACode) (fs:List Fd) (ns:List Tx) (b:List In) (k m:Nat) (ds:List Int) (i:In) (σ:Store) (hk:k < b.length) (hm:b.length < m) (hx:za7 4 (dIs b) k=some (.eptr (dI i))) (h:KS σ m ds) :
  exec (T S (N + 1)) n none (.seq (seqL gB) (.seq (seqL gB1) (.seq (seqL gB2) X))) (Egt fs ns b k) σ=exec (T S (N + 1)) n none X (Ega fs ns b k σ.next (effM i).1 (effM i).2.1 (ds.getD k 0) (effM i).2.2) (SG i σ):=by
 have hef:=zyf (S:=S) hE i N
 obtain ⟨r,hr,hc⟩:=zkqb i
 have hb:=h.b
 have ha:=h.a
 have hn:=h.n
 have e0:(σ.next == 0)=false:=beq_false_of_ne (by omega)
 have e2:(σ.next == 2)=false:=beq_false_of_ne (by omega)
 have x1:=zf9 0 m k (by omega)
 have n1:=zeg ds k (by have:=h.l; omega)
 generalize ds.getD k 0=d at n1 ⊢
 obtain ⟨e1,e2',e3⟩:∃ e1 e2 e3,effM i=(e1,e2,e3):=⟨_,_,_,rfl⟩
 generalize effM i=ef at hc ⊢
 obtain ⟨f1,f2,f3⟩:=ef
 simp only at hc
 simp only [zac] at hc
 unfold SG
 generalize effE i=es at hef hr ⊢
 obtain ⟨op,x,y,nm⟩:=i
 simp only [dI,inC] at hx hef hr ⊢
 simp only [seqL,seqR,blkB,gB,gB1,gB2,a_2,Egt,Ega,sA,seval,kn,memE,memOp,mapOf,keyD,natI,hx,hef,hr,hc,zbqb,sameW,zrm,hb,ha,e0,e2,x1,n1]
end
end Go.Fu
namespace Go.Fu
open Go Go.Mx
set_option maxRecDepth 10000
set_option maxHeartbeats 8000000
section
variable {C:CallF} {n:Nat}
theorem gA4 (X:ACode) (fs:List Fd) (ns:List Tx) (b:List In) (k p:Nat) (e1 e2 d:Int) (is:Bool) (i:In) (σ:Store) (hp:aget σ.objs p=some (inC i)) :
  exec C n none (.seq (seqL gB3) X) (Ega fs ns b k p e1 e2 d is) σ=exec C n none X (Egb fs ns b k p e1 e2 d is (cntM i.op)) σ:=by
 obtain ⟨op,x,y,nm⟩:=i
 simp only [inC] at hp
 unfold cntM
 cases e0:op == [80,65,67,75] with
 | true=>simp only [e0,Bool.true_or,Bool.false_or,Bool.or_true,Bool.or_false,seqL,seqR,blkB,gB,gB1,gB2,gB3,a_2,Ega,Egb,sA,seval,kn,hp]
 | false =>
  cases e1:op == [83,76,73,68,69] with
  | true=>simp only [e0,e1,Bool.true_or,Bool.false_or,Bool.or_true,Bool.or_false,seqL,seqR,blkB,gB,gB1,gB2,gB3,a_2,Ega,Egb,sA,seval,kn,hp]
  | false =>
   cases e2:op == [80,79,80] with
   | true=>simp only [e0,e1,e2,Bool.true_or,Bool.false_or,Bool.or_true,Bool.or_false,seqL,seqR,blkB,gB,gB1,gB2,gB3,a_2,Ega,Egb,sA,seval,kn,hp]
   | false =>
    cases e3:op == [65,76,76,79,67] with
    | true=>simp only [e0,e1,e2,e3,Bool.true_or,Bool.false_or,Bool.or_true,Bool.or_false,seqL,seqR,blkB,gB,gB1,gB2,gB3,a_2,Ega,Egb,sA,seval,kn,hp]
    | false =>
     cases e4:op == [83,80,76,73,84] with
     | true=>simp only [e0,e1,e2,e3,e4,Bool.true_or,Bool.false_or,Bool.or_true,Bool.or_false,seqL,seqR,blkB,gB,gB1,gB2,gB3,a_2,Ega,Egb,sA,seval,kn,hp]
     | false =>
      cases e5:op == [80,85,83,72,65] with
      | true=>simp only [e0,e1,e2,e3,e4,e5,Bool.true_or,Bool.false_or,Bool.or_true,Bool.or_false,seqL,seqR,blkB,gB,gB1,gB2,gB3,a_2,Ega,Egb,sA,seval,kn,hp]
      | false =>
       cases e6:op == [85,80,68,65,84,69] with
       | true=>simp only [e0,e1,e2,e3,e4,e5,e6,Bool.true_or,Bool.false_or,Bool.or_true,Bool.or_false,seqL,seqR,blkB,gB,gB1,gB2,gB3,a_2,Ega,Egb,sA,seval,kn,hp]
       | false =>
        simp only [e0,e1,e2,e3,e4,e5,e6,Bool.true_or,Bool.false_or,Bool.or_true,Bool.or_false,seqL,seqR,blkB,gB,gB1,gB2,gB3,a_2,Ega,Egb,sA,seval,kn,hp]
end
theorem gA5 {S:Specs} {N n:Nat} (h1:has S n_192=false) (h2:has S n_157=false) (h3:has S n_131=false) (X:ACode) (fs:List Fd) (hf:fs.length < 100000000) (hN:fs.length < N + 1) (ns:List Tx) (b:List In) (k p:Nat) (e1 e2 d:Int) (is cn:Bool) (i:In) (σ:Store) (hp:aget σ.objs p=some (inC i)) :
  exec (T S (N + 3)) n none (.seq (seqL gB4) X) (Egb fs ns b k p e1 e2 d is cn) σ=exec (T S (N + 3)) n none X (Egc fs ns b k p e1 e2 d is cn (fs.any (packQ i))) σ:=by
 have hc:=zm8 (S:=S) h1 h2 (N + 1) fs (.fn (.func n_131) [] [.ptr p 0]) n_131 [.ptr p 0] (packQ i) rfl (by omega) hN σ (fun j _=>zn2b (S:=S) h3 N i (fs.getD j f0) p σ hp)
 generalize fs.any (packQ i)=co at hc ⊢
 simp only [seqL,seqR,blkB,gB,gB1,gB2,gB3,gB4,a_2,Egb,Egc,sA,seval,kn,hc]
theorem zdfb {i:In} (h:(i.op == [80,65,67,75])=true) (fs:List Fd):fs.any (packQ i)=fs.any (packM i):=by
 congr 1
 funext f
 simp only [packQ,packM,h,Bool.not_true,Bool.false_or]
theorem zdeb {i:In} (h:(i.op == [80,65,67,75])=false) (fs:List Fd):fs.any (packQ i)=zc2 fs i.name (-1):=by
 unfold zc2
 congr 1
 funext f
 have hm:decide ((-1:Int) < 0)=true:=rfl
 simp only [packQ,fits1,h,hm,Bool.not_false,Bool.true_or]
end Go.Fu
namespace Go.Fu
open Go Go.Mx
set_option maxRecDepth 10000
set_option maxHeartbeats 8000000
def kst1 (s:Bool) (i:In) (e1 d:Int) (ds:List Int):Option (List Int) :=
 ifB (!s || (decide (d < 0) || (decide (d < e1) || (i.op == [85,78,87,73,78,68] && (d != 0))))) none (ifB (goesI i.op) (tellM i.n.toNat d ds) (some ds))
def Egd (fs:List Fd) (ns:List Tx) (b:List In) (k p:Nat) (e1 e2 d:Int):Env:={slots:=[(0,⟨false,dFs fs⟩),(1,⟨false,dSs ns⟩),(7,⟨false,.int .i64 b.length⟩),(8,⟨false,.ptr 2 0⟩),(10,⟨false,tellF⟩),(11,⟨false,.int .i64 k⟩),(12,⟨false,.ptr p 0⟩),(15,⟨false,.int .i64 d⟩),(72,⟨false,dIs b⟩),(73,⟨false,.int .i64 b.length⟩),(74,⟨false,.int .i64 k⟩),(193,⟨false,.bool false⟩)],locs:=[(13,(13,0))],boxes:=[(13,[⟨false,.int .i64 e1⟩,⟨false,.int .i64 e2⟩])],defers:=[]}
def GB4 (S:Specs) (N n:Nat) (fs:List Fd) (ns:List Tx) (b:List In) (k p m:Nat) (e1 e2 d:Int) (is cn co s:Bool) (i:In) (σ:Store) (ds:List Int):Prop :=
 (kst1 s i e1 d ds=none∧∃ σ',exec (T S (N + 1)) n none (seqL gB5) (Egc fs ns b k p e1 e2 d is cn co) σ=some (.ret,Ef6,σ')) ∨
  (∃ ds1 σ',kst1 s i e1 d ds=some ds1∧exec (T S (N + 1)) n none (seqL gB5) (Egc fs ns b k p e1 e2 d is cn co) σ=some (.normal,Egd fs ns b k p e1 e2 d,σ')∧KS σ' m ds1∧aget σ'.objs p=some (inC i)∧σ'.next=σ.next)
end Go.Fu
