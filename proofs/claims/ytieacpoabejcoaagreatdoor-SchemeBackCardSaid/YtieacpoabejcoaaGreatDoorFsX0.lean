/-
 Small functions: numbers,names,types made of types.
-/
import Derived.Test.YtieacpoabejcoaaGreatDoorFsT
import Derived.Test.YtieacpoabejcoaaGreatDoorFsIds
set_option maxHeartbeats 4000000
set_option linter.unusedSimpArgs false
set_option linter.unusedVariables false
set_option linter.unusedSectionVars false
namespace Go.Fu
open Go Go.Mx
set_option maxRecDepth 10000
def posOf (x:Int):Int:=if x < 0 then -(x + 1) else x
def aro (x:Int) (m:Nat):Nat:=(posOf x % (m:Int)).toNat
theorem zhr (x:Int) {m:Nat} (h:0 < m):aro x m < m:=by
 unfold aro
 have:=Int.emod_lt_of_pos (posOf x) (show (0:Int) < m by omega)
 have:=Int.emod_nonneg (posOf x) (show (m:Int)≠0 by omega)
 omega
theorem zlab (x:Int):0≤posOf x:=by unfold posOf; split <;> omega
theorem zvl (x:Int) {m:Nat} (h:0 < m):(posOf x).tmod m=((aro x m:Nat):Int):=by
 unfold aro
 rw [Int.tmod_eq_emod_of_nonneg (zlab x)]
 have:=Int.emod_nonneg (posOf x) (show (m:Int)≠0 by omega)
 omega
theorem zcpb:Evly fun n=>∀ (x:Int) (m:Nat) σ,Small x→0 < m→m < 1048576→T n n_4 [.int .i64 x,.int .i64 m] σ=some (.ret ⟨false,.int .i64 (aro x m)⟩,σ):=any _ fun n x m σ hx hm hm2=>by
 rw [T_fun (af:=a_108) rfl rfl]
 unfold Small at hx
 have hm0:(((m:Nat):Int) == 0)=false:=by simp; omega
 by_cases h:x < 0
 ·have hp:posOf x=-(x + 1):=if_pos h
  have w1:IntKind.i64.wrap (x + 1)=x + 1:=zb3 (by omega) (by omega)
  have w2:IntKind.i64.wrap (0 - (x + 1))=posOf x:=by rw [hp,zb3 (by omega) (by omega)]; omega
  simp only [a_108,sA,seval,kn,h,w1,w2,hm0,zvl x hm]
 ·have hp:posOf x=x:=if_neg h
  have ht:=zvl x hm
  rw [hp] at ht
  simp only [a_108,sA,seval,kn,h,hm0,ht]
theorem apply_run:Evly fun n=>∀ (f a:Tp) σ,T n n_39 [dT f,dT a] σ=some (.ret ⟨false,dT (.app f a)⟩,σ):=any _ fun n f a σ=>by
 rw [T_fun (af:=a_92) rfl rfl]
 simp only [a_92,sA,seval,kn,dT,dT_eq f,dT_eq a,cT]
theorem zsf:Evly fun n=>∀ (f a:Tp) σ,T n n_101 [dT f,dT a] σ=some (.ret ⟨false,dT (.app f a)⟩,σ):=any _ fun n f a σ=>by
 rw [T_fun (af:=a_140) rfl rfl]
 simp only [a_140,sA,seval,kn,dT,dT_eq f,dT_eq a,cT]
theorem zso:Evly fun n=>∀ (f a:Tp) σ,T n n_119 [dT f,dT a] σ=some (.ret ⟨false,dT (.app (.app (.con [45,62]) f) a)⟩,σ):=zsf.step 0 fun n _ h f a σ=>by
 rw [T_fun (af:=a_137) rfl rfl]
 have h1:=h (.con [45,62]) f σ
 have h2:=h (.app (.con [45,62]) f) a σ
 simp only [dT,dT_eq f,dT_eq a,cT] at h1 h2 ⊢
 simp only [a_137,sA,seval,kn,h1,h2]
theorem zg4b:Evly fun n=>∀ σ,T n n_220 [] σ=some (.ret ⟨false,.tup [dSs [[65],[66],[67],[68],[69]],dSs [[73,110,116],[66,111,111,108],[76]]]⟩,σ):=any _ fun n σ=>by
 rw [T_fun (af:=a_141) rfl rfl]
 simp only [a_141,sA,seval,kn,dSs,dlist]
end Go.Fu
namespace Go.Fu
open Go Go.Mx
set_option maxRecDepth 10000
theorem zba {α:Type} (l:List α) (i:Nat) (h:i < l.length):l.take i ++ [l[i]]=l.take (i + 1):=by
 rw [List.take_add_one,List.getElem?_eq_getElem h]
 simp
theorem ow_ne {α:Type} {l:List α} {i:Nat}:l.take i≠[]→ow i=true:=by
 cases i with
 | zero=>intro h; simp at h
 | succ i=>intro _; rfl
theorem zd0 {i:Nat}:ow (i + 1)=true:=rfl
theorem zd1:ow 0=false:=rfl
section own
variable {C:CallF} {n:Nat} {σ:Store}
def Eown (t:Tp) (i:Nat):Env:={slots:=[(3,⟨ow i,dlist k_2 ((t.args.take i).map dT)⟩),(7,⟨false,dlist k_2 (t.args.map dT)⟩),(8,⟨false,.int .i64 t.args.length⟩),(9,⟨false,.int .i64 i⟩)],locs:=[(1,1,0),(2,2,0)],boxes:=[(1,[⟨false,.int .i64 t.form⟩,⟨false,.int .i64 t.num⟩,⟨false,.str t.name⟩,⟨false,dlist k_2 (t.args.map dT)⟩]),(2,[⟨false,.int .i64 0⟩,⟨false,.int .i64 0⟩,⟨false,.str []⟩,⟨false,.nils⟩])],defers:=[]}
theorem zgxb (t:Tp) (i:Nat) (h:i < t.args.length) (hc:C n_11 [dT t.args[i]] σ=some (.ret ⟨false,dT t.args[i]⟩,σ)):exec C n none a_29 (Eown t i) σ=some (.normal,Eown t (i + 1),σ):=by
 have hi:((i:Int) < (t.args.length:Int)):=by omega
 have ha:=zpu (t.args.take i) t.args[i] (ow i) ow_ne (by have:=zjf t; simp; omega)
 rw [zba _ _ h] at ha
 have hd:=dT_eq t.args[i]
 simp only [cT] at hd
 rw [hd] at hc ha
 simp only [a_29,Eown,sA,seval,kn,hi,idx_T _ _ h,hd,hc,ha,zaj (i:=i) (by have:=zjf t; omega),zd0]
theorem zkob (t:Tp):exec C n none a_29 (Eown t t.args.length) σ=some (.exit 0,{Eown t t.args.length with slots:=[(3,⟨ow t.args.length,dlist k_2 (t.args.map dT)⟩),(7,⟨false,dlist k_2 (t.args.map dT)⟩),(8,⟨false,.int .i64 t.args.length⟩),(9,⟨false,.int .i64 t.args.length⟩),(10,⟨false,.bool false⟩)]},σ):=by
 have hi:¬ ((t.args.length:Int) < (t.args.length:Int)):=by omega
 simp only [a_29,Eown,sA,seval,kn,hi,List.take_length]
end own
theorem zi6:∀ t:Tp,Evly fun n=>∀ σ,T n n_11 [dT t] σ=some (.ret ⟨false,dT t⟩,σ):=by
 intro t
 have hk:Evly fun n=>∀ i (h:i < t.args.length) σ,T n n_11 [dT t.args[i]] σ=some (.ret ⟨false,dT t.args[i]⟩,σ):=by
  cases t with
  | app f a =>
   refine ((zi6 f).and (zi6 a)).mono fun n h i hi σ=>?_
   match i,hi with
   | 0,_=>exact h.1 σ
   | 1,_=>exact h.2 σ
  | hole n=>exact .all fun n i hi=>absurd hi (by simp [Tp.args])
  | var n=>exact .all fun n i hi=>absurd hi (by simp [Tp.args])
  | con n=>exact .all fun n i hi=>absurd hi (by simp [Tp.args])
 refine hk.step 4 fun m hm hrun σ=>?_
 rw [T_fun (af:=a_93) rfl rfl]
 have hloop:=zbz (body:=exec (T m) m none a_29) (Eown t) (fun _=>σ) t.args.length (r:=_) (fun _ _ h=>by cases h) (fun i hi=>zgxb t i hi (hrun i hi σ)) (zkob t) 0 m (by omega) (by have:=zjf t; omega)
 simp only [Eown,zeroI,List.take_zero,List.map_nil,zc0,zd1] at hloop
 simp only [a_93,sA,seval,kn,dT_eq t,cT,List.length_map,hloop]
section idx
variable {C:CallF} {n:Nat} {σ:Store}
def Eidx (l:List (List UInt8)) (s:List UInt8) (i:Nat):Env:={slots:=[(0,⟨false,dlist k_0 (l.map D.str)⟩),(1,⟨false,.str s⟩),(7,⟨false,.int .i64 l.length⟩),(8,⟨false,.int .i64 i⟩)],locs:=[],boxes:=[],defers:=[]}
theorem zgqb (l:List (List UInt8)) (s:List UInt8) (i:Nat) (h:i < l.length) (hl:l.length < 1048576) (hp:(s == l[i])=false):exec C n none a_10 (Eidx l s i) σ=some (.normal,Eidx l s (i + 1),σ):=by
 have hi:((i:Int) < (l.length:Int)):=by omega
 simp only [a_10,Eidx,sA,seval,kn,hi,idx_S _ _ h,hp,zaj (i:=i) (by omega)]
theorem zgrb (l:List (List UInt8)) (s:List UInt8) (i:Nat) (h:i < l.length) (hl:l.length < 1048576) (hp:(s == l[i])=true):exec C n none a_10 (Eidx l s i) σ=some (.ret,{slots:=[(4,⟨false,.int .i64 i⟩)],locs:=[],boxes:=[],defers:=[]},σ):=by
 have hi:((i:Int) < (l.length:Int)):=by omega
 simp only [a_10,Eidx,sA,seval,kn,hi,idx_S _ _ h,hp]
theorem zkhb (l:List (List UInt8)) (s:List UInt8):exec C n none a_10 (Eidx l s l.length) σ=some (.exit 0,{Eidx l s l.length with slots:=[(0,⟨false,dlist k_0 (l.map D.str)⟩),(1,⟨false,.str s⟩),(7,⟨false,.int .i64 l.length⟩),(8,⟨false,.int .i64 l.length⟩),(9,⟨false,.bool false⟩)]},σ):=by
 have hi:¬ ((l.length:Int) < (l.length:Int)):=by omega
 simp only [a_10,Eidx,sA,seval,kn,hi]
end idx
def posS (s:List UInt8):List (List UInt8)→Option Nat
 | []=>none
 | x :: l=>if s == x then some 0 else (posS s l).map (· + 1)
def posI (s:List UInt8) (l:List (List UInt8)):Int:=match posS s l with
 | some k=>k
 | none=>-1
theorem zn8 {s:List UInt8}:∀ {l:List (List UInt8)},(∀ i (h:i < l.length),(s == l[i])=false)→posS s l=none
 | [],_=>rfl
 | x :: l,h=>by
  have h0:=h 0 (by simp)
  simp only [List.getElem_cons_zero] at h0
  simp only [posS,h0,Bool.false_eq_true,if_false]
  rw [zn8 (l:=l) fun i hi=>by have:=h (i + 1) (by simpa using hi); simpa using this]
  rfl
theorem zn9 {s:List UInt8}:∀ {l:List (List UInt8)} {k:Nat} (hk:k < l.length),(∀ i (h:i < l.length),i < k→(s == l[i])=false)→(s == l[k])=true→posS s l=some k
 | [],k,hk,_,_=>by simp at hk
 | x :: l,0,hk,_,h=>by
  simp only [List.getElem_cons_zero] at h
  simp only [posS,h,if_true]
 | x :: l,k + 1,hk,h,hp=>by
  have h0:=h 0 (by simp) (by omega)
  simp only [List.getElem_cons_zero] at h0
  simp only [posS,h0,Bool.false_eq_true,if_false]
  rw [zn9 (l:=l) (k:=k) (by simpa using hk) (fun i hi hik=>by have:=h (i + 1) (by simpa using hi) (by omega); simpa using this) (by simpa using hp)]
  rfl
theorem ztb {s:List UInt8}:∀ {l:List (List UInt8)} {k:Nat},posS s l=some k→k < l.length
 | [],k,h=>by simp [posS] at h
 | x :: l,k,h=>by
  simp only [posS] at h
  split at h
  ·cases h; simp
  ·cases hp:posS s l with
   | none=>rw [hp] at h; simp at h
   | some j =>
    rw [hp] at h
    simp at h
    have:=ztb hp
    simp
    omega
def atF (l:List (List UInt8)) (s:List UInt8) (i:Nat):Bool:=match l[i]? with
 | some x=>!(s == x)
 | none=>true
theorem ze9 {l:List (List UInt8)} {s:List UInt8} {i:Nat} (h:i < l.length):atF l s i=!(s == l[i]):=by simp [atF,h]
theorem zj3 (l:List (List UInt8)) (s:List UInt8) (hl:l.length < 1048576):Evly fun n=>∀ σ,T n n_66 [dSs l,.str s] σ=some (.ret ⟨false,.int .i64 (posI s l)⟩,σ) :=
 (Evly.all (p:=fun _=>True) fun _=>trivial).step (l.length + 2) fun m hm _ σ=>by
 rw [T_fun (af:=a_28) rfl rfl]
 have hloop:=zfb (body:=exec (T m) m none a_10) (Eidx l s) (fun _=>σ) l.length (atF l s) (stop:=fun i=>(.ret,{slots:=[(4,⟨false,.int .i64 i⟩)],locs:=[],boxes:=[],defers:=[]},σ)) (fun _ _ h=>by cases h) (fun _ _ _ h=>by cases h)
  (fun i hi hp=>zgqb l s i hi hl (by rw [ze9 hi] at hp; simpa using hp)) (fun i hi hp=>zgrb l s i hi hl (by rw [ze9 hi] at hp; simpa using hp)) (zkhb l s) m 0 (by omega) (by omega)
 simp only [Eidx,zeroI] at hloop
 rcases hloop with ⟨i,_,hi,hp,hb,hrest⟩ | ⟨hp,hrest⟩
 ·have hv:posI s l=i:=by
   unfold posI
   rw [zn9 hi (fun k hk hki=>by have:=hb k (Nat.zero_le _) hki; rw [ze9 hk] at this; simpa using this) (by rw [ze9 hi] at hp; simpa using hp)]
  simp only [a_28,sA,seval,kn,dSs,List.length_map,hrest,hv]
 ·have hv:posI s l=-1:=by
   unfold posI
   rw [zn8 fun k hk=>by have:=hp k (Nat.zero_le _) hk; rw [ze9 hk] at this; simpa using this]
  simp only [a_28,sA,seval,kn,dSs,List.length_map,hrest,hv]
end Go.Fu
namespace Go.Fu
open Go Go.Mx
set_option maxRecDepth 10000
def subT (names:List (List UInt8)) (bys:List Tp):Tp→Tp
 | .var s=>match posS s names with
  | some k=>bys.getD k (.var s)
  | none=>.var s
 | .app f a=>.app (subT names bys f) (subT names bys a)
 | .hole n=>.hole n
 | .con s=>.con s
theorem Evly.here {p:Nat→Prop} (h:Evly p):Evly p:=h
theorem zgo (names:List (List UInt8)) (bys:List Tp) (hl:names.length < 1048576) (hb:bys.length=names.length):∀ t:Tp,Evly fun n=>∀ σ,T n n_26 [dT t,dSs names,dTs bys] σ=some (.ret ⟨false,dT (subT names bys t)⟩,σ)
 | .hole x=>(zi6 (.hole x)).step 0 fun m _ hown σ=>by
  have h1:=hown σ
  simp only [dT] at h1
  rw [T_fun (af:=a_22) rfl rfl]
  simp only [a_22,sA,seval,kn,subT,dT,h1]
 | .con s=>(zi6 (.con s)).step 0 fun m _ hown σ=>by
  have h1:=hown σ
  simp only [dT] at h1
  rw [T_fun (af:=a_22) rfl rfl]
  simp only [a_22,sA,seval,kn,subT,dT,h1]
 | .app f a=>((zgo names bys hl hb f).and ((zgo names bys hl hb a).and apply_run)).step 0 fun m _ h σ=>by
  have h1:=h.1 σ
  have h2:=h.2.1 σ
  have h3:=h.2.2 (subT names bys f) (subT names bys a) σ
  rw [T_fun (af:=a_22) rfl rfl]
  simp only [subT,dT] at h3 ⊢
  rw [dT_eq f] at h1 ⊢
  rw [dT_eq a] at h2 ⊢
  rw [dT_eq (subT names bys f)] at h1 h3 ⊢
  rw [dT_eq (subT names bys a)] at h2 h3 ⊢
  simp only [cT] at h1 h2 h3 ⊢
  simp only [a_22,sA,seval,kn,h1,h2,h3]
 | .var s=>by
  cases hp:posS s names with
  | none =>
   refine ((zi6 (.var s)).and (zj3 names s hl)).step 0 fun m _ h σ=>?_
   have h1:=h.1 σ
   have h2:=h.2 σ
   simp only [dT,posI,hp] at h1 h2
   rw [T_fun (af:=a_22) rfl rfl]
   simp only [a_22,sA,seval,kn,subT,dT,h1,h2,hp]
  | some k =>
   have hk:=ztb hp
   have hkb:k < bys.length:=by omega
   refine ((zi6 bys[k]).and (zj3 names s hl)).step 0 fun m _ h σ=>?_
   have h1:=h.1 σ
   have h2:=h.2 σ
   have h0:(0:Int)≤(k:Int):=by omega
   have hx:=idx_T bys k hkb
   have hg:bys.getD k (.var s)=bys[k]:=by simp [hkb]
   simp only [posI,hp] at h2
   rw [T_fun (af:=a_22) rfl rfl]
   simp only [subT,hp,hg]
   rw [dT_eq bys[k]] at h1 hx ⊢
   simp only [cT] at h1 hx ⊢
   simp only [a_22,sA,seval,kn,subT,dTs,dT,h1,h2,h0,hx]
end Go.Fu
namespace Go.Fu
open Go Go.Mx
set_option maxRecDepth 10000
theorem za6 {body:Env→Store→XRes} {k:Nat} {e e':Env} {σ:Store} {x:Nat} (h:body e σ=some (.exit x,e',σ)):loopN body (k + 1) e σ=some (.exit x,e',σ):=by
 rw [loopN,h]
theorem zb2 {body:Env→Store→XRes} {k:Nat} {e e':Env} {σ σ':Store} (h:body e σ=some (.normal,e',σ')):loopN body (k + 1) e σ=loopN body k e' σ':=by
 rw [loopN,h]
def bT (t:Tp):List Cell:=[⟨false,.int .i64 t.form⟩,⟨false,.int .i64 t.num⟩,⟨false,.str t.name⟩,⟨false,dlist k_2 (t.args.map dT)⟩]
section
variable {C:CallF} {n:Nat} {σ:Store}
def Eeq (t:Tp) (i:Nat):Env:={slots:=[(5,⟨false,.int .i64 i⟩)],locs:=[(2,2,0),(3,3,0)],boxes:=[(2,bT t),(3,bT t)],defers:=[]}
theorem zkdb (t:Tp) (i:Nat) (h:i < t.args.length) (hc:C n_62 [dT t.args[i],dT t.args[i]] σ=some (.ret ⟨false,.bool true⟩,σ)):exec C n none a_83 (Eeq t i) σ=some (.normal,Eeq t (i + 1),σ):=by
 have hi:((i:Int) < (t.args.length:Int)):=by omega
 have hx:=idx_T t.args i h
 rw [dT_eq t.args[i]] at hc hx
 simp only [cT] at hc hx
 simp only [a_83,Eeq,bT,sA,seval,kn,List.length_map,hi,hx,hc,zaj (i:=i) (by have:=zjf t; omega)]
theorem znib (t:Tp):exec C n none a_83 (Eeq t t.args.length) σ=some (.exit 0,{Eeq t t.args.length with slots:=[(5,⟨false,.int .i64 t.args.length⟩),(39,⟨false,.bool false⟩)]},σ):=by
 have hi:¬ ((t.args.length:Int) < (t.args.length:Int)):=by omega
 simp only [a_83,Eeq,bT,sA,seval,kn,List.length_map,hi]
end
theorem znj:∀ t:Tp,Evly fun n=>∀ σ,T n n_62 [dT t,dT t] σ=some (.ret ⟨false,.bool true⟩,σ):=by
 intro t
 have hk:Evly fun n=>∀ i (h:i < t.args.length) σ,T n n_62 [dT t.args[i],dT t.args[i]] σ=some (.ret ⟨false,.bool true⟩,σ):=by
  cases t with
  | app f a =>
   refine ((znj f).and (znj a)).mono fun n h i hi σ=>?_
   match i,hi with
   | 0,_=>exact h.1 σ
   | 1,_=>exact h.2 σ
  | hole n=>exact .all fun n i hi=>absurd hi (by simp [Tp.args])
  | var n=>exact .all fun n i hi=>absurd hi (by simp [Tp.args])
  | con n=>exact .all fun n i hi=>absurd hi (by simp [Tp.args])
 refine hk.step 4 fun m hm hrun σ=>?_
 rw [T_fun (af:=a_136) rfl rfl]
 have hloop:=zbz (body:=exec (T m) m none a_83) (Eeq t) (fun _=>σ) t.args.length (r:=_) (fun _ _ h=>by cases h) (fun i hi=>zkdb t i hi (hrun i hi σ)) (znib t) 0 m (by omega) (by have:=zjf t; omega)
 simp only [Eeq,bT,zeroI] at hloop
 have e1:(t.form != t.form)=false:=by simp
 have e2:(t.num != t.num)=false:=by simp
 have e3:(t.name != t.name)=false:=by simp
 have e4:((t.args.length:Int) != (t.args.length:Int))=false:=by simp
 simp only [a_136,sA,seval,kn,dT_eq t,cT,List.length_map,e1,e2,e3,e4,hloop]
end Go.Fu
namespace Go.Fu
open Go Go.Mx
set_option maxRecDepth 10000
theorem lit1:((1:Nat):Int)=1:=rfl
theorem lit2:((2:Nat):Int)=2:=rfl
theorem lit3:((3:Nat):Int)=3:=rfl
theorem lit4:((4:Nat):Int)=4:=rfl
theorem lit5:((5:Nat):Int)=5:=rfl
theorem lit6:((6:Nat):Int)=6:=rfl
theorem lit7:((7:Nat):Int)=7:=rfl
theorem lit8:((8:Nat):Int)=8:=rfl
theorem ze7:Evly fun n=>∀ (x:Int) (m:Nat) (k:Int) σ,Small x→k=(m:Int)→0 < m→m < 1048576→T n n_4 [.int .i64 x,.int .i64 k] σ=some (.ret ⟨false,.int .i64 (aro x m)⟩,σ):=zcpb.mono fun n h x m k σ hx hk h1 h2=>by
 subst hk
 exact h x m σ hx h1 h2
def dI (x:Int):D:=.int .i64 x
def Row (d:D) (xs:List Int):Prop:=zqs k_int d xs
theorem zd2 {d:D} {xs:List Int} (h:Row d xs):lenOf d=some xs.length:=by
 rcases h with rfl | ⟨rfl,rfl⟩
 ·simp [lenOf]
 ·rfl
theorem zov {d:D} {xs:List Int} (h:Row d xs) (i:Nat) (hi:i < xs.length):zaw 1 d i=some (.eptr (.int .i64 xs[i])):=by
 rcases h with rfl | ⟨rfl,rfl⟩
 ·have hn:nth (xs.map fun x=>D.int .i64 x) i=some (.int .i64 xs[i]):=by rw [zkz,zky _ _ hi]; rfl
  rw [idxL,hn]
  rfl
 ·simp at hi
theorem zjx {d:D} {x:Int} {xs:List Int} (h:Row d (x :: xs)):∃ d',za2 1 d 1 none=some d'∧Row d' xs:=by
 rcases h with rfl | ⟨h,_⟩
 ·refine ⟨.list k_int (xs.map fun x=>.int .i64 x),?_,.inl rfl⟩
  have h1:(xs.map fun x=>D.int .i64 x).take xs.length=xs.map fun x=>.int .i64 x:=List.take_of_length_le (by simp)
  simp only [za2,List.map_cons,List.length_cons,Option.getD_none,List.length_map,List.drop_succ_cons,List.drop_zero,k_98]
  simp [ifB]
  exact h1
 ·cases h
theorem zl1 (d:D) (xs:List Int) (m:Nat) (h:Row d xs) (hm:m < 1048576):∃ d',Row d' (xs.take m)∧∃ o,Evly fun n=>∀ σ,T n n_117 [d,.int .i64 m] σ=some (.ret ⟨o,d'⟩,σ):=by
 have hlen:=zd2 h
 have hmin:ifB (decide ((m:Int) < ((xs.length:Nat):Int))) (m:Int) ((xs.length:Nat):Int)=((min xs.length m:Nat):Int):=by
  by_cases hc:(m:Int) < ((xs.length:Nat):Int)
  ·rw [decide_eq_true hc,zac]; omega
  ·rw [decide_eq_false hc,zad]; omega
 rcases h with rfl | ⟨rfl,rfl⟩
 ·refine ⟨dlist k_int ((xs.take m).map dI),?_,true,any _ fun n σ=>?_⟩
  ·cases xs with
   | nil=>exact .inr ⟨by simp,by simp [dlist]⟩
   | cons x r=>cases m with
    | zero=>exact .inr ⟨by simp,by simp [dlist]⟩
    | succ m=>exact .inl (by simp [dlist,dI]; rfl)
  ·rw [T_fun (af:=a_81) rfl rfl]
   have hs:za2 1 (.list k_int (xs.map fun x=>.int .i64 x)) 0 (some (min xs.length m))=some (.list k_int ((xs.take m).map dI)):=by
    have h1:(xs.map fun x=>D.int .i64 x).take (min xs.length m)=(xs.take m).map dI:=by
     rcases Nat.le_total m xs.length with h | h
     ·rw [Nat.min_eq_right h,List.map_take]; rfl
     ·rw [Nat.min_eq_left h,List.take_of_length_le (by simp),List.take_of_length_le h]; rfl
    simp only [za2,Option.getD_some,List.length_map,k_98]
    simp [ifB,Nat.min_le_left]
    exact h1.trans (by rw [List.map_take])
   have ha:=zyr (r:=k_int) (by_:=8) (es:=[]) (ys:=(xs.take m).map dI) (o:=false) (fun h=>absurd rfl h) (by intro d hd; obtain ⟨v,_,rfl⟩:=List.mem_map.1 hd; exact ⟨rfl,rfl⟩) (by simp [bound]; omega) (by simp [bound]; omega)
   simp only [zc0,List.nil_append] at ha
   simp only [a_81,sA,Nat.reduceAdd,Nat.reduceSub,Nat.reduceMul,Nat.reduceBEq,Nat.reduceLeDiff,Int.reduceBEq,Int.reduceBNe,Int.reduceLE,Int.reduceLT,Int.reduceGE,Int.reduceGT,Int.reduceNeg,kn,hlen,hs,ha,List.length_map,hmin]
   done
 ·refine ⟨.nils,.inr ⟨by simp,rfl⟩,true,any _ fun n σ=>?_⟩
  rw [T_fun (af:=a_81) rfl rfl]
  have hmin0:ifB (decide ((m:Int) < ((0:Nat):Int))) (m:Int) ((0:Nat):Int)=0:=by
   rw [decide_eq_false (by omega),zad]
   rfl
  have hs0:za2 1 .nils 0 (some 0)=some .nils:=rfl
  have ha0:zbb k_int 8 ⟨false,.nils⟩ []=some ⟨true,.nils⟩:=rfl
  simp only [a_81,sA,Nat.reduceAdd,Nat.reduceSub,Nat.reduceMul,Nat.reduceBEq,Nat.reduceLeDiff,Int.reduceBEq,Int.reduceBNe,Int.reduceLE,Int.reduceLT,Int.reduceGE,Int.reduceGT,Int.reduceNeg,kn,hmin0,hs0,ha0]
  done
def pk:List Int→Nat
 | []=>0
 | x :: _=>aro x 100000
theorem pk_lt (xs:List Int):pk xs < 100000:=by
 cases xs with
 | nil=>simp [pk]
 | cons x r=>exact zhr x (by omega)
theorem zqg (d:D) (xs:List Int) (h:Row d xs) (hs:∀ x∈xs,Small x):Evly fun n=>∀ σ,T n n_13 [d,.int .i64 0] σ=some (.ret ⟨false,.int .i64 (pk xs)⟩,σ):=ze7.step 0 fun n _ har σ=>by
 rw [T_fun (af:=a_109) rfl rfl]
 have hlen:=zd2 h
 cases xs with
 | nil=>simp only [a_109,sA,Nat.reduceAdd,Nat.reduceSub,Nat.reduceMul,Nat.reduceBEq,Nat.reduceLeDiff,Int.reduceBEq,Int.reduceBNe,Int.reduceLE,Int.reduceLT,Int.reduceGE,Int.reduceGT,Int.reduceNeg,kn,hlen,pk,zeroI,lit1,lit2,lit3,lit4,lit5,lit6,lit7,lit8]
        done
 | cons x r =>
  have hx:=zov h 0 (by simp)
  have h1:=har x 100000 100000 σ (hs x (by simp)) rfl (by omega) (by omega)
  have hg:¬ ((0:Int) ≥ ((r.length + 1:Nat):Int)):=by omega
  simp only [List.getElem_cons_zero] at hx
  simp only [a_109,sA,Nat.reduceAdd,Nat.reduceSub,Nat.reduceMul,Nat.reduceBEq,Nat.reduceLeDiff,Int.reduceBEq,Int.reduceBNe,Int.reduceLE,Int.reduceLT,Int.reduceGE,Int.reduceGT,Int.reduceNeg,kn,hlen,hx,hg,pk,h1]
  done
def nmS (x:Int):List UInt8:=match aro x 4 with
 | 0=>[97]
 | 1=>[98]
 | 2=>[99]
 | _=>[120]
theorem zf8:Evly fun n=>∀ (x:Int) σ,Small x→T n n_30 [.int .i64 x] σ=some (.ret ⟨false,.str (nmS x)⟩,σ):=ze7.step 0 fun n _ har x σ hx=>by
 rw [T_fun (af:=a_138) rfl rfl]
 have h1:=har x 4 4 σ hx rfl (by omega) (by omega)
 have h2:=zhr x (m:=4) (by omega)
 have h4:aro x 4=0∨aro x 4=1∨aro x 4=2∨aro x 4=3:=by omega
 rcases h4 with h4 | h4 | h4 | h4 <;> rw [h4] at h1 <;> simp only [zeroI,lit1,lit2,lit3,lit4,lit5,lit6,lit7,lit8] at h1 <;> simp only [nmS,h4] <;> simp only [a_138,sA,Nat.reduceAdd,Nat.reduceSub,Nat.reduceMul,Nat.reduceBEq,Nat.reduceLeDiff,Int.reduceBEq,Int.reduceBNe,Int.reduceLE,Int.reduceLT,Int.reduceGE,Int.reduceGT,Int.reduceNeg,kn,zeroI,lit1,lit2,lit3,lit4,lit5,lit6,lit7,lit8,h1]
 all_goals done
def cnS (x:Int):List UInt8:=match aro x 6 with
 | 0=>[73,110,116]
 | 1=>[66,111,111,108]
 | 2=>[76]
 | 3=>[80]
 | 4=>[70]
 | _=>[45,62]
theorem zoq:Evly fun n=>∀ (x:Int) σ,Small x→T n n_100 [.int .i64 x] σ=some (.ret ⟨false,.str (cnS x)⟩,σ):=ze7.step 0 fun n _ har x σ hx=>by
 rw [T_fun (af:=a_135) rfl rfl]
 have h1:=har x 6 6 σ hx rfl (by omega) (by omega)
 have h2:=zhr x (m:=6) (by omega)
 have h4:aro x 6=0∨aro x 6=1∨aro x 6=2∨aro x 6=3∨aro x 6=4∨aro x 6=5:=by omega
 rcases h4 with h4 | h4 | h4 | h4 | h4 | h4 <;> rw [h4] at h1 <;> simp only [zeroI,lit1,lit2,lit3,lit4,lit5,lit6,lit7,lit8] at h1 <;> simp only [cnS,h4] <;> simp only [a_135,sA,Nat.reduceAdd,Nat.reduceSub,Nat.reduceMul,Nat.reduceBEq,Nat.reduceLeDiff,Int.reduceBEq,Int.reduceBNe,Int.reduceLE,Int.reduceLT,Int.reduceGE,Int.reduceGT,Int.reduceNeg,kn,zeroI,lit1,lit2,lit3,lit4,lit5,lit6,lit7,lit8,h1]
 all_goals done
end Go.Fu
namespace Go.Fu
open Go Go.Mx
set_option maxRecDepth 10000
theorem fnq:(∀ p c:List D,(D.fn (.func n_74) p c).fn?=some (n_74,p,c))∧(∀ p c:List D,(D.fn (.func n_48) p c).fn?=some (n_48,p,c))∧(∀ p c:List D,(D.fn (.func n_49) p c).fn?=some (n_49,p,c))∧(∀ p c:List D,(D.fn (.func n_14) p c).fn?=some (n_14,p,c))∧(∀ p c:List D,(D.fn (.func n_38) p c).fn?=some (n_38,p,c))∧(∀ p c:List D,(D.fn (.func n_16) p c).fn?=some (n_16,p,c)):=⟨fun _ _=>rfl,fun _ _=>rfl,fun _ _=>rfl,fun _ _=>rfl,fun _ _=>rfl,fun _ _=>rfl⟩
def dN (n:Nat):D:=.int .i64 (n:Int)
def dNs (l:List Nat):D:=dlist k_int (l.map dN)
theorem idx_N (l:List Nat) (i:Nat) (h:i < l.length):zaw 1 (dlist k_int (l.map dN)) i=some (.eptr (.int .i64 (l[i]:Int))):=zi4 rfl _ _ _ h
theorem itoa0 (n:Nat) (x:Int) (u:List UInt8) (σ:Store) (h:xItoa [.int .i64 x]=some (.str u)):T (n + 1) n_23 [.int .i64 x] σ=some (.ret ⟨false,.str u⟩,σ):=by
 rw [T_lib rfl]
 show bindO (xItoa [.int .i64 x]) _=_
 rw [h]
 rfl
theorem zp3:Evly fun n=>∀ (x:Nat) σ,x < 6→T n n_23 [.int .i64 (x:Int)] σ=some (.ret ⟨false,.str [UInt8.ofNat (48 + x)]⟩,σ):=any _ fun n x σ hx=>by
 have h:x=0∨x=1∨x=2∨x=3∨x=4∨x=5:=by omega
 rcases h with rfl | rfl | rfl | rfl | rfl | rfl <;> exact itoa0 n _ _ σ rfl
structure WF (σ:Store):Prop where
 objs:∀ p∈σ.objs,p.1 < σ.next
 tys:∀ p∈σ.tys,p.1 < σ.next
 oth:∀ p∈σ.oth,p.1 < σ.next
def bump (σ:Store) (k:Nat):Store:={objs:=σ.objs,tys:=σ.tys,oth:=σ.oth,next:=σ.next + k}
theorem zzs {k:RowK} {x:D} {l:List D}:(D.list k (x :: l)).isNilS?=some false:=rfl
theorem zll {α:Type}:∀ (l:List (Nat × α)) (n:Nat),(∀ p∈l,p.1 < n)→adel1 l n=l
 | [],_,_=>rfl
 | (k,x) :: l,n,h=>by
  have hk:k < n:=h (k,x) (by simp)
  have hb:(k == n)=false:=by simp; omega
  have:=zll l n fun p hp=>h p (List.mem_cons_of_mem _ hp)
  simp only [adel1,hb,this]
  rfl
theorem zeq {α:Type} (l:List (Nat × α)) (n:Nat) (h:∀ p∈l,p.1 < n):l.filter (fun p=>decide (p.1 < n))=l:=by
 rw [List.filter_eq_self]
 intro p hp
 exact decide_eq_true (h p hp)
theorem zdi {n:Nat} {k:RowK} {cs:List D} {os:Objs}:zax (n + 1) (dlist k cs) os=some (dlist k cs,os):=by cases cs <;> rfl
theorem zee {C:CallF} {n:Nat} {ts:List FTgt} {b:ACode} {e:Env} {σ:Store}:exec C n none (.frz ts b) e σ=bindO (zbo ts e σ) fun x=>exec C n none b x.1 x.2:=rfl
theorem zc4 {n:Nat} {k:IntKind} {x:Int} {os:Objs}:zax (n + 1) (.int k x) os=some (.int k x,os):=rfl
theorem zc5 {n:Nat} {x:List UInt8} {os:Objs}:zax (n + 1) (.str x) os=some (.str x,os):=rfl
theorem zhm {n:Nat} {k:RowK} {id off len:Nat} {os:Objs}:zax (n + 1) (.arr k id off len) os=bindO (aget os id) fun cs=>ifB ((k.ag || k.sz == 1) && decide ((off + len) * k.sz≤cs.length)) (bindO (zdg (zax n) (elems k cs off len) (adel1 os id)) fun r=>some (.list k r.1,r.2)) none:=rfl
theorem zkg {n:Nat} {ds:List D} {os:Objs}:zax (n + 1) (.agg ds) os=bindO (zdg (zax n) ds os) fun r=>some (.agg r.1,r.2):=rfl
end Go.Fu
namespace Go.Fu
open Go Go.Mx
set_option maxRecDepth 10000
theorem zek:∀ a b:List D,cellsOf (a ++ b)=cellsOf a ++ cellsOf b
 | [],b=>rfl
 | d :: a,b=>by simp only [List.cons_append,cellsOf,zek a b,List.append_assoc]
theorem zio:∀ a:List D,(cellsOf a).map (fun c=>Cell.of c.d)=cellsOf a
 | []=>rfl
 | d :: a=>by
  simp only [cellsOf,List.map_append,List.map_map,zio a]
  rfl
theorem zcr {z:Nat}:∀ a:List D,(∀ d∈a,d.cells.length=z)→(cellsOf a).length=a.length * z
 | [],_=>by simp [cellsOf]
 | d :: a,h=>by
  have h1:=h d (by simp)
  have h2:=zcr a fun x hx=>h x (List.mem_cons_of_mem _ hx)
  simp only [cellsOf,List.length_append,List.length_map,h1,h2,List.length_cons,Nat.succ_mul,Nat.add_comm]
theorem zjd {σ:Store} {k:RowK} {by_ id:Nat} {ds:List D} {y:D} {os:Objs} (ha:aget σ.objs id=some (cellsOf ds)) (hb':aget σ.tys id=some ⟨k.el,k.sz⟩) (hd:adel1 σ.objs id=os)
  (hs:∀ d∈ds,d.cells.length=k.sz) (hk:y.ok=true) (hy:y.cells.length=k.sz) (hb:(ds.length + 1) * by_≤bound) (hb2:ds.length + 1≤bound) :
  zbr σ k by_ (.arr k id 0 ds.length) [y]=some (.arr k σ.next 0 (ds.length + 1),{objs:=(σ.next,cellsOf (ds ++ [y])) :: os,tys:=(σ.next,⟨k.el,k.sz⟩) :: σ.tys,oth:=σ.oth,next:=σ.next + 2}):=by
 have h1:zau k.sz [y]=true:=by simp [zau,hk,hy]
 have hl:=zcr ds hs
 have ht2:(cellsOf ds).take (ds.length * k.sz)=cellsOf ds:=List.take_of_length_le (by omega)
 have e0:decide (ds.length * k.sz≤(cellsOf ds).length)=true:=by simp; omega
 have e1:decide ((ds.length + 1) * by_≤bound)=true:=by simpa using hb
 have e2:decide (ds.length + 1≤bound)=true:=by simpa using hb2
 have ek:k.same k=true:=by simp [RowK.same]
 have en:(cellsOf ds).map (fun c=>Cell.of c.d) ++ cellsOf [y]=cellsOf (ds ++ [y]):=by rw [zio,zek]
 simp only [zbr,h1,ifB,ha,bindO,zab,hb',ek,List.length_cons,List.length_nil,Nat.zero_add,e0,e1,e2,hd,ht2,en,zav,beq_self_eq_true,Bool.and_self]
theorem zje {σ:Store} {k:RowK} {by_:Nat} {y:D} (hk:y.ok=true) (hy:y.cells.length=k.sz) (hb:by_≤bound) :
  zbr σ k by_ .nils [y]=some (.arr k σ.next 0 1,{objs:=(σ.next,cellsOf [y]) :: σ.objs,tys:=(σ.next,⟨k.el,k.sz⟩) :: σ.tys,oth:=σ.oth,next:=σ.next + 2}):=by
 have h1:zau k.sz [y]=true:=by simp [zau,hk,hy]
 have e1:decide (1 * by_≤bound)=true:=by simpa using hb
 have e2:decide (1≤bound)=true:=by decide
 simp only [zbr,h1,ifB,List.length_cons,List.length_nil,Nat.zero_add,e1,e2,zav,List.isEmpty_cons,Bool.and_self]
theorem zna {k:RowK}:∀ ds:List D,(∀ d∈ds,d.cells.length=k.sz∧packD k d.cells=d)→zdl k ds.length ((cellsOf ds).map fun c=>c.d)=ds
 | [],_=>rfl
 | d :: ds,h=>by
  obtain ⟨h1,h2⟩:=h d (by simp)
  have h3:=zna ds fun x hx=>h x (List.mem_cons_of_mem _ hx)
  have e1:(d.cells.map Cell.of).map (fun c=>c.d)=d.cells:=by
   rw [List.map_map]
   exact List.map_id'' (fun _=>rfl) _
  simp only [List.length_cons,zdl,cellsOf,List.map_append,e1]
  rw [List.take_left' h1,List.drop_left' h1,h2,h3]
theorem zkf {k:RowK} {ds:List D} (h:∀ d∈ds,d.cells.length=k.sz∧packD k d.cells=d):elems k (cellsOf ds) 0 ds.length=ds:=by
 simp only [elems,Nat.zero_mul,List.drop_zero]
 exact zna ds h
theorem zit {n:Nat} {os:Objs}:∀ ds:List D,(∀ d∈ds,zax n d os=some (d,os))→zdg (zax n) ds os=some (ds,os)
 | [],_=>rfl
 | d :: ds,h=>by
  have h1:=h d (by simp)
  have h2:=zit ds fun x hx=>h x (List.mem_cons_of_mem _ hx)
  simp only [zdg,h1,bindO,zab,h2]
theorem zhn {k:RowK} {id n:Nat} {ds:List D} {os os':Objs} (ho:aget os id=some (cellsOf ds)) (hd:adel1 os id=os') (hk:(k.ag || k.sz == 1)=true) (h:∀ d∈ds,d.cells.length=k.sz∧packD k d.cells=d) (hf:∀ d∈ds,zax n d os'=some (d,os')) :
  zax (n + 1) (.arr k id 0 ds.length) os=some (.list k ds,os'):=by
 have hl:=zcr ds fun d hd=>(h d hd).1
 have e0:decide ((0 + ds.length) * k.sz≤(cellsOf ds).length)=true:=by simp; omega
 simp only [zhm,ho,bindO,zab,hk,e0,Bool.and_self,ifB,zkf h,hd,zit ds hf]
end Go.Fu
namespace Go.Fu
open Go Go.Mx
set_option maxRecDepth 10000
theorem zcp {body:Env→Store→XRes} (P:Nat→Env→Store→Prop) (Q:AExit × Env × Store→Prop) (k:Nat) (hstep:∀ i e σ,i < k→P i e σ→∃ e' σ',body e σ=some (.normal,e',σ')∧P (i + 1) e' σ')
  (hend:∀ e σ,P k e σ→∃ r,body e σ=some r∧(∀ e σ,r≠(.normal,e,σ))∧Q r):∀ (j n:Nat) (e:Env) (σ:Store),j≤k→k < n + j→P j e σ→∃ r,loopN body n e σ=some r∧Q r
 | j,0,e,σ,h1,h2,_=>by omega
 | j,n + 1,e,σ,h1,h2,hp=>by
  rw [loopN]
  by_cases hj:j=k
  ·subst hj
   obtain ⟨r,hr,hn,hq⟩:=hend e σ hp
   rw [hr]
   obtain ⟨x,e',σ'⟩:=r
   cases x with
   | normal=>exact absurd rfl (hn e' σ')
   | _=>exact ⟨_,rfl,hq⟩
  ·obtain ⟨e',σ',hb,hp'⟩:=hstep j e σ (by omega) hp
   rw [hb]
   exact zcp P Q k hstep hend (j + 1) n e' σ' (by omega) (by omega) hp'
theorem zam {α:Type}:∀ (l:List (Nat × α)) (i j:Nat),i≠j→aget (adel1 l j) i=aget l i
 | [],_,_,_=>rfl
 | (k,x) :: l,i,j,h=>by
  have ih:=zam l i j h
  simp only [adel1,aget]
  cases hkj:k == j with
  | true =>
   have:k=j:=by simpa using hkj
   have hki:(k == i)=false:=beq_false_of_ne (by omega)
   rw [zac,hki,zad,ih]
  | false=>rw [zad,aget,ih]
theorem zeb {α:Type}:∀ (l:List (Nat × α)) (j:Nat) (p:Nat × α),p∈adel1 l j→p∈l
 | [],_,_,h=>h
 | (k,x) :: l,j,p,h=>by
  simp only [adel1] at h
  cases hkj:k == j with
  | true=>rw [hkj,zac] at h; exact List.mem_cons_of_mem _ (zeb l j p h)
  | false =>
   rw [hkj,zad] at h
   rcases List.mem_cons.1 h with rfl | h
   ·simp
   ·exact List.mem_cons_of_mem _ (zeb l j p h)
theorem zak {α:Type}:∀ (l:List (Nat × α)) (i j:Nat) (x:α),aget (aset l j x) i=if i=j then some x else aget l i
 | [],i,j,x=>by
  simp only [aset,aget]
  by_cases h:i=j
  ·subst h; simp [ifB]
  ·have:(j == i)=false:=beq_false_of_ne (by omega)
   rw [this,zad,if_neg h]
 | (k,y) :: l,i,j,x=>by
  have ih:=zak l i j x
  simp only [aset]
  cases hkj:k == j with
  | true =>
   have:k=j:=by simpa using hkj
   subst this
   rw [zac,aget]
   by_cases h:i=k
   ·subst h; simp [ifB]
   ·have h2:(k == i)=false:=beq_false_of_ne (by omega)
    rw [h2,zad,if_neg h,aget,h2,zad]
  | false =>
   have hne:k≠j:=by simpa using hkj
   rw [zad]
   cases hb:Nat.ble j k with
   | true =>
    rw [zac,aget]
    by_cases h:i=j
    ·subst h; simp [ifB]
    ·have h2:(j == i)=false:=beq_false_of_ne (by omega)
     rw [h2,zad,if_neg h]
   | false =>
    rw [zad,aget,aget,ih]
    cases h2:k == i with
    | true =>
     have:k=i:=by simpa using h2
     rw [zac,if_neg (by omega),zac]
    | false=>rw [zad,zad]
theorem zw1 {α:Type}:∀ (l:List (Nat × α)) (j:Nat) (x:α) (p:Nat × α),p∈aset l j x→p.1=j∨p∈l
 | [],j,x,p,h=>by simp only [aset,List.mem_singleton] at h; rw [h]; exact .inl rfl
 | (k,y) :: l,j,x,p,h=>by
  simp only [aset] at h
  cases hkj:k == j with
  | true =>
   have:k=j:=by simpa using hkj
   rw [hkj,zac] at h
   rcases List.mem_cons.1 h with rfl | h
   ·exact .inl this
   ·exact .inr (List.mem_cons_of_mem _ h)
  | false =>
   rw [hkj,zad] at h
   cases hb:Nat.ble j k with
   | true =>
    rw [hb,zac] at h
    rcases List.mem_cons.1 h with rfl | h
    ·exact .inl rfl
    ·exact .inr h
   | false =>
    rw [hb,zad] at h
    rcases List.mem_cons.1 h with rfl | h
    ·exact .inr (by simp)
    ·rcases zw1 l j x p h with h | h
     ·exact .inl h
     ·exact .inr (List.mem_cons_of_mem _ h)
structure Ext (σ σ':Store):Prop where
 wf:WF σ'
 next:σ.next≤σ'.next
 objs:∀ id,id < σ.next→aget σ'.objs id=aget σ.objs id
 tys:∀ id,id < σ.next→aget σ'.tys id=aget σ.tys id
 oth:σ'.oth=σ.oth
theorem Ext.refl {σ:Store} (h:WF σ):Ext σ σ:=⟨h,Nat.le_refl _,fun _ _=>rfl,fun _ _=>rfl,rfl⟩
theorem Ext.trans {a b c:Store} (h:Ext a b) (h':Ext b c):Ext a c :=
 ⟨h'.wf,Nat.le_trans h.next h'.next,fun id hi=>(h'.objs id (Nat.lt_of_lt_of_le hi h.next)).trans (h.objs id hi),fun id hi=>(h'.tys id (Nat.lt_of_lt_of_le hi h.next)).trans (h.tys id hi),h'.oth.trans h.oth⟩
theorem zf5 {σ:Store} (h:WF σ) (cs:List Cell) (ty:Ty) (k:Nat) (hk:1≤k):Ext σ {objs:=(σ.next,cs) :: σ.objs,tys:=(σ.next,ty) :: σ.tys,oth:=σ.oth,next:=σ.next + k}:=by
 refine ⟨⟨fun p hp=>?_,fun p hp=>?_,fun p hp=>?_⟩,Nat.le_add_right _ _,fun id hi=>?_,fun id hi=>?_,rfl⟩
 ·rcases List.mem_cons.1 hp with rfl | hp
  ·simp only; omega
  ·have:=h.objs p hp; simp only; omega
 ·rcases List.mem_cons.1 hp with rfl | hp
  ·simp only; omega
  ·have:=h.tys p hp; simp only; omega
 ·have:=h.oth p hp; simp only; omega
 ·have:(σ.next == id)=false:=beq_false_of_ne (by omega)
  simp only [aget,this,zad]
 ·have:(σ.next == id)=false:=beq_false_of_ne (by omega)
  simp only [aget,this,zad]
def ArrIn (σ:Store) (r:D) (ls:List (List UInt8)):Prop:=(ls=[]∧r=.nils)∨∃ id,r=.arr k_0 id 0 ls.length∧aget σ.objs id=some (cellsOf (ls.map D.str))∧aget σ.tys id=some ⟨k_0.el,k_0.sz⟩∧id < σ.next
def ArrOf (σ0 σ:Store) (r:D) (ls:List (List UInt8)):Prop:=Ext σ0 σ∧((ls=[]∧r=.nils)∨∃ id,r=.arr k_0 id 0 ls.length∧aget σ.objs id=some (cellsOf (ls.map D.str))∧aget σ.tys id=some ⟨k_0.el,k_0.sz⟩∧σ0.next≤id∧id < σ.next∧ls≠[])
theorem ArrOf.isIn {σ0 σ:Store} {r:D} {ls:List (List UInt8)} (h:ArrOf σ0 σ r ls):ArrIn σ r ls:=by
 rcases h.2 with h | ⟨id,h1,h2,h3,_,h5⟩
 ·exact .inl h
 ·exact .inr ⟨id,h1,h2,h3,h5.1⟩
theorem ArrOf.ext {σ0 σ σ':Store} {r:D} {ls:List (List UInt8)} (h:ArrOf σ0 σ r ls) (hx:Ext σ σ'):ArrOf σ0 σ' r ls:=by
 refine ⟨h.1.trans hx,?_⟩
 rcases h.2 with h | ⟨id,h1,h2,h3,h4,h5⟩
 ·exact .inl h
 ·exact .inr ⟨id,h1,(hx.objs id h5.1).trans h2,(hx.tys id h5.1).trans h3,h4,Nat.lt_of_lt_of_le h5.1 hx.next,h5.2⟩
theorem ArrOf.len {σ0 σ:Store} {r:D} {ls:List (List UInt8)} (h:ArrOf σ0 σ r ls):lenOf r=some ls.length:=by
 rcases h.2 with ⟨rfl,rfl⟩ | ⟨id,rfl,_⟩ <;> rfl
theorem ArrIn.len {σ:Store} {r:D} {ls:List (List UInt8)} (h:ArrIn σ r ls):lenOf r=some ls.length:=by
 rcases h with ⟨rfl,rfl⟩ | ⟨id,rfl,_⟩ <;> rfl
theorem zfu (ls:List (List UInt8)):∀ d∈ls.map D.str,d.cells.length=k_0.sz∧packD k_0 d.cells=d:=fun d hd=>by
 obtain ⟨x,_,rfl⟩:=List.mem_map.1 hd
 exact ⟨rfl,rfl⟩
theorem apA {σ0 σ σ1:Store} {r:D} {ls ys:List (List UInt8)} (h:ArrOf σ0 σ r ls) (hx:Ext σ σ1) (hy:ys≠[]) (hl:ls.length + ys.length < 1048576):∃ r' σ',zbr σ1 k_0 16 r (ys.map D.str)=some (r',σ')∧ArrOf σ0 σ' r' (ls ++ ys):=by
 have h':=h.ext hx
 have hall:zau k_0.sz (ys.map D.str)=true:=by
  clear hy hl
  induction ys with
  | nil=>rfl
  | cons y ys ih=>simp only [List.map_cons,zau,ih]; rfl
 have hwf:=h'.1.wf
 have hlen:(ys.map D.str).length=ys.length:=by simp
 rcases h'.2 with ⟨rfl,rfl⟩ | ⟨id,rfl,h1,h2,h3,h4⟩
 ·refine ⟨.arr k_0 σ1.next 0 ys.length,zav σ1 k_0 (cellsOf (ys.map D.str)),?_,?_⟩
  ·have e:(ys.map D.str).isEmpty=false:=by cases ys with
    | nil=>exact absurd rfl hy
    | cons a b=>rfl
   simp only [List.length_nil,Nat.zero_add] at hl
   have e1:decide (ys.length * 16≤bound)=true:=decide_eq_true (show ys.length * 16≤1099511627776 by omega)
   have e2:decide (ys.length≤bound)=true:=decide_eq_true (show ys.length≤1099511627776 by omega)
   simp only [zbr,hall,zac,e,zad,hlen,e1,e2,Bool.and_self]
  ·refine ⟨h'.1.trans (zf5 hwf _ _ 2 (by omega)),.inr ⟨σ1.next,?_,?_,?_,h'.1.next,?_,by simp [hy]⟩⟩
   ·simp
   ·simp [zav,aget,ifB]
   ·simp [zav,aget,ifB]
   ·simp only [zav]; omega
 ·refine ⟨.arr k_0 σ1.next 0 (ls.length + ys.length),zav {σ1 with objs:=adel1 σ1.objs id} k_0 (cellsOf ((ls ++ ys).map D.str)),?_,?_⟩
  ·have hc:=zcr (ls.map D.str) fun d hd=>(zfu ls d hd).1
   rw [List.length_map] at hc
   have ht:(cellsOf (ls.map D.str)).take (ls.length * k_0.sz)=cellsOf (ls.map D.str):=List.take_of_length_le (by omega)
   have e0:decide (ls.length * k_0.sz≤(cellsOf (ls.map D.str)).length)=true:=by simp; omega
   have e1:decide ((ls.length + ys.length) * 16≤bound)=true:=decide_eq_true (show (ls.length + ys.length) * 16≤1099511627776 by omega)
   have e2:decide (ls.length + ys.length≤bound)=true:=decide_eq_true (show ls.length + ys.length≤1099511627776 by omega)
   have ek:k_0.same k_0=true:=by simp [RowK.same]
   have en:(cellsOf (ls.map D.str)).map (fun c=>Cell.of c.d) ++ cellsOf (ys.map D.str)=cellsOf ((ls ++ ys).map D.str):=by rw [zio,List.map_append,zek]
   simp only [zbr,hall,zac,h1,h2,bindO,zab,ek,beq_self_eq_true,hlen,e0,e1,e2,Bool.and_self,ht,en]
  ·have hd:Ext σ0 {σ1 with objs:=adel1 σ1.objs id}:=by
    refine ⟨⟨fun p hp=>hwf.objs p (zeb _ _ _ hp),hwf.tys,hwf.oth⟩,h'.1.next,fun i hi=>?_,h'.1.tys,h'.1.oth⟩
    rw [← h'.1.objs i hi]
    exact zam _ _ _ (by omega)
   refine ⟨hd.trans (zf5 hd.wf _ _ 2 (by omega)),.inr ⟨σ1.next,?_,?_,?_,h'.1.next,?_,by simp [hy]⟩⟩
   ·simp
   ·simp [zav,aget,ifB]
   ·simp [zav,aget,ifB]
   ·simp only [zav]; omega
theorem zew:∀ (l:List (List UInt8)) (i:Nat) (h:i < l.length),nth (cellsOf (l.map D.str)) i=some ⟨false,.str l[i]⟩
 | [],i,h=>by simp at h
 | s :: l,0,h=>rfl
 | s :: l,i + 1,h=>by
  have:=zew l i (by simpa using h)
  simpa [cellsOf,nth,D.cells] using this
theorem zkib (σ:Store) (y:List UInt8):listOf (zav σ k_0 (cellsOf [.str y])).objs (.arr k_0 σ.next 0 1)=some [.str y]:=by
 have h:aget (zav σ k_0 (cellsOf [.str y])).objs σ.next=some (cellsOf [.str y]):=by simp [zav,aget,ifB]
 have e:=zkf (k:=k_0) (ds:=[D.str y]) (fun d hd=>by
  simp only [List.mem_singleton] at hd
  subst hd
  exact ⟨rfl,rfl⟩)
 have hc:(k_0.ag || k_0.sz == 1)=true:=rfl
 have hd:decide ((0 + 1) * k_0.sz≤(cellsOf [D.str y]).length)=true:=rfl
 simp only [List.length_cons,List.length_nil,Nat.zero_add] at e hd
 simp only [listOf,h,bindO,zab,hc,hd,Nat.zero_add,Bool.and_self,zac,e]
theorem zbob {σ:Store} (h:WF σ) (k:RowK) (cs:List Cell):Ext σ (zav σ k cs):=zf5 h cs _ 2 (by omega)
theorem zp0 {σ0 σ:Store} {r:D} {ls:List (List UInt8)} (h:ArrOf σ0 σ r ls) (s:Nat) (e:Env) (hs:aget e.slots s=some ⟨false,r⟩):∃ σ',zbo [.slot s] e σ=some ({e with slots:=aset e.slots s ⟨false,dSs ls⟩},σ')∧Ext σ0 σ':=by
 rcases h.2 with ⟨rfl,rfl⟩ | ⟨id,rfl,h1,h2,h3,h4,h5⟩
 ·refine ⟨σ,?_,h.1⟩
  simp only [zbo,zdf,hs,bindO,zab]
  rfl
 ·refine ⟨{objs:=adel1 σ.objs id,tys:=σ.tys,oth:=σ.oth,next:=σ.next},?_,⟨⟨fun p hp=>h.1.wf.objs p (zeb _ _ _ hp),h.1.wf.tys,h.1.wf.oth⟩,h.1.next,fun i hi=>?_,h.1.tys,h.1.oth⟩⟩
  ·have hr:=zhn (k:=k_0) (id:=id) (n:=39) (ds:=ls.map D.str) (os:=σ.objs) (os':=adel1 σ.objs id) h1 rfl rfl (zfu ls) (fun d hd=>by obtain ⟨x,_,rfl⟩:=List.mem_map.1 hd; rfl)
   rw [List.length_map] at hr
   have hd:dSs ls=.list k_0 (ls.map D.str):=by
    cases ls with
    | nil=>exact absurd rfl h5
    | cons a b=>rfl
   simp only [zbo,zdf,hs,bindO,zab,hr,hd,Cell.keeps]
  ·rw [← h.1.objs i hi]
   exact zam _ _ _ (by omega)
end Go.Fu
