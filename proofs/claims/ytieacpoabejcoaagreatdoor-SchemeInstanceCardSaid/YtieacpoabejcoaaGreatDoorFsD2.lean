/-
 Small functions: numbers,names,types made of types.
-/
import Derived.Test.YtieacpoabejcoaaGreatDoorFsT
set_option maxHeartbeats 4000000
set_option linter.unusedSimpArgs false
set_option linter.unusedVariables false
set_option linter.unusedSectionVars false
namespace Go.Fu
open Go Go.Mx
set_option maxRecDepth 10000
def posOf (x:Int):Int:=if x < 0 then -(x + 1) else x
def aro (x:Int) (m:Nat):Nat:=(posOf x % (m:Int)).toNat
theorem aro_lt (x:Int) {m:Nat} (h:0 < m):aro x m < m:=by
 unfold aro
 have:=Int.emod_lt_of_pos (posOf x) (show (0:Int) < m by omega)
 have:=Int.emod_nonneg (posOf x) (show (m:Int)≠0 by omega)
 omega
theorem posOf_ge (x:Int):0≤posOf x:=by unfold posOf; split <;> omega
theorem aro_tmod (x:Int) {m:Nat} (h:0 < m):(posOf x).tmod m=((aro x m:Nat):Int):=by
 unfold aro
 rw [Int.tmod_eq_emod_of_nonneg (posOf_ge x)]
 have:=Int.emod_nonneg (posOf x) (show (m:Int)≠0 by omega)
 omega
theorem around_run:Evly fun n=>∀ (x:Int) (m:Nat) σ,Small x→0 < m→m < 1048576→T n n_4 [.int .i64 x,.int .i64 m] σ=some (.ret ⟨false,.int .i64 (aro x m)⟩,σ):=any _ fun n x m σ hx hm hm2=>by
 rw [T_fun (af:=a_117) rfl rfl]
 unfold Small at hx
 have hm0:(((m:Nat):Int) == 0)=false:=by simp; omega
 by_cases h:x < 0
 ·have hp:posOf x=-(x + 1):=if_pos h
  have w1:IntKind.i64.wrap (x + 1)=x + 1:=wrap64 (by omega) (by omega)
  have w2:IntKind.i64.wrap (0 - (x + 1))=posOf x:=by rw [hp,wrap64 (by omega) (by omega)]; omega
  simp only [a_117,sA,Nat.reduceAdd,Nat.reduceSub,Nat.reduceMul,Nat.reduceBEq,Nat.reduceLeDiff,Int.reduceBEq,Int.reduceBNe,Int.reduceLE,Int.reduceLT,Int.reduceGE,Int.reduceGT,Int.reduceNeg,kn,h,w1,w2,hm0,aro_tmod x hm]
 ·have hp:posOf x=x:=if_neg h
  have ht:=aro_tmod x hm
  rw [hp] at ht
  simp only [a_117,sA,Nat.reduceAdd,Nat.reduceSub,Nat.reduceMul,Nat.reduceBEq,Nat.reduceLeDiff,Int.reduceBEq,Int.reduceBNe,Int.reduceLE,Int.reduceLT,Int.reduceGE,Int.reduceGT,Int.reduceNeg,kn,h,hm0,ht]
theorem apply_run:Evly fun n=>∀ (f a:Tp) σ,T n n_143 [dT f,dT a] σ=some (.ret ⟨false,dT (.app f a)⟩,σ):=any _ fun n f a σ=>by
 rw [T_fun (af:=a_176) rfl rfl]
 simp only [a_176,sA,Nat.reduceAdd,Nat.reduceSub,Nat.reduceMul,Nat.reduceBEq,Nat.reduceLeDiff,Int.reduceBEq,Int.reduceBNe,Int.reduceLE,Int.reduceLT,Int.reduceGE,Int.reduceGT,Int.reduceNeg,kn,dT,dT_eq f,dT_eq a,cT]
theorem app_run:Evly fun n=>∀ (f a:Tp) σ,T n n_67 [dT f,dT a] σ=some (.ret ⟨false,dT (.app f a)⟩,σ):=any _ fun n f a σ=>by
 rw [T_fun (af:=a_157) rfl rfl]
 simp only [a_157,sA,Nat.reduceAdd,Nat.reduceSub,Nat.reduceMul,Nat.reduceBEq,Nat.reduceLeDiff,Int.reduceBEq,Int.reduceBNe,Int.reduceLE,Int.reduceLT,Int.reduceGE,Int.reduceGT,Int.reduceNeg,kn,dT,dT_eq f,dT_eq a,cT]
theorem fun_run:Evly fun n=>∀ (f a:Tp) σ,T n n_134 [dT f,dT a] σ=some (.ret ⟨false,dT (.app (.app (.con [45,62]) f) a)⟩,σ):=app_run.step 0 fun n _ h f a σ=>by
 rw [T_fun (af:=a_154) rfl rfl]
 have h1:=h (.con [45,62]) f σ
 have h2:=h (.app (.con [45,62]) f) a σ
 simp only [dT,dT_eq f,dT_eq a,cT] at h1 h2 ⊢
 simp only [a_154,sA,Nat.reduceAdd,Nat.reduceSub,Nat.reduceMul,Nat.reduceBEq,Nat.reduceLeDiff,Int.reduceBEq,Int.reduceBNe,Int.reduceLE,Int.reduceLT,Int.reduceGE,Int.reduceGT,Int.reduceNeg,kn,h1,h2]
theorem names_run:Evly fun n=>∀ σ,T n n_136 [] σ=some (.ret ⟨false,.tup [dSs [[65],[66],[67],[68],[69]],dSs [[73,110,116],[66,111,111,108],[76]]]⟩,σ):=any _ fun n σ=>by
 rw [T_fun (af:=a_85) rfl rfl]
 simp only [a_85,sA,Nat.reduceAdd,Nat.reduceSub,Nat.reduceMul,Nat.reduceBEq,Nat.reduceLeDiff,Int.reduceBEq,Int.reduceBNe,Int.reduceLE,Int.reduceLT,Int.reduceGE,Int.reduceGT,Int.reduceNeg,kn,dSs,dlist]
end Go.Fu
namespace Go.Fu
open Go Go.Mx
set_option maxRecDepth 10000
theorem take_snoc {α:Type} (l:List α) (i:Nat) (h:i < l.length):l.take i ++ [l[i]]=l.take (i + 1):=by
 rw [List.take_add_one,List.getElem?_eq_getElem h]
 simp
theorem ow_ne {α:Type} {l:List α} {i:Nat}:l.take i≠[]→ow i=true:=by
 cases i with
 | zero=>intro h; simp at h
 | succ i=>intro _; rfl
theorem ow_succ {i:Nat}:ow (i + 1)=true:=rfl
theorem ow_zero:ow 0=false:=rfl
section own
variable {C:CallF} {n:Nat} {σ:Store}
def Eown (t:Tp) (i:Nat):Env:={slots:=[(3,⟨ow i,dlist k_1 ((t.args.take i).map dT)⟩),(7,⟨false,dlist k_1 (t.args.map dT)⟩),(8,⟨false,.int .i64 t.args.length⟩),(9,⟨false,.int .i64 i⟩)],locs:=[(1,1,0),(2,2,0)],boxes:=[(1,[⟨false,.int .i64 t.form⟩,⟨false,.int .i64 t.num⟩,⟨false,.str t.name⟩,⟨false,dlist k_1 (t.args.map dT)⟩]),(2,[⟨false,.int .i64 0⟩,⟨false,.int .i64 0⟩,⟨false,.str []⟩,⟨false,.nils⟩])],defers:=[]}
theorem lown_step (t:Tp) (i:Nat) (h:i < t.args.length) (hc:C n_30 [dT t.args[i]] σ=some (.ret ⟨false,dT t.args[i]⟩,σ)):exec C n none a_98 (Eown t i) σ=some (.normal,Eown t (i + 1),σ):=by
 have hi:((i:Int) < (t.args.length:Int)):=by omega
 have ha:=append_T (t.args.take i) t.args[i] (ow i) ow_ne (by have:=args_len t; simp; omega)
 rw [take_snoc _ _ h] at ha
 have hd:=dT_eq t.args[i]
 simp only [cT] at hd
 rw [hd] at hc ha
 simp only [a_98,Eown,sA,Nat.reduceAdd,Nat.reduceSub,Nat.reduceMul,Nat.reduceBEq,Nat.reduceLeDiff,Int.reduceBEq,Int.reduceBNe,Int.reduceLE,Int.reduceLT,Int.reduceGE,Int.reduceGT,Int.reduceNeg,kn,hi,idx_T _ _ h,hd,hc,ha,wrap64_succ (i:=i) (by have:=args_len t; omega),ow_succ]
theorem lown_end (t:Tp):exec C n none a_98 (Eown t t.args.length) σ=some (.exit 0,{Eown t t.args.length with slots:=[(3,⟨ow t.args.length,dlist k_1 (t.args.map dT)⟩),(7,⟨false,dlist k_1 (t.args.map dT)⟩),(8,⟨false,.int .i64 t.args.length⟩),(9,⟨false,.int .i64 t.args.length⟩),(10,⟨false,.bool false⟩)]},σ):=by
 have hi:¬ ((t.args.length:Int) < (t.args.length:Int)):=by omega
 simp only [a_98,Eown,sA,Nat.reduceAdd,Nat.reduceSub,Nat.reduceMul,Nat.reduceBEq,Nat.reduceLeDiff,Int.reduceBEq,Int.reduceBNe,Int.reduceLE,Int.reduceLT,Int.reduceGE,Int.reduceGT,Int.reduceNeg,kn,hi,List.take_length]
end own
theorem own_run:∀ t:Tp,Evly fun n=>∀ σ,T n n_30 [dT t] σ=some (.ret ⟨false,dT t⟩,σ):=by
 intro t
 have hk:Evly fun n=>∀ i (h:i < t.args.length) σ,T n n_30 [dT t.args[i]] σ=some (.ret ⟨false,dT t.args[i]⟩,σ):=by
  cases t with
  | app f a =>
   refine ((own_run f).and (own_run a)).mono fun n h i hi σ=>?_
   match i,hi with
   | 0,_=>exact h.1 σ
   | 1,_=>exact h.2 σ
  | hole n=>exact .all fun n i hi=>absurd hi (by simp [Tp.args])
  | var n=>exact .all fun n i hi=>absurd hi (by simp [Tp.args])
  | con n=>exact .all fun n i hi=>absurd hi (by simp [Tp.args])
 refine hk.step 4 fun m hm hrun σ=>?_
 rw [T_fun (af:=a_177) rfl rfl]
 have hloop:=loopN_run (body:=exec (T m) m none a_98) (Eown t) (fun _=>σ) t.args.length (r:=_) (fun _ _ h=>by cases h) (fun i hi=>lown_step t i hi (hrun i hi σ)) (lown_end t) 0 m (by omega) (by have:=args_len t; omega)
 simp only [Eown,zeroI,List.take_zero,List.map_nil,dlist_nil,ow_zero] at hloop
 simp only [a_177,sA,Nat.reduceAdd,Nat.reduceSub,Nat.reduceMul,Nat.reduceBEq,Nat.reduceLeDiff,Int.reduceBEq,Int.reduceBNe,Int.reduceLE,Int.reduceLT,Int.reduceGE,Int.reduceGT,Int.reduceNeg,kn,dT_eq t,cT,List.length_map,hloop]
section idx
variable {C:CallF} {n:Nat} {σ:Store}
def Eidx (l:List (List UInt8)) (s:List UInt8) (i:Nat):Env:={slots:=[(0,⟨false,dlist k_0 (l.map D.str)⟩),(1,⟨false,.str s⟩),(7,⟨false,.int .i64 l.length⟩),(8,⟨false,.int .i64 i⟩)],locs:=[],boxes:=[],defers:=[]}
theorem lidx_step (l:List (List UInt8)) (s:List UInt8) (i:Nat) (h:i < l.length) (hl:l.length < 1048576) (hp:(s == l[i])=false):exec C n none a_51 (Eidx l s i) σ=some (.normal,Eidx l s (i + 1),σ):=by
 have hi:((i:Int) < (l.length:Int)):=by omega
 simp only [a_51,Eidx,sA,Nat.reduceAdd,Nat.reduceSub,Nat.reduceMul,Nat.reduceBEq,Nat.reduceLeDiff,Int.reduceBEq,Int.reduceBNe,Int.reduceLE,Int.reduceLT,Int.reduceGE,Int.reduceGT,Int.reduceNeg,kn,hi,idx_S _ _ h,hp,wrap64_succ (i:=i) (by omega)]
theorem lidx_stop (l:List (List UInt8)) (s:List UInt8) (i:Nat) (h:i < l.length) (hl:l.length < 1048576) (hp:(s == l[i])=true):exec C n none a_51 (Eidx l s i) σ=some (.ret,{slots:=[(4,⟨false,.int .i64 i⟩)],locs:=[],boxes:=[],defers:=[]},σ):=by
 have hi:((i:Int) < (l.length:Int)):=by omega
 simp only [a_51,Eidx,sA,Nat.reduceAdd,Nat.reduceSub,Nat.reduceMul,Nat.reduceBEq,Nat.reduceLeDiff,Int.reduceBEq,Int.reduceBNe,Int.reduceLE,Int.reduceLT,Int.reduceGE,Int.reduceGT,Int.reduceNeg,kn,hi,idx_S _ _ h,hp]
theorem lidx_end (l:List (List UInt8)) (s:List UInt8):exec C n none a_51 (Eidx l s l.length) σ=some (.exit 0,{Eidx l s l.length with slots:=[(0,⟨false,dlist k_0 (l.map D.str)⟩),(1,⟨false,.str s⟩),(7,⟨false,.int .i64 l.length⟩),(8,⟨false,.int .i64 l.length⟩),(9,⟨false,.bool false⟩)]},σ):=by
 have hi:¬ ((l.length:Int) < (l.length:Int)):=by omega
 simp only [a_51,Eidx,sA,Nat.reduceAdd,Nat.reduceSub,Nat.reduceMul,Nat.reduceBEq,Nat.reduceLeDiff,Int.reduceBEq,Int.reduceBNe,Int.reduceLE,Int.reduceLT,Int.reduceGE,Int.reduceGT,Int.reduceNeg,kn,hi]
end idx
def posS (s:List UInt8):List (List UInt8)→Option Nat
 | []=>none
 | x :: l=>if s == x then some 0 else (posS s l).map (· + 1)
def posI (s:List UInt8) (l:List (List UInt8)):Int:=match posS s l with
 | some k=>k
 | none=>-1
theorem posS_none {s:List UInt8}:∀ {l:List (List UInt8)},(∀ i (h:i < l.length),(s == l[i])=false)→posS s l=none
 | [],_=>rfl
 | x :: l,h=>by
  have h0:=h 0 (by simp)
  simp only [List.getElem_cons_zero] at h0
  simp only [posS,h0,Bool.false_eq_true,if_false]
  rw [posS_none (l:=l) fun i hi=>by have:=h (i + 1) (by simpa using hi); simpa using this]
  rfl
theorem posS_some {s:List UInt8}:∀ {l:List (List UInt8)} {k:Nat} (hk:k < l.length),(∀ i (h:i < l.length),i < k→(s == l[i])=false)→(s == l[k])=true→posS s l=some k
 | [],k,hk,_,_=>by simp at hk
 | x :: l,0,hk,_,h=>by
  simp only [List.getElem_cons_zero] at h
  simp only [posS,h,if_true]
 | x :: l,k + 1,hk,h,hp=>by
  have h0:=h 0 (by simp) (by omega)
  simp only [List.getElem_cons_zero] at h0
  simp only [posS,h0,Bool.false_eq_true,if_false]
  rw [posS_some (l:=l) (k:=k) (by simpa using hk) (fun i hi hik=>by have:=h (i + 1) (by simpa using hi) (by omega); simpa using this) (by simpa using hp)]
  rfl
theorem posS_lt {s:List UInt8}:∀ {l:List (List UInt8)} {k:Nat},posS s l=some k→k < l.length
 | [],k,h=>by simp [posS] at h
 | x :: l,k,h=>by
  simp only [posS] at h
  split at h
  ·cases h; simp
  ·cases hp:posS s l with
   | none=>rw [hp] at h; simp at h
   | some j =>
    rw [hp] at h
    simp at h
    have:=posS_lt hp
    simp
    omega
def atF (l:List (List UInt8)) (s:List UInt8) (i:Nat):Bool:=match l[i]? with
 | some x=>!(s == x)
 | none=>true
theorem atF_get {l:List (List UInt8)} {s:List UInt8} {i:Nat} (h:i < l.length):atF l s i=!(s == l[i]):=by simp [atF,h]
theorem index_run (l:List (List UInt8)) (s:List UInt8) (hl:l.length < 1048576):Evly fun n=>∀ σ,T n n_141 [dSs l,.str s] σ=some (.ret ⟨false,.int .i64 (posI s l)⟩,σ) :=
 (Evly.all (p:=fun _=>True) fun _=>trivial).step (l.length + 2) fun m hm _ σ=>by
 rw [T_fun (af:=a_125) rfl rfl]
 have hloop:=loopN_until (body:=exec (T m) m none a_51) (Eidx l s) (fun _=>σ) l.length (atF l s) (stop:=fun i=>(.ret,{slots:=[(4,⟨false,.int .i64 i⟩)],locs:=[],boxes:=[],defers:=[]},σ)) (fun _ _ h=>by cases h) (fun _ _ _ h=>by cases h)
  (fun i hi hp=>lidx_step l s i hi hl (by rw [atF_get hi] at hp; simpa using hp)) (fun i hi hp=>lidx_stop l s i hi hl (by rw [atF_get hi] at hp; simpa using hp)) (lidx_end l s) m 0 (by omega) (by omega)
 simp only [Eidx,zeroI] at hloop
 rcases hloop with ⟨i,_,hi,hp,hb,hrest⟩ | ⟨hp,hrest⟩
 ·have hv:posI s l=i:=by
   unfold posI
   rw [posS_some hi (fun k hk hki=>by have:=hb k (Nat.zero_le _) hki; rw [atF_get hk] at this; simpa using this) (by rw [atF_get hi] at hp; simpa using hp)]
  simp only [a_125,sA,Nat.reduceAdd,Nat.reduceSub,Nat.reduceMul,Nat.reduceBEq,Nat.reduceLeDiff,Int.reduceBEq,Int.reduceBNe,Int.reduceLE,Int.reduceLT,Int.reduceGE,Int.reduceGT,Int.reduceNeg,kn,dSs,List.length_map,hrest,hv]
 ·have hv:posI s l=-1:=by
   unfold posI
   rw [posS_none fun k hk=>by have:=hp k (Nat.zero_le _) hk; rw [atF_get hk] at this; simpa using this]
  simp only [a_125,sA,Nat.reduceAdd,Nat.reduceSub,Nat.reduceMul,Nat.reduceBEq,Nat.reduceLeDiff,Int.reduceBEq,Int.reduceBNe,Int.reduceLE,Int.reduceLT,Int.reduceGE,Int.reduceGT,Int.reduceNeg,kn,dSs,List.length_map,hrest,hv]
end Go.Fu
namespace Go.Fu
open Go Go.Mx
set_option maxRecDepth 10000
def subT (names:List (List UInt8)) (bys:List Tp):Tp→Tp
 | .var s=>match posS s names with
  | some k=>bys.getD k (.var s)
  | none=>.var s
 | .app f a=>.app (subT names bys f) (subT names bys a)
 | .hole n=>.hole n
 | .con s=>.con s
theorem Evly.here {p:Nat→Prop} (h:Evly p):Evly p:=h
theorem subst_run (names:List (List UInt8)) (bys:List Tp) (hl:names.length < 1048576) (hb:bys.length=names.length):∀ t:Tp,Evly fun n=>∀ σ,T n n_19 [dT t,dSs names,dTs bys] σ=some (.ret ⟨false,dT (subT names bys t)⟩,σ)
 | .hole x=>(own_run (.hole x)).step 0 fun m _ hown σ=>by
  have h1:=hown σ
  simp only [dT] at h1
  rw [T_fun (af:=a_10) rfl rfl]
  simp only [a_10,sA,Nat.reduceAdd,Nat.reduceSub,Nat.reduceMul,Nat.reduceBEq,Nat.reduceLeDiff,Int.reduceBEq,Int.reduceBNe,Int.reduceLE,Int.reduceLT,Int.reduceGE,Int.reduceGT,Int.reduceNeg,kn,subT,dT,h1]
 | .con s=>(own_run (.con s)).step 0 fun m _ hown σ=>by
  have h1:=hown σ
  simp only [dT] at h1
  rw [T_fun (af:=a_10) rfl rfl]
  simp only [a_10,sA,Nat.reduceAdd,Nat.reduceSub,Nat.reduceMul,Nat.reduceBEq,Nat.reduceLeDiff,Int.reduceBEq,Int.reduceBNe,Int.reduceLE,Int.reduceLT,Int.reduceGE,Int.reduceGT,Int.reduceNeg,kn,subT,dT,h1]
 | .app f a=>((subst_run names bys hl hb f).and ((subst_run names bys hl hb a).and apply_run)).step 0 fun m _ h σ=>by
  have h1:=h.1 σ
  have h2:=h.2.1 σ
  have h3:=h.2.2 (subT names bys f) (subT names bys a) σ
  rw [T_fun (af:=a_10) rfl rfl]
  simp only [subT,dT] at h3 ⊢
  rw [dT_eq f] at h1 ⊢
  rw [dT_eq a] at h2 ⊢
  rw [dT_eq (subT names bys f)] at h1 h3 ⊢
  rw [dT_eq (subT names bys a)] at h2 h3 ⊢
  simp only [cT] at h1 h2 h3 ⊢
  simp only [a_10,sA,Nat.reduceAdd,Nat.reduceSub,Nat.reduceMul,Nat.reduceBEq,Nat.reduceLeDiff,Int.reduceBEq,Int.reduceBNe,Int.reduceLE,Int.reduceLT,Int.reduceGE,Int.reduceGT,Int.reduceNeg,kn,h1,h2,h3]
 | .var s=>by
  cases hp:posS s names with
  | none =>
   refine ((own_run (.var s)).and (index_run names s hl)).step 0 fun m _ h σ=>?_
   have h1:=h.1 σ
   have h2:=h.2 σ
   simp only [dT,posI,hp] at h1 h2
   rw [T_fun (af:=a_10) rfl rfl]
   simp only [a_10,sA,Nat.reduceAdd,Nat.reduceSub,Nat.reduceMul,Nat.reduceBEq,Nat.reduceLeDiff,Int.reduceBEq,Int.reduceBNe,Int.reduceLE,Int.reduceLT,Int.reduceGE,Int.reduceGT,Int.reduceNeg,kn,subT,dT,h1,h2,hp]
  | some k =>
   have hk:=posS_lt hp
   have hkb:k < bys.length:=by omega
   refine ((own_run bys[k]).and (index_run names s hl)).step 0 fun m _ h σ=>?_
   have h1:=h.1 σ
   have h2:=h.2 σ
   have h0:(0:Int)≤(k:Int):=by omega
   have hx:=idx_T bys k hkb
   have hg:bys.getD k (.var s)=bys[k]:=by simp [hkb]
   simp only [posI,hp] at h2
   rw [T_fun (af:=a_10) rfl rfl]
   simp only [subT,hp,hg]
   rw [dT_eq bys[k]] at h1 hx ⊢
   simp only [cT] at h1 hx ⊢
   simp only [a_10,sA,Nat.reduceAdd,Nat.reduceSub,Nat.reduceMul,Nat.reduceBEq,Nat.reduceLeDiff,Int.reduceBEq,Int.reduceBNe,Int.reduceLE,Int.reduceLT,Int.reduceGE,Int.reduceGT,Int.reduceNeg,kn,subT,dTs,dT,h1,h2,h0,hx]
end Go.Fu
namespace Go.Fu
open Go Go.Mx
set_option maxRecDepth 10000
theorem loopN_one {body:Env→Store→XRes} {k:Nat} {e e':Env} {σ:Store} {x:Nat} (h:body e σ=some (.exit x,e',σ)):loopN body (k + 1) e σ=some (.exit x,e',σ):=by
 rw [loopN,h]
theorem loopN_more {body:Env→Store→XRes} {k:Nat} {e e':Env} {σ σ':Store} (h:body e σ=some (.normal,e',σ')):loopN body (k + 1) e σ=loopN body k e' σ':=by
 rw [loopN,h]
def bT (t:Tp):List Cell:=[⟨false,.int .i64 t.form⟩,⟨false,.int .i64 t.num⟩,⟨false,.str t.name⟩,⟨false,dlist k_1 (t.args.map dT)⟩]
section
variable {C:CallF} {n:Nat} {σ:Store}
end
end Go.Fu
namespace Go.Fu
open Go Go.Mx
set_option maxRecDepth 10000
section
variable {C:CallF} {n:Nat} {σ:Store}
def Eat (l:List (List UInt8)) (s:List UInt8) (i:Nat):Env:={slots:=[(0,⟨false,dlist k_0 (l.map D.str)⟩),(1,⟨false,.str s⟩),(5,⟨false,.int .i64 i⟩)],locs:=[],boxes:=[],defers:=[]}
theorem lat_step (l:List (List UInt8)) (s:List UInt8) (i:Nat) (h:i < l.length) (hl:l.length < 1048576) (hp:(l[i] == s)=false):exec C n none a_42 (Eat l s i) σ=some (.normal,Eat l s (i + 1),σ):=by
 have hi:((i:Int) < (l.length:Int)):=by omega
 simp only [a_42,Eat,sA,Nat.reduceAdd,Nat.reduceSub,Nat.reduceMul,Nat.reduceBEq,Nat.reduceLeDiff,Int.reduceBEq,Int.reduceBNe,Int.reduceLE,Int.reduceLT,Int.reduceGE,Int.reduceGT,Int.reduceNeg,kn,List.length_map,hi,idx_S _ _ h,hp,wrap64_succ (i:=i) (by omega)]
theorem lat_stop (l:List (List UInt8)) (s:List UInt8) (i:Nat) (h:i < l.length) (hl:l.length < 1048576) (hp:(l[i] == s)=true):exec C n none a_42 (Eat l s i) σ=some (.ret,{slots:=[(4,⟨false,.int .i64 i⟩)],locs:=[],boxes:=[],defers:=[]},σ):=by
 have hi:((i:Int) < (l.length:Int)):=by omega
 simp only [a_42,Eat,sA,Nat.reduceAdd,Nat.reduceSub,Nat.reduceMul,Nat.reduceBEq,Nat.reduceLeDiff,Int.reduceBEq,Int.reduceBNe,Int.reduceLE,Int.reduceLT,Int.reduceGE,Int.reduceGT,Int.reduceNeg,kn,List.length_map,hi,idx_S _ _ h,hp]
theorem lat_end (l:List (List UInt8)) (s:List UInt8):exec C n none a_42 (Eat l s l.length) σ=some (.exit 0,{Eat l s l.length with slots:=[(0,⟨false,dlist k_0 (l.map D.str)⟩),(1,⟨false,.str s⟩),(5,⟨false,.int .i64 l.length⟩),(9,⟨false,.bool false⟩)]},σ):=by
 have hi:¬ ((l.length:Int) < (l.length:Int)):=by omega
 simp only [a_42,Eat,sA,Nat.reduceAdd,Nat.reduceSub,Nat.reduceMul,Nat.reduceBEq,Nat.reduceLeDiff,Int.reduceBEq,Int.reduceBNe,Int.reduceLE,Int.reduceLT,Int.reduceGE,Int.reduceGT,Int.reduceNeg,kn,List.length_map,hi]
end
theorem at_run (l:List (List UInt8)) (s:List UInt8) (hl:l.length < 1048576):Evly fun n=>∀ σ,T n n_251 [dSs l,.str s] σ=some (.ret ⟨false,.int .i64 (posI s l)⟩,σ) :=
 (Evly.all (p:=fun _=>True) fun _=>trivial).step (l.length + 2) fun m hm _ σ=>by
 rw [T_fun (af:=a_118) rfl rfl]
 have hsym:∀ x:List UInt8,(x == s)=(s == x):=fun x=>by
  cases h:s == x with
  | true=>have:s=x:=by simpa using h
          subst this; simp
  | false=>have:s≠x:=by simpa using h
           simpa using fun e=>this e.symm
 have hloop:=loopN_until (body:=exec (T m) m none a_42) (Eat l s) (fun _=>σ) l.length (atF l s) (stop:=fun i=>(.ret,{slots:=[(4,⟨false,.int .i64 i⟩)],locs:=[],boxes:=[],defers:=[]},σ)) (fun _ _ h=>by cases h) (fun _ _ _ h=>by cases h)
  (fun i hi hp=>lat_step l s i hi hl (by rw [atF_get hi] at hp; rw [hsym]; simpa using hp)) (fun i hi hp=>lat_stop l s i hi hl (by rw [atF_get hi] at hp; rw [hsym]; simpa using hp)) (lat_end l s) m 0 (by omega) (by omega)
 simp only [Eat,zeroI] at hloop
 rcases hloop with ⟨i,_,hi,hp,hb,hrest⟩ | ⟨hp,hrest⟩
 ·have hv:posI s l=i:=by
   unfold posI
   rw [posS_some hi (fun k hk hki=>by have:=hb k (Nat.zero_le _) hki; rw [atF_get hk] at this; simpa using this) (by rw [atF_get hi] at hp; simpa using hp)]
  simp only [a_118,sA,Nat.reduceAdd,Nat.reduceSub,Nat.reduceMul,Nat.reduceBEq,Nat.reduceLeDiff,Int.reduceBEq,Int.reduceBNe,Int.reduceLE,Int.reduceLT,Int.reduceGE,Int.reduceGT,Int.reduceNeg,kn,dSs,hrest,hv]
 ·have hv:posI s l=-1:=by
   unfold posI
   rw [posS_none fun k hk=>by have:=hp k (Nat.zero_le _) hk; rw [atF_get hk] at this; simpa using this]
  simp only [a_118,sA,Nat.reduceAdd,Nat.reduceSub,Nat.reduceMul,Nat.reduceBEq,Nat.reduceLeDiff,Int.reduceBEq,Int.reduceBNe,Int.reduceLE,Int.reduceLT,Int.reduceGE,Int.reduceGT,Int.reduceNeg,kn,dSs,hrest,hv]
theorem r04_subst_run (names:List (List UInt8)) (bys:List Tp) (hl:names.length < 1048576) (hb:bys.length=names.length):∀ t:Tp,Evly fun n=>∀ σ,T n n_54 [dT t,dSs names,dTs bys] σ=some (.ret ⟨false,dT (subT names bys t)⟩,σ)
 | .hole x=>any _ fun m σ=>by
  rw [T_fun (af:=a_20) rfl rfl]
  simp only [a_20,sA,Nat.reduceAdd,Nat.reduceSub,Nat.reduceMul,Nat.reduceBEq,Nat.reduceLeDiff,Int.reduceBEq,Int.reduceBNe,Int.reduceLE,Int.reduceLT,Int.reduceGE,Int.reduceGT,Int.reduceNeg,kn,subT,dT]
 | .con s=>any _ fun m σ=>by
  rw [T_fun (af:=a_20) rfl rfl]
  simp only [a_20,sA,Nat.reduceAdd,Nat.reduceSub,Nat.reduceMul,Nat.reduceBEq,Nat.reduceLeDiff,Int.reduceBEq,Int.reduceBNe,Int.reduceLE,Int.reduceLT,Int.reduceGE,Int.reduceGT,Int.reduceNeg,kn,subT,dT]
 | .app f a=>((r04_subst_run names bys hl hb f).and ((r04_subst_run names bys hl hb a).and app_run)).step 0 fun m _ h σ=>by
  have h1:=h.1 σ
  have h2:=h.2.1 σ
  have h3:=h.2.2 (subT names bys f) (subT names bys a) σ
  rw [T_fun (af:=a_20) rfl rfl]
  simp only [subT,dT] at h3 ⊢
  rw [dT_eq f] at h1 ⊢
  rw [dT_eq a] at h2 ⊢
  rw [dT_eq (subT names bys f)] at h1 h3 ⊢
  rw [dT_eq (subT names bys a)] at h2 h3 ⊢
  simp only [cT] at h1 h2 h3 ⊢
  simp only [a_20,sA,Nat.reduceAdd,Nat.reduceSub,Nat.reduceMul,Nat.reduceBEq,Nat.reduceLeDiff,Int.reduceBEq,Int.reduceBNe,Int.reduceLE,Int.reduceLT,Int.reduceGE,Int.reduceGT,Int.reduceNeg,kn,h1,h2,h3]
 | .var s=>by
  cases hp:posS s names with
  | none =>
   refine (at_run names s hl).step 0 fun m _ h σ=>?_
   have h2:=h σ
   simp only [posI,hp] at h2
   rw [T_fun (af:=a_20) rfl rfl]
   simp only [a_20,sA,Nat.reduceAdd,Nat.reduceSub,Nat.reduceMul,Nat.reduceBEq,Nat.reduceLeDiff,Int.reduceBEq,Int.reduceBNe,Int.reduceLE,Int.reduceLT,Int.reduceGE,Int.reduceGT,Int.reduceNeg,kn,subT,dT,h2,hp]
  | some k =>
   have hk:=posS_lt hp
   have hkb:k < bys.length:=by omega
   refine (at_run names s hl).step 0 fun m _ h σ=>?_
   have h2:=h σ
   have h0:(0:Int)≤(k:Int):=by omega
   have hx:=idx_T bys k hkb
   have hg:bys.getD k (.var s)=bys[k]:=by simp [hkb]
   simp only [posI,hp] at h2
   rw [T_fun (af:=a_20) rfl rfl]
   simp only [subT,hp,hg]
   rw [dT_eq bys[k]] at hx ⊢
   simp only [cT] at hx ⊢
   simp only [a_20,sA,Nat.reduceAdd,Nat.reduceSub,Nat.reduceMul,Nat.reduceBEq,Nat.reduceLeDiff,Int.reduceBEq,Int.reduceBNe,Int.reduceLE,Int.reduceLT,Int.reduceGE,Int.reduceGT,Int.reduceNeg,kn,subT,dTs,dT,h2,h0,hx]
end Go.Fu
namespace Go.Fu
open Go Go.Mx
set_option maxRecDepth 10000
def putP (names:List (List UInt8)) (bys:List Tp) (p:Pr):Pr:=⟨p.cls,subT names bys p.ty⟩
section
variable {C:CallF} {n:Nat} {σ:Store}
def Epu (vs ks:D) (ps:List Pr) (t:Tp) (names:List (List UInt8)) (bys:List Tp) (i:Nat):Env:={slots:=[(1,⟨false,dSs names⟩),(2,⟨false,dTs bys⟩),(8,⟨ow i,dlist k_3 (((ps.map (putP names bys)).take i).map dP)⟩),(12,⟨false,dlist k_3 (ps.map dP)⟩),(13,⟨false,.int .i64 ps.length⟩),(14,⟨false,.int .i64 i⟩)],locs:=[(3,3,0),(7,7,0)],boxes:=[(3,⟨false,vs⟩ :: ⟨false,ks⟩ :: ⟨false,dlist k_3 (ps.map dP)⟩ :: bT t),(7,[⟨false,.int .i64 0⟩,⟨false,.int .i64 0⟩,⟨false,.str []⟩,⟨false,.nils⟩])],defers:=[]}
theorem put_append (ps:List Pr) (names:List (List UInt8)) (bys:List Tp) (i:Nat) (h:i < ps.length) (hl:ps.length < 1048576) :
  appendD k_3 72 ⟨ow i,dlist k_3 (((ps.map (putP names bys)).take i).map dP)⟩ [dP (putP names bys ps[i])]=some ⟨true,dlist k_3 (((ps.map (putP names bys)).take (i + 1)).map dP)⟩:=by
 have h':i < (ps.map (putP names bys)).length:=by simpa using h
 have ha:=append_P ((ps.map (putP names bys)).take i) (ps.map (putP names bys))[i] (ow i) ow_ne (by simp; omega)
 rw [take_snoc _ _ h'] at ha
 simpa using ha
theorem lpu_step (vs ks:D) (ps:List Pr) (t:Tp) (names:List (List UInt8)) (bys:List Tp) (i:Nat) (h:i < ps.length) (hl:ps.length < 1048576)
  (hc:C n_19 [dT ps[i].ty,dSs names,dTs bys] σ=some (.ret ⟨false,dT (subT names bys ps[i].ty)⟩,σ)):exec C n none b_scheme_put_l0 (Epu vs ks ps t names bys i) σ=some (.normal,Epu vs ks ps t names bys (i + 1),σ):=by
 have hi:((i:Int) < (ps.length:Int)):=by omega
 have hx:=idx_P ps i h
 have ha:=put_append ps names bys i h hl
 rw [dT_eq,dT_eq] at hc
 simp only [putP,dP,cT] at hc hx ha
 simp only [b_scheme_put_l0,Epu,putP,bT,sA,Nat.reduceAdd,Nat.reduceSub,Nat.reduceMul,Nat.reduceBEq,Nat.reduceLeDiff,Int.reduceBEq,Int.reduceBNe,Int.reduceLE,Int.reduceLT,Int.reduceGE,Int.reduceGT,Int.reduceNeg,kn,hi,hx,hc,ha,wrap64_succ (i:=i) (by omega),ow_succ]
theorem lpu_end (vs ks:D) (ps:List Pr) (t:Tp) (names:List (List UInt8)) (bys:List Tp):exec C n none b_scheme_put_l0 (Epu vs ks ps t names bys ps.length) σ=some (.exit 0,{Epu vs ks ps t names bys ps.length with slots:=[(1,⟨false,dSs names⟩),(2,⟨false,dTs bys⟩),(8,⟨ow ps.length,dlist k_3 ((ps.map (putP names bys)).map dP)⟩),(12,⟨false,dlist k_3 (ps.map dP)⟩),(13,⟨false,.int .i64 ps.length⟩),(14,⟨false,.int .i64 ps.length⟩),(15,⟨false,.bool false⟩)]},σ):=by
 have hi:¬ ((ps.length:Int) < (ps.length:Int)):=by omega
 have ht:(ps.map (putP names bys)).take ps.length=ps.map (putP names bys):=List.take_of_length_le (by simp)
 simp only [b_scheme_put_l0,Epu,bT,sA,Nat.reduceAdd,Nat.reduceSub,Nat.reduceMul,Nat.reduceBEq,Nat.reduceLeDiff,Int.reduceBEq,Int.reduceBNe,Int.reduceLE,Int.reduceLT,Int.reduceGE,Int.reduceGT,Int.reduceNeg,kn,hi,ht]
def EPu (ps:List Pr) (names:List (List UInt8)) (bys:List Tp) (i:Nat):Env:={slots:=[(0,⟨false,dlist k_3 (ps.map dP)⟩),(1,⟨false,dSs names⟩),(2,⟨false,dTs bys⟩),(7,⟨ow i,dlist k_3 (((ps.map (putP names bys)).take i).map dP)⟩),(8,⟨false,.int .i64 i⟩)],locs:=[],boxes:=[],defers:=[]}
theorem lPu_step (ps:List Pr) (names:List (List UInt8)) (bys:List Tp) (i:Nat) (h:i < ps.length) (hl:ps.length < 1048576)
  (hc:C n_54 [dT ps[i].ty,dSs names,dTs bys] σ=some (.ret ⟨false,dT (subT names bys ps[i].ty)⟩,σ)):exec C n none a_90 (EPu ps names bys i) σ=some (.normal,EPu ps names bys (i + 1),σ):=by
 have hi:((i:Int) < (ps.length:Int)):=by omega
 have hx:=idx_P ps i h
 have ha:=put_append ps names bys i h hl
 rw [dT_eq,dT_eq] at hc
 simp only [putP,dP,cT] at hc hx ha
 simp only [a_90,EPu,putP,sA,Nat.reduceAdd,Nat.reduceSub,Nat.reduceMul,Nat.reduceBEq,Nat.reduceLeDiff,Int.reduceBEq,Int.reduceBNe,Int.reduceLE,Int.reduceLT,Int.reduceGE,Int.reduceGT,Int.reduceNeg,kn,Mx.part,List.drop_succ_cons,List.drop_zero,List.take_succ_cons,List.take_zero,List.getElem?_cons_zero,List.getElem?_cons_succ,List.length_map,hi,hx,hc,ha,wrap64_succ (i:=i) (by omega),ow_succ]
theorem lPu_end (ps:List Pr) (names:List (List UInt8)) (bys:List Tp):exec C n none a_90 (EPu ps names bys ps.length) σ=some (.exit 0,{EPu ps names bys ps.length with slots:=[(0,⟨false,dlist k_3 (ps.map dP)⟩),(1,⟨false,dSs names⟩),(2,⟨false,dTs bys⟩),(7,⟨ow ps.length,dlist k_3 ((ps.map (putP names bys)).map dP)⟩),(8,⟨false,.int .i64 ps.length⟩),(12,⟨false,.bool false⟩)]},σ):=by
 have hi:¬ ((ps.length:Int) < (ps.length:Int)):=by omega
 have ht:(ps.map (putP names bys)).take ps.length=ps.map (putP names bys):=List.take_of_length_le (by simp)
 simp only [a_90,EPu,sA,Nat.reduceAdd,Nat.reduceSub,Nat.reduceMul,Nat.reduceBEq,Nat.reduceLeDiff,Int.reduceBEq,Int.reduceBNe,Int.reduceLE,Int.reduceLT,Int.reduceGE,Int.reduceGT,Int.reduceNeg,kn,List.length_map,hi,ht]
end
theorem put_run (vs ks:D) (ps:List Pr) (t:Tp) (names:List (List UInt8)) (bys:List Tp) (hp:ps.length < 1048576) (hl:names.length < 1048576) (hb:bys.length=names.length) :
  Evly fun n=>∀ σ,T n n_29 [.agg (vs :: ks :: dPs ps :: cT t),dSs names,dTs bys] σ=some (.ret ⟨false,.tup [dPs (ps.map (putP names bys)),dT (subT names bys t)]⟩,σ):=by
 have hk:Evly fun n=>∀ i,i < ps.length→∀ (h:i < ps.length) σ,T n n_19 [dT ps[i].ty,dSs names,dTs bys] σ=some (.ret ⟨false,dT (subT names bys ps[i].ty)⟩,σ) :=
  Evly.below _ fun i hi=>(subst_run names bys hl hb ps[i].ty).mono fun n h _ σ=>h σ
 refine (hk.and (subst_run names bys hl hb t)).step (ps.length + 2) fun m hm hrun σ=>?_
 rw [T_fun (af:=b_scheme_put) rfl rfl]
 have hloop:=loopN_run (body:=exec (T m) m none b_scheme_put_l0) (Epu vs ks ps t names bys) (fun _=>σ) ps.length (r:=_) (fun _ _ h=>by cases h) (fun i hi=>lpu_step vs ks ps t names bys i hi hp (hrun.1 i hi hi σ)) (lpu_end vs ks ps t names bys) 0 m (by omega) (by omega)
 simp only [Epu,bT,zeroI,List.take_zero,List.map_nil,dlist_nil,ow_zero] at hloop
 have h2:=hrun.2 σ
 rw [dT_eq,dT_eq (subT names bys t)] at h2
 rw [dT_eq (subT names bys t)]
 simp only [cT] at h2
 simp only [b_scheme_put,sA,Nat.reduceAdd,Nat.reduceSub,Nat.reduceMul,Nat.reduceBEq,Nat.reduceLeDiff,Int.reduceBEq,Int.reduceBNe,Int.reduceLE,Int.reduceLT,Int.reduceGE,Int.reduceGT,Int.reduceNeg,kn,dPs,cT,List.length_map,hloop,h2]
theorem Put_run (ps:List Pr) (names:List (List UInt8)) (bys:List Tp) (hp:ps.length < 1048576) (hl:names.length < 1048576) (hb:bys.length=names.length) :
  Evly fun n=>∀ σ,T n n_256 [dPs ps,dSs names,dTs bys] σ=some (.ret ⟨ow ps.length,dPs (ps.map (putP names bys))⟩,σ):=by
 have hk:Evly fun n=>∀ i,i < ps.length→∀ (h:i < ps.length) σ,T n n_54 [dT ps[i].ty,dSs names,dTs bys] σ=some (.ret ⟨false,dT (subT names bys ps[i].ty)⟩,σ) :=
  Evly.below _ fun i hi=>(r04_subst_run names bys hl hb ps[i].ty).mono fun n h _ σ=>h σ
 refine hk.step (ps.length + 2) fun m hm hrun σ=>?_
 rw [T_fun (af:=a_163) rfl rfl]
 have hloop:=loopN_run (body:=exec (T m) m none a_90) (EPu ps names bys) (fun _=>σ) ps.length (r:=_) (fun _ _ h=>by cases h) (fun i hi=>lPu_step ps names bys i hi hp (hrun i hi hi σ)) (lPu_end ps names bys) 0 m (by omega) (by omega)
 simp only [EPu,zeroI,List.take_zero,List.map_nil,dlist_nil,ow_zero] at hloop
 simp only [a_163,sA,Nat.reduceAdd,Nat.reduceSub,Nat.reduceMul,Nat.reduceBEq,Nat.reduceLeDiff,Int.reduceBEq,Int.reduceBNe,Int.reduceLE,Int.reduceLT,Int.reduceGE,Int.reduceGT,Int.reduceNeg,kn,dPs,hloop]
end Go.Fu
