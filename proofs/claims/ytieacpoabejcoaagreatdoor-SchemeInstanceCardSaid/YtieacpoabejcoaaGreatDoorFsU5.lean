/-
 Names that a type tells,run; whether all variables are told.
-/
import Derived.Test.YtieacpoabejcoaaGreatDoorFsU2
set_option maxHeartbeats 4000000
set_option linter.unusedSimpArgs false
set_option linter.unusedVariables false
set_option linter.unusedSectionVars false
namespace Go.Fu
open Go Go.Mx
set_option maxRecDepth 10000
set_option maxHeartbeats 4000000
section
variable {C:CallF} {n:Nat} {σ:Store}
structure Rds (σ:Store) (d:D) (l:List (List UInt8)):Prop where
 len:lenOf d=some l.length
 get:∀ i,∀ h:i < l.length,indexD 1 d i=some (.eptr (.str l[i]))∨∃ id,indexD 1 d i=some (.ptr id i)∧∃ cs,aget σ.objs id=some cs∧nth cs i=some ⟨false,.str l[i]⟩
def EHa (d:D) (s:List UInt8) (i:Nat):Env:={slots:=[(0,⟨false,d⟩),(1,⟨false,.str s⟩),(5,⟨false,.int .i64 i⟩)],locs:=[],boxes:=[],defers:=[]}
theorem lHa_step (d:D) (l:List (List UInt8)) (s:List UInt8) (i:Nat) (hr:Rds σ d l) (h:i < l.length) (hl:l.length < 1048576) (hp:(l[i] == s)=false):exec C n none b_r01_Has_l0 (EHa d s i) σ=some (.normal,EHa d s (i + 1),σ):=by
 have hi:((i:Int) < (l.length:Int)):=by omega
 have w1:=wrap64_succ (i:=i) (by omega)
 have hln:=hr.len
 rcases hr.get i h with hx | ⟨id,hx,cs,ha,hn⟩
 ·simp only [b_r01_Has_l0,EHa,sA,Nat.reduceAdd,Nat.reduceSub,Nat.reduceMul,Nat.reduceBEq,Nat.reduceLeDiff,Int.reduceBEq,Int.reduceBNe,Int.reduceLE,Int.reduceLT,Int.reduceGE,Int.reduceGT,Int.reduceNeg,kn,zeroI,lit1,lit2,lit3,lit4,lit5,lit6,lit7,lit8,memE,memOp,hi,w1,hln,hx,hp]
 ·simp only [b_r01_Has_l0,EHa,sA,Nat.reduceAdd,Nat.reduceSub,Nat.reduceMul,Nat.reduceBEq,Nat.reduceLeDiff,Int.reduceBEq,Int.reduceBNe,Int.reduceLE,Int.reduceLT,Int.reduceGE,Int.reduceGT,Int.reduceNeg,kn,zeroI,lit1,lit2,lit3,lit4,lit5,lit6,lit7,lit8,memE,memOp,hi,w1,hln,hx,ha,hn,hp]
theorem lHa_stop (d:D) (l:List (List UInt8)) (s:List UInt8) (i:Nat) (hr:Rds σ d l) (h:i < l.length) (hp:(l[i] == s)=true):exec C n none b_r01_Has_l0 (EHa d s i) σ=some (.ret,{slots:=[(4,⟨false,.bool true⟩)],locs:=[],boxes:=[],defers:=[]},σ):=by
 have hi:((i:Int) < (l.length:Int)):=by omega
 have hln:=hr.len
 rcases hr.get i h with hx | ⟨id,hx,cs,ha,hn⟩
 ·simp only [b_r01_Has_l0,EHa,sA,Nat.reduceAdd,Nat.reduceSub,Nat.reduceMul,Nat.reduceBEq,Nat.reduceLeDiff,Int.reduceBEq,Int.reduceBNe,Int.reduceLE,Int.reduceLT,Int.reduceGE,Int.reduceGT,Int.reduceNeg,kn,zeroI,lit1,lit2,lit3,lit4,lit5,lit6,lit7,lit8,memE,memOp,hi,hln,hx,hp]
 ·simp only [b_r01_Has_l0,EHa,sA,Nat.reduceAdd,Nat.reduceSub,Nat.reduceMul,Nat.reduceBEq,Nat.reduceLeDiff,Int.reduceBEq,Int.reduceBNe,Int.reduceLE,Int.reduceLT,Int.reduceGE,Int.reduceGT,Int.reduceNeg,kn,zeroI,lit1,lit2,lit3,lit4,lit5,lit6,lit7,lit8,memE,memOp,hi,hln,hx,ha,hn,hp]
theorem lHa_end (d:D) (l:List (List UInt8)) (s:List UInt8) (hr:Rds σ d l):exec C n none b_r01_Has_l0 (EHa d s l.length) σ=some (.exit 0,{EHa d s l.length with slots:=[(0,⟨false,d⟩),(1,⟨false,.str s⟩),(5,⟨false,.int .i64 l.length⟩),(9,⟨false,.bool false⟩)]},σ):=by
 have hi:¬ ((l.length:Int) < (l.length:Int)):=by omega
 have hln:=hr.len
 simp only [b_r01_Has_l0,EHa,sA,Nat.reduceAdd,Nat.reduceSub,Nat.reduceMul,Nat.reduceBEq,Nat.reduceLeDiff,Int.reduceBEq,Int.reduceBNe,Int.reduceLE,Int.reduceLT,Int.reduceGE,Int.reduceGT,Int.reduceNeg,kn,zeroI,lit1,lit2,lit3,lit4,lit5,lit6,lit7,lit8,hi,hln]
end
def neF (l:List (List UInt8)) (s:List UInt8) (i:Nat):Bool:=match l[i]? with
 | some x=>!(x == s)
 | none=>true
theorem neF_get {l:List (List UInt8)} {s:List UInt8} {i:Nat} (h:i < l.length):neF l s i=!(l[i] == s):=by simp [neF,h]
theorem hasR_run (l:List (List UInt8)) (hl:l.length < 1048576):Evly fun n=>∀ (s:List UInt8) σ d,Rds σ d l→T n n_17 [d,.str s] σ=some (.ret ⟨false,.bool (l.contains s)⟩,σ) :=
 (Evly.all (p:=fun _=>True) fun _=>trivial).step (l.length + 2) fun m hm _ s σ d hr=>by
 have hloop:=loopN_until (body:=exec (T m) m none b_r01_Has_l0) (EHa d s) (fun _=>σ) l.length (neF l s) (stop:=fun i=>(.ret,{slots:=[(4,⟨false,.bool true⟩)],locs:=[],boxes:=[],defers:=[]},σ)) (fun _ _ h=>by cases h) (fun _ _ _ h=>by cases h)
  (fun i hi hp=>lHa_step d l s i hr hi hl (by rw [neF_get hi] at hp; simpa using hp)) (fun i hi hp=>lHa_stop d l s i hr hi (by rw [neF_get hi] at hp; simpa using hp)) (lHa_end d l s hr) m 0 (by omega) (by omega)
 simp only [EHa,zeroI] at hloop
 rw [T_fun (af:=b_r01_Has) rfl rfl]
 rcases hloop with ⟨i,_,hi,hp,hb,hrest⟩ | ⟨hp,hrest⟩
 ·have hc:l.contains s=true:=by
   rw [neF_get hi] at hp
   have:l[i]=s:=by simpa using hp
   rw [← this]; simp
  simp only [b_r01_Has,sA,Nat.reduceAdd,Nat.reduceSub,Nat.reduceMul,Nat.reduceBEq,Nat.reduceLeDiff,Int.reduceBEq,Int.reduceBNe,Int.reduceLE,Int.reduceLT,Int.reduceGE,Int.reduceGT,Int.reduceNeg,kn,zeroI,lit1,lit2,lit3,lit4,lit5,lit6,lit7,lit8,hrest,hc]
 ·have hc:l.contains s=false:=by
   cases h:l.contains s with
   | false=>rfl
   | true =>
    have hm:s∈l:=by simpa using h
    obtain ⟨i,hi,he⟩:=List.getElem_of_mem hm
    have:=hp i (Nat.zero_le _) hi
    rw [neF_get hi,he] at this
    simp at this
  simp only [b_r01_Has,sA,Nat.reduceAdd,Nat.reduceSub,Nat.reduceMul,Nat.reduceBEq,Nat.reduceLeDiff,Int.reduceBEq,Int.reduceBNe,Int.reduceLE,Int.reduceLT,Int.reduceGE,Int.reduceGT,Int.reduceNeg,kn,zeroI,lit1,lit2,lit3,lit4,lit5,lit6,lit7,lit8,hrest,hc]
theorem rds_list (σ:Store) (l:List (List UInt8)):Rds σ (dSs l) l:=⟨by simp only [dSs,lenOf_dlist,List.length_map],fun i h=>.inl (idx_S l i h)⟩
def NR (m0:Nat) (σ:Store) (d:D) (l:List (List UInt8)):Prop:=(d=.nils∧l=[])∨∃ id,m0≤id∧id < σ.next∧d=.arr k_0 id 0 l.length∧aget σ.objs id=some (cellsOf (l.map D.str))∧aget σ.tys id=some ⟨k_0.el,k_0.sz⟩
theorem cellsS (l:List (List UInt8)):cellsOf (l.map D.str)=l.map fun s=>⟨false,.str s⟩:=by
 induction l with
 | nil=>rfl
 | cons s r ih =>
  simp only [List.map_cons,cellsOf,ih]
  rfl
theorem nth_cS (l:List (List UInt8)) (i:Nat) (h:i < l.length):nth (cellsOf (l.map D.str)) i=some ⟨false,.str l[i]⟩:=by
 rw [cellsS,nth_map,nth_get _ _ h]
 rfl
theorem rds_nr {m0:Nat} {σ:Store} {d:D} {l:List (List UInt8)} (h:NR m0 σ d l):Rds σ d l:=by
 rcases h with ⟨rfl,rfl⟩ | ⟨id,_,_,rfl,ho,_⟩
 ·exact ⟨rfl,fun i hi=>absurd hi (by simp)⟩
 ·refine ⟨rfl,fun i hi=>.inr ⟨id,?_,_,ho,nth_cS l i hi⟩⟩
  rw [indexD_arr]
  have:decide (i < l.length)=true:=decide_eq_true hi
  simp only [k_63,beq_self_eq_true,this,Bool.and_self,ifB_true,Nat.zero_add,Nat.mul_one]
theorem nr_app {m0:Nat} {σ:Store} {d:D} {l:List (List UInt8)} (h:NR m0 σ d l) (hm:m0≤σ.next) (hl:l.length < 1000000) (s:List UInt8):∃ d' σ',appendAD σ k_0 16 d [.str s]=some (d',σ')∧NR m0 σ' d' (l ++ [s])∧G m0 σ σ':=by
 have hall:allSize k_0.sz [D.str s]=true:=rfl
 rcases h with ⟨rfl,rfl⟩ | ⟨id,h1,h2,rfl,h3,h4⟩
 ·refine ⟨.arr k_0 σ.next 0 1,newArr σ k_0 (cellsOf [.str s]),rfl,.inr ⟨σ.next,hm,?_,rfl,agS _ _ _,agS _ _ _⟩,?_⟩
  ·show σ.next < σ.next + 2
   omega
  ·exact ⟨by show σ.next≤σ.next + 2; omega,fun j hj _=>agC _ _ (by omega),fun j hj=>agC _ _ (by omega),fun _ _=>rfl⟩
 ·have e0:(l.length * k_0.sz≤(cellsOf (l.map D.str)).length):=by rw [cellsS,List.length_map,k_63]; omega
  have e1:((l.length + 1) * 16≤bound):=by simp [bound]; omega
  have e2:(l.length + 1≤bound):=by simp [bound]; omega
  have et:((cellsOf (l.map D.str)).take (l.length * k_0.sz)).map (fun c=>Cell.of c.d) ++ cellsOf [.str s]=cellsOf ((l ++ [s]).map D.str):=by
   rw [List.take_of_length_le (by rw [cellsS,List.length_map,k_63]; omega),cellsS,cellsS,List.map_map,List.map_append]
   rfl
  refine ⟨.arr k_0 σ.next 0 (l.length + 1),newArr {σ with objs:=adel1 σ.objs id} k_0 (cellsOf ((l ++ [s]).map D.str)),?_,.inr ⟨σ.next,hm,?_,by simp,agS _ _ _,agS _ _ _⟩,?_⟩
  ·have ek:k_0.same k_0=true:=rfl
   simp only [appendAD,hall,ifB_true,h3,h4,bindO,caseO_some,ek,beq_self_eq_true,List.length_cons,List.length_nil,Nat.zero_add,e0,e1,e2,decide_true,Bool.and_self,et]
  ·show σ.next < σ.next + 2
   omega
  ·refine ⟨by show σ.next≤σ.next + 2; omega,fun j hj _=>?_,fun j hj=>agC _ _ (by show σ.next≠j; omega),fun _ _=>rfl⟩
   exact (agC _ _ (by show σ.next≠j; omega)).trans (adel_other _ (by omega))
def bA (f a:Tp):List Cell:=[⟨false,.int .i64 4⟩,⟨false,.int .i64 0⟩,⟨false,.str []⟩,⟨false,.list k_1 [dT f,dT a]⟩]
def freeR:Tp→List (List UInt8)→List (List UInt8)
 | .var s,out=>if out.contains s then out else out ++ [s]
 | .app f a,out=>freeR a (freeR f out)
 | _,out=>out
theorem freeR_len:∀ (t:Tp) (out:List (List UInt8)),(freeR t out).length≤out.length + nT t
 | .var s,out=>by
  unfold freeR
  split <;> simp [nT]
 | .con c,out=>by simp [freeR,nT]
 | .hole x,out=>by simp [freeR,nT]
 | .app f a,out=>by
  have h1:=freeR_len f out
  have h2:=freeR_len a (freeR f out)
  simp only [freeR,nT]; omega
section
variable {C:CallF} {n:Nat}
def ERf (f a:Tp) (r:D) (i:Nat):Env:={slots:=[(1,⟨false,.nils⟩),(2,⟨false,r⟩),(8,⟨false,.int .i64 i⟩)],locs:=[(3,3,0)],boxes:=[(3,bA f a)],defers:=[]}
theorem lRf_step0 (f a:Tp) (r r':D) (σ σ':Store) (h:C n_55 [dT f,.nils,r] σ=some (.ret ⟨false,r'⟩,σ')):exec C n none b_r04_free_l0 (ERf f a r 0) σ=some (.normal,ERf f a r' 1,σ'):=by
 have w1:IntKind.i64.wrap (0 + 1)=1:=by decide
 rw [dT_eq f] at h
 simp only [cT] at h
 simp only [b_r04_free_l0,ERf,bA,sA,Nat.reduceAdd,Nat.reduceSub,Nat.reduceMul,Nat.reduceBEq,Nat.reduceLeDiff,Int.reduceBEq,Int.reduceBNe,Int.reduceLE,Int.reduceLT,Int.reduceGE,Int.reduceGT,Int.reduceNeg,kn,zeroI,lit1,lit2,lit3,lit4,lit5,lit6,lit7,lit8,Mx.part,dT_eq f,dT_eq a,cT,w1,h]
theorem lRf_step1 (f a:Tp) (r r':D) (σ σ':Store) (h:C n_55 [dT a,.nils,r] σ=some (.ret ⟨false,r'⟩,σ')):exec C n none b_r04_free_l0 (ERf f a r 1) σ=some (.normal,ERf f a r' 2,σ'):=by
 have w1:IntKind.i64.wrap (1 + 1)=2:=by decide
 rw [dT_eq a] at h
 simp only [cT] at h
 simp only [b_r04_free_l0,ERf,bA,sA,Nat.reduceAdd,Nat.reduceSub,Nat.reduceMul,Nat.reduceBEq,Nat.reduceLeDiff,Int.reduceBEq,Int.reduceBNe,Int.reduceLE,Int.reduceLT,Int.reduceGE,Int.reduceGT,Int.reduceNeg,kn,zeroI,lit1,lit2,lit3,lit4,lit5,lit6,lit7,lit8,Mx.part,dT_eq f,dT_eq a,cT,w1,h]
theorem lRf_end (f a:Tp) (r:D) (σ:Store):exec C n none b_r04_free_l0 (ERf f a r 2) σ=some (.exit 0,{ERf f a r 2 with slots:=[(1,⟨false,.nils⟩),(2,⟨false,r⟩),(8,⟨false,.int .i64 2⟩),(43,⟨false,.bool false⟩)]},σ):=by
 simp only [b_r04_free_l0,ERf,bA,sA,Nat.reduceAdd,Nat.reduceSub,Nat.reduceMul,Nat.reduceBEq,Nat.reduceLeDiff,Int.reduceBEq,Int.reduceBNe,Int.reduceLE,Int.reduceLT,Int.reduceGE,Int.reduceGT,Int.reduceNeg,kn,zeroI,lit1,lit2,lit3,lit4,lit5,lit6,lit7,lit8]
theorem lRf_nil (f x:Int) (s:List UInt8) (r:D) (σ:Store):exec C n none b_r04_free_l0 {slots:=[(1,⟨false,.nils⟩),(2,⟨false,r⟩),(8,⟨false,.int .i64 0⟩)],locs:=[(3,3,0)],boxes:=[(3,[⟨false,.int .i64 f⟩,⟨false,.int .i64 x⟩,⟨false,.str s⟩,⟨false,.nils⟩])],defers:=[]} σ =
  some (.exit 0,{slots:=[(1,⟨false,.nils⟩),(2,⟨false,r⟩),(8,⟨false,.int .i64 0⟩),(43,⟨false,.bool false⟩)],locs:=[(3,3,0)],boxes:=[(3,[⟨false,.int .i64 f⟩,⟨false,.int .i64 x⟩,⟨false,.str s⟩,⟨false,.nils⟩])],defers:=[]},σ):=by
 simp only [b_r04_free_l0,sA,Nat.reduceAdd,Nat.reduceSub,Nat.reduceMul,Nat.reduceBEq,Nat.reduceLeDiff,Int.reduceBEq,Int.reduceBNe,Int.reduceLE,Int.reduceLT,Int.reduceGE,Int.reduceGT,Int.reduceNeg,kn,zeroI,lit1,lit2,lit3,lit4,lit5,lit6,lit7,lit8]
end
theorem free_r_run:∀ (t:Tp) (out:List (List UInt8)),out.length + nT t < 1000000→Evly fun n=>∀ m0 σ r,m0≤σ.next→NR m0 σ r out→∃ r' σ',T n n_55 [dT t,.nils,r] σ=some (.ret ⟨false,r'⟩,σ')∧NR m0 σ' r' (freeR t out)∧G m0 σ σ'
 | .con c,out,_=>(Evly.all (p:=fun _=>True) fun _=>trivial).step 2 fun m hm _ m0 σ r _ hr=>by
   obtain ⟨j,rfl⟩:∃ j,m=j + 1:=⟨m - 1,by omega⟩
   refine ⟨r,σ,?_,hr,G.refl _ _⟩
   have hl:=loopN_one (k:=j) (lRf_nil (C:=T (j + 1)) (n:=j + 1) 3 0 c r σ)
   rw [T_fun (af:=b_r04_free) rfl rfl]
   simp only [b_r04_free,sA,Nat.reduceAdd,Nat.reduceSub,Nat.reduceMul,Nat.reduceBEq,Nat.reduceLeDiff,Int.reduceBEq,Int.reduceBNe,Int.reduceLE,Int.reduceLT,Int.reduceGE,Int.reduceGT,Int.reduceNeg,kn,zeroI,lit1,lit2,lit3,lit4,lit5,lit6,lit7,lit8,dT,hl]
 | .hole x,out,_=>(Evly.all (p:=fun _=>True) fun _=>trivial).step 2 fun m hm _ m0 σ r _ hr=>by
   obtain ⟨j,rfl⟩:∃ j,m=j + 1:=⟨m - 1,by omega⟩
   refine ⟨r,σ,?_,hr,G.refl _ _⟩
   have hl:=loopN_one (k:=j) (lRf_nil (C:=T (j + 1)) (n:=j + 1) 1 x [] r σ)
   rw [T_fun (af:=b_r04_free) rfl rfl]
   simp only [b_r04_free,sA,Nat.reduceAdd,Nat.reduceSub,Nat.reduceMul,Nat.reduceBEq,Nat.reduceLeDiff,Int.reduceBEq,Int.reduceBNe,Int.reduceLE,Int.reduceLT,Int.reduceGE,Int.reduceGT,Int.reduceNeg,kn,zeroI,lit1,lit2,lit3,lit4,lit5,lit6,lit7,lit8,dT,hl]
 | .var s,out,hb=>((hasR_run [] (by simp)).and (hasR_run out (by simp only [nT] at hb; omega))).step 2 fun m hm h m0 σ r hm0 hr=>by
   simp only [nT] at hb
   have h1:=h.1 s σ .nils (rds_nr (m0:=0) (.inl ⟨rfl,rfl⟩))
   have h2:=h.2 s σ r (rds_nr hr)
   have c0:([]:List (List UInt8)).contains s=false:=rfl
   rw [c0] at h1
   cases hc:out.contains s with
   | true =>
    rw [hc] at h2
    refine ⟨r,σ,?_,by simp only [freeR,hc,if_true]; exact hr,G.refl _ _⟩
    rw [T_fun (af:=b_r04_free) rfl rfl]
    simp only [b_r04_free,sA,Nat.reduceAdd,Nat.reduceSub,Nat.reduceMul,Nat.reduceBEq,Nat.reduceLeDiff,Int.reduceBEq,Int.reduceBNe,Int.reduceLE,Int.reduceLT,Int.reduceGE,Int.reduceGT,Int.reduceNeg,kn,zeroI,lit1,lit2,lit3,lit4,lit5,lit6,lit7,lit8,dT,h1,h2]
   | false =>
    rw [hc] at h2
    obtain ⟨r',σ',ha,hr',hg⟩:=nr_app hr hm0 (by omega) s
    refine ⟨r',σ',?_,by simp only [freeR,hc,Bool.false_eq_true,if_false]; exact hr',hg⟩
    rw [T_fun (af:=b_r04_free) rfl rfl]
    simp only [b_r04_free,sA,Nat.reduceAdd,Nat.reduceSub,Nat.reduceMul,Nat.reduceBEq,Nat.reduceLeDiff,Int.reduceBEq,Int.reduceBNe,Int.reduceLE,Int.reduceLT,Int.reduceGE,Int.reduceGT,Int.reduceNeg,kn,zeroI,lit1,lit2,lit3,lit4,lit5,lit6,lit7,lit8,memE,memOp,listOf_list,dT,h1,h2,ha]
 | .app f a,out,hb=>by
   simp only [nT] at hb
   have hfl:=freeR_len f out
   refine ((free_r_run f out (by omega)).and (free_r_run a (freeR f out) (by omega))).step 4 fun m hm h m0 σ r hm0 hr=>?_
   obtain ⟨r1,σ1,g1,hr1,k1⟩:=h.1 m0 σ r hm0 hr
   obtain ⟨r2,σ2,g2,hr2,k2⟩:=h.2 m0 σ1 r1 (Nat.le_trans hm0 k1.le) hr1
   refine ⟨r2,σ2,?_,hr2,k1.trans k2⟩
   obtain ⟨j,rfl⟩:∃ j,m=j + 3:=⟨m - 3,by omega⟩
   have hl:=(loopN_more (k:=j + 2) (lRf_step0 (C:=T (j + 3)) (n:=j + 3) f a r r1 σ σ1 g1)).trans ((loopN_more (k:=j + 1) (lRf_step1 (C:=T (j + 3)) (n:=j + 3) f a r1 r2 σ1 σ2 g2)).trans (loopN_one (k:=j) (lRf_end (C:=T (j + 3)) (n:=j + 3) f a r2 σ2)))
   simp only [ERf,bA,zeroI] at hl
   rw [T_fun (af:=b_r04_free) rfl rfl]
   simp only [b_r04_free,sA,Nat.reduceAdd,Nat.reduceSub,Nat.reduceMul,Nat.reduceBEq,Nat.reduceLeDiff,Int.reduceBEq,Int.reduceBNe,Int.reduceLE,Int.reduceLT,Int.reduceGE,Int.reduceGT,Int.reduceNeg,kn,zeroI,lit1,lit2,lit3,lit4,lit5,lit6,lit7,lit8,dT,hl]
theorem Free_r_run (t:Tp) (hb:nT t < 100000):Evly fun n=>∀ σ,∃ r σ',T n n_22 [dT t] σ=some (.ret ⟨false,r⟩,σ')∧NR σ.next σ' r (freeR t [])∧G σ.next σ σ':=(free_r_run t [] (by simp only [List.length_nil]; omega)).step 0 fun m _ h σ=>by
 obtain ⟨r,σ1,g1,hr,k1⟩:=h σ.next σ .nils (Nat.le_refl _) (.inl ⟨rfl,rfl⟩)
 refine ⟨r,σ1,?_,hr,k1⟩
 rw [dT_eq t] at g1 ⊢
 simp only [cT] at g1 ⊢
 rw [T_fun (af:=b_r04_Free) rfl rfl]
 simp only [b_r04_Free,sA,Nat.reduceAdd,Nat.reduceSub,Nat.reduceMul,Nat.reduceBEq,Nat.reduceLeDiff,Int.reduceBEq,Int.reduceBNe,Int.reduceLE,Int.reduceLT,Int.reduceGE,Int.reduceGT,Int.reduceNeg,kn,zeroI,lit1,lit2,lit3,lit4,lit5,lit6,lit7,lit8,g1]
section
variable {C:CallF} {n:Nat} {σ:Store}
def ETd (vs:List (List UInt8)) (kd:D) (ps:List Pr) (t:Tp) (F:D) (i:Nat):Env:={slots:=[(3,⟨false,F⟩),(4,⟨false,.int .i64 i⟩)],locs:=[(1,1,0)],boxes:=[(1,xRn vs kd ps t)],defers:=[]}
theorem lTd_step (vs:List (List UInt8)) (kd:D) (ps:List Pr) (t:Tp) (F:D) (i:Nat) (h:i < vs.length) (hl:vs.length < 1000) (hc:C n_17 [F,.str vs[i]] σ=some (.ret ⟨false,.bool true⟩,σ)):exec C n none a_41 (ETd vs kd ps t F i) σ=some (.normal,ETd vs kd ps t F (i + 1),σ):=by
 have h0:((i:Int) < (vs.length:Int)):=by omega
 have w1:=wrap64_succ (i:=i) (by omega)
 have hlv:lenOf (dSs vs)=some vs.length:=by simp only [dSs,lenOf_dlist,List.length_map]
 have hx:indexD 1 (dSs vs) i=some (.eptr (.str vs[i])):=idx_S vs i h
 simp only [a_41,ETd,xRn,bT,sA,Nat.reduceAdd,Nat.reduceSub,Nat.reduceMul,Nat.reduceBEq,Nat.reduceLeDiff,Int.reduceBEq,Int.reduceBNe,Int.reduceLE,Int.reduceLT,Int.reduceGE,Int.reduceGT,Int.reduceNeg,kn,zeroI,lit1,lit2,lit3,lit4,lit5,lit6,lit7,lit8,h0,w1,hlv,hx,hc]
theorem lTd_stop (vs:List (List UInt8)) (kd:D) (ps:List Pr) (t:Tp) (F:D) (i:Nat) (h:i < vs.length) (hc:C n_17 [F,.str vs[i]] σ=some (.ret ⟨false,.bool false⟩,σ)):exec C n none a_41 (ETd vs kd ps t F i) σ=some (.ret,{slots:=[(2,⟨false,.bool false⟩)],locs:=[],boxes:=[],defers:=[]},σ):=by
 have h0:((i:Int) < (vs.length:Int)):=by omega
 have hlv:lenOf (dSs vs)=some vs.length:=by simp only [dSs,lenOf_dlist,List.length_map]
 have hx:indexD 1 (dSs vs) i=some (.eptr (.str vs[i])):=idx_S vs i h
 simp only [a_41,ETd,xRn,bT,sA,Nat.reduceAdd,Nat.reduceSub,Nat.reduceMul,Nat.reduceBEq,Nat.reduceLeDiff,Int.reduceBEq,Int.reduceBNe,Int.reduceLE,Int.reduceLT,Int.reduceGE,Int.reduceGT,Int.reduceNeg,kn,zeroI,lit1,lit2,lit3,lit4,lit5,lit6,lit7,lit8,h0,hlv,hx,hc]
theorem lTd_end (vs:List (List UInt8)) (kd:D) (ps:List Pr) (t:Tp) (F:D):exec C n none a_41 (ETd vs kd ps t F vs.length) σ=some (.exit 0,{ETd vs kd ps t F vs.length with slots:=[(3,⟨false,F⟩),(4,⟨false,.int .i64 vs.length⟩),(12,⟨false,.bool false⟩)]},σ):=by
 have h0:¬ ((vs.length:Int) < (vs.length:Int)):=by omega
 have hlv:lenOf (dSs vs)=some vs.length:=by simp only [dSs,lenOf_dlist,List.length_map]
 simp only [a_41,ETd,xRn,bT,sA,Nat.reduceAdd,Nat.reduceSub,Nat.reduceMul,Nat.reduceBEq,Nat.reduceLeDiff,Int.reduceBEq,Int.reduceBNe,Int.reduceLE,Int.reduceLT,Int.reduceGE,Int.reduceGT,Int.reduceNeg,kn,zeroI,lit1,lit2,lit3,lit4,lit5,lit6,lit7,lit8,h0,hlv]
end
def tdF (vs F:List (List UInt8)) (i:Nat):Bool:=match vs[i]? with
 | some x=>F.contains x
 | none=>true
theorem tdF_get {vs F:List (List UInt8)} {i:Nat} (h:i < vs.length):tdF vs F i=F.contains vs[i]:=by simp [tdF,h]
theorem told_run (vs:List (List UInt8)) (kd:D) (ps:List Pr) (t:Tp) (hl:vs.length < 1000) (hb:nT t < 100000) (hk:kd.one=true):Evly fun n=>∀ σ,∃ σ',T n n_249 [.agg (dSs vs :: kd :: dPs ps :: cT t)] σ=some (.ret ⟨false,.bool (vs.all fun v=>(freeR t []).contains v)⟩,σ')∧G σ.next σ σ':=by
 have hfl:=freeR_len t []
 simp only [List.length_nil] at hfl
 have hh:Evly fun n=>∀ i,i < vs.length→∀ h:i < vs.length,∀ σ d,Rds σ d (freeR t [])→T n n_17 [d,.str vs[i]] σ=some (.ret ⟨false,.bool ((freeR t []).contains vs[i])⟩,σ):=Evly.below _ fun i hi=>(hasR_run (freeR t []) (by omega)).mono fun n h _ σ d hd=>h _ σ d hd
 refine ((Free_r_run t hb).and hh).step (vs.length + 4) fun m hm h σ=>?_
 obtain ⟨F,σ1,g1,hF,x1⟩:=h.1 σ
 have hR:=rds_nr hF
 refine ⟨σ1,?_,x1⟩
 have hloop:=loopN_until (body:=exec (T m) m none a_41) (ETd vs kd ps t F) (fun _=>σ1) vs.length (tdF vs (freeR t [])) (stop:=fun i=>(.ret,{slots:=[(2,⟨false,.bool false⟩)],locs:=[],boxes:=[],defers:=[]},σ1)) (fun _ _ h=>by cases h) (fun _ _ _ h=>by cases h)
  (fun i hi hp=>lTd_step vs kd ps t _ i hi hl (by have:=h.2 i hi hi σ1 F hR; rw [tdF_get hi] at hp; rw [hp] at this; exact this)) (fun i hi hp=>lTd_stop vs kd ps t _ i hi (by have:=h.2 i hi hi σ1 F hR; rw [tdF_get hi] at hp; rw [hp] at this; exact this)) (lTd_end vs kd ps t _) m 0 (by omega) (by omega)
 have oS:=one_dSs vs
 have oP:=one_dPs ps
 rw [dT_eq t] at g1
 simp only [ETd,xRn,bT,zeroI] at hloop
 simp only [cT] at g1
 rw [T_fun (af:=a_116) rfl rfl]
 rcases hloop with ⟨i,_,hi,hp,hb,hrest⟩ | ⟨hp,hrest⟩
 ·have hc:(vs.all fun v=>(freeR t []).contains v)=false:=by
   rw [List.all_eq_false]
   refine ⟨vs[i],List.getElem_mem hi,?_⟩
   rw [tdF_get hi] at hp
   simpa using hp
  simp only [a_116,cT,sA,Nat.reduceAdd,Nat.reduceSub,Nat.reduceMul,Nat.reduceBEq,Nat.reduceLeDiff,Int.reduceBEq,Int.reduceBNe,Int.reduceLE,Int.reduceLT,Int.reduceGE,Int.reduceGT,Int.reduceNeg,kn,zeroI,lit1,lit2,lit3,lit4,lit5,lit6,lit7,lit8,memE,memOp,hk,oS,oP,g1,hrest,hc]
 ·have hc:(vs.all fun v=>(freeR t []).contains v)=true:=by
   rw [List.all_eq_true]
   intro v hv
   obtain ⟨i,hi,rfl⟩:=List.getElem_of_mem hv
   have:=hp i (Nat.zero_le _) hi
   rwa [tdF_get hi] at this
  simp only [a_116,cT,sA,Nat.reduceAdd,Nat.reduceSub,Nat.reduceMul,Nat.reduceBEq,Nat.reduceLeDiff,Int.reduceBEq,Int.reduceBNe,Int.reduceLE,Int.reduceLT,Int.reduceGE,Int.reduceGT,Int.reduceNeg,kn,zeroI,lit1,lit2,lit3,lit4,lit5,lit6,lit7,lit8,memE,memOp,hk,oS,oP,g1,hrest,hc]
def freeT:Tp→List Tx
 | .var s=>[s]
 | .app f a=>freeT f ++ freeT a
 | _=>[]
theorem freeR_mem (s:List UInt8):∀ (t:Tp) (out:List (List UInt8)),s∈freeR t out↔s∈out∨s∈freeT t
 | .var x,out=>by
  unfold freeR freeT
  by_cases h:x∈out
  ·rw [if_pos (by simpa using h)]
   constructor
   ·exact .inl
   ·rintro (h1 | h1)
    ·exact h1
    ·rw [List.mem_singleton.1 h1]; exact h
  ·rw [if_neg (by simpa using h)]
   simp
 | .con c,out=>by simp [freeR,freeT]
 | .hole x,out=>by simp [freeR,freeT]
 | .app f a,out=>by
  rw [freeR,freeR_mem s a,freeR_mem s f,freeT,List.mem_append]
  constructor
  ·rintro ((h | h) | h)
   ·exact .inl h
   ·exact .inr (.inl h)
   ·exact .inr (.inr h)
  ·rintro (h | h | h)
   ·exact .inl (.inl h)
   ·exact .inl (.inr h)
   ·exact .inr h
end Go.Fu
namespace Go.Fu
open Go Go.Mx
set_option maxRecDepth 10000
set_option maxHeartbeats 4000000
theorem cloneSt_run:Evly fun n=>∀ (l:List Tx) σ,l.length < 1000→∃ o,T n n_263 [dSs l] σ=some (.ret ⟨o,dSs l⟩,σ):=any _ fun n l σ hl=>by
 rw [T_fun (af:=a_124) rfl rfl]
 cases l with
 | nil=>exact ⟨false,by simp only [a_124,sA,seval,kn,dSs,List.map_nil,dlist,D.isNilS?]⟩
 | cons x r =>
  refine ⟨true,?_⟩
  have ha:=append_more (r:=k_0) (by_:=16) (es:=[]) (ys:=(x :: r).map D.str) (o:=true) (fun h=>absurd rfl h) (by
   intro d hd
   obtain ⟨v,_,rfl⟩:=List.mem_map.1 hd
   exact ⟨rfl,rfl⟩) (by simp [bound]; simp at hl; omega) (by simp [bound]; simp at hl; omega)
  have hm:mayAppend k_0 ⟨true,.list k_0 []⟩=true:=rfl
  have hs:allSize k_0.sz ((x :: r).map D.str)=true:=by
   generalize x :: r=L
   induction L with
   | nil=>rfl
   | cons y L ih =>
    simp only [List.map_cons,allSize,ih,Bool.and_true]
    rfl
  have hb1:(0 + ((x :: r).map D.str).length) * 16≤bound:=by simp [bound]; simp at hl; omega
  have hb2:0 + ((x :: r).map D.str).length≤bound:=by simp [bound]; simp at hl; omega
  have ha2:appendD k_0 16 ⟨true,.list k_0 []⟩ ((x :: r).map D.str)=some ⟨true,dSs (x :: r)⟩:=by
   simp only [appendD,asList,bindO,caseO_some,hm,hs,List.length_nil,hb1,hb2,decide_true,Bool.and_self,ifB_true,joined,List.nil_append]
   rfl
  have hi:(dSs (x :: r)).isNilS?=some false:=rfl
  have hal:asList (dSs (x :: r))=some ((x :: r).map D.str):=rfl
  have e1:=one_dSs (x :: r)
  generalize ((x :: r).map D.str)=L at *
  generalize dSs (x :: r)=d at *
  simp only [a_124,sA,seval,kn,hi,hal,ha2,e1]
theorem cloneSg_run:Evly fun n=>∀ (l:List (Tx × Int)) σ,l.length < 1000→∃ o,T n n_262 [dMs l] σ=some (.ret ⟨o,dMs l⟩,σ):=any _ fun n l σ hl=>by
 rw [T_fun (af:=a_122) rfl rfl]
 cases l with
 | nil=>exact ⟨false,by simp only [a_122,sA,seval,kn,dMs,List.map_nil,dlist,D.isNilS?]⟩
 | cons x r =>
  refine ⟨true,?_⟩
  have hm:mayAppend k_16 ⟨true,.list k_16 []⟩=true:=rfl
  have hs:allSize k_16.sz ((x :: r).map dMe)=true:=by
   generalize x :: r=L
   induction L with
   | nil=>rfl
   | cons y L ih =>
    simp only [List.map_cons,allSize,ih,Bool.and_true]
    rfl
  have hb1:(0 + ((x :: r).map dMe).length) * 152≤bound:=by simp [bound]; simp at hl; omega
  have hb2:0 + ((x :: r).map dMe).length≤bound:=by simp [bound]; simp at hl; omega
  have ha2:appendD k_16 152 ⟨true,.list k_16 []⟩ ((x :: r).map dMe)=some ⟨true,dMs (x :: r)⟩:=by
   simp only [appendD,asList,bindO,caseO_some,hm,hs,List.length_nil,hb1,hb2,decide_true,Bool.and_self,ifB_true,joined,List.nil_append]
   rfl
  have hi:(dMs (x :: r)).isNilS?=some false:=rfl
  have hal:asList (dMs (x :: r))=some ((x :: r).map dMe):=rfl
  have e1:=one_dMs (x :: r)
  generalize ((x :: r).map dMe)=L at *
  generalize dMs (x :: r)=d at *
  simp only [a_122,sA,seval,kn,hi,hal,ha2,e1]
theorem eclass_run:Evly fun n=>∀ (p mc mm:Nat) (ins:D) (es:List (Tx × Cs × Nat)) (k0:Nat) (s:Tx) σ,EV p mc mm ins es k0 σ→(∀ y∈es,y.2.1.sups.length < 1000)→(∀ y∈es,y.2.1.mets.length < 1000) →
  ∃ (nm v:Tx) (a:Int) (x y:D) (b:Bool),x.one=true∧y.one=true∧(b=true→s∈es.map Prod.fst)∧T n n_181 [.ptr p 0,.str s] σ=some (.ret ⟨false,.tup [.agg [.str nm,.int .i64 a,.str v,.nils,x,y],.bool b]⟩,σ) :=
 (cloneSt_run.and cloneSg_run).step 0 fun m _ h p mc mm ins es k0 s σ hE hsz hmz=>by
 have ho:=hE.obj
 have hma:mapOf σ.oth (.map mc)=some (esC es):=by simp only [mapOf,hE.map,bindO,caseO_some]
 have hkd:keyD true (.str s)=true:=rfl
 rcases findC s es with ⟨h1,_⟩ | ⟨c,b,j,h1,h2,y,hy,hyc⟩
 ·refine ⟨[],[],0,.nils,.nils,false,rfl,rfl,(fun h=>(by cases h)),?_⟩
  obtain ⟨o1,c1⟩:=h.1 [] σ (by simp)
  obtain ⟨o2,c2⟩:=h.2 [] σ (by simp)
  have z1:dSs []=.nils:=rfl
  have z2:dMs []=.nils:=rfl
  rw [z1] at c1
  rw [z2] at c2
  rw [T_fun (af:=a_72) rfl rfl]
  simp only [a_72,sA,seval,kn,zeroI,lit1,lit2,lit3,lit4,lit5,lit6,lit7,lit8,ho,hma,hkd,h1,c1,c2]
 ·subst hyc
  obtain ⟨o1,c1⟩:=h.1 y.2.1.sups σ (hsz y hy)
  obtain ⟨o2,c2⟩:=h.2 y.2.1.mets σ (hmz y hy)
  have e1:=one_dSs y.2.1.sups
  have e2:=one_dMs y.2.1.mets
  have f1:(dSs y.2.1.sups).ok=true:=ok_dlist
  have f2:(dSs y.2.1.sups).cells=[dSs y.2.1.sups]:=cells_dlist
  have f3:(dMs y.2.1.mets).ok=true:=ok_dlist
  have f4:(dMs y.2.1.mets).cells=[dMs y.2.1.mets]:=cells_dlist
  refine ⟨y.2.1.name,[97],y.2.1.pos,dSs y.2.1.sups,dMs y.2.1.mets,true,e1,e2,fun _=>h2,?_⟩
  generalize y.2.1=c at *
  simp only [dCs,cCs] at h1
  rw [T_fun (af:=a_72) rfl rfl]
  simp only [a_72,sA,seval,kn,zeroI,lit1,lit2,lit3,lit4,lit5,lit6,lit7,lit8,ho,hma,hkd,h1,c1,c2,e1,e2,f1,f2,f3,f4]
theorem listOf_nr {m0:Nat} {σ:Store} {d:D} {l:List Tx} (h:NR m0 σ d l):listOf σ.objs d=some (l.map D.str):=by
 rcases h with ⟨rfl,rfl⟩ | ⟨id,_,_,rfl,ho,_⟩
 ·rfl
 ·have hl:(l.map D.str).length=l.length:=List.length_map _
  have he:=elems_cells (k:=k_0) (ds:=l.map D.str) (fun d hd=>by
   obtain ⟨x,_,rfl⟩:=List.mem_map.1 hd
   exact ⟨rfl,rfl⟩)
  rw [hl] at he
  have hk:(k_0.ag || k_0.sz == 1)=true:=rfl
  have e0:decide ((0 + l.length) * k_0.sz≤(cellsOf (l.map D.str)).length)=true:=by
   rw [cellsS,List.length_map,k_63]
   simp
  simp only [listOf,ho,bindO,caseO_some,hk,e0,Bool.and_self,ifB_true,he]
theorem nr_keep {m0 m:Nat} {σ σ':Store} {d:D} {l:List Tx} (h:NR m0 σ d l) (hm:σ.next≤m) (g:G m σ σ'):NR m0 σ' d l:=by
 rcases h with h | ⟨id,h1,h2,h3,h4,h5⟩
 ·exact .inl h
 ·exact .inr ⟨id,h1,Nat.lt_of_lt_of_le h2 g.le,h3,(g.objs id (by omega) (fun h=>h)).trans h4,(g.tys id (by omega)).trans h5⟩
theorem all_str:∀ l:List Tx,allSize k_0.sz (l.map D.str)=true
 | []=>rfl
 | x :: r=>by
  simp only [List.map_cons,allSize,all_str r,Bool.and_true]
  rfl
theorem nr_appL {m0:Nat} {σ:Store} {d:D} {l:List Tx} (h:NR m0 σ d l) (hm:m0≤σ.next) (ys:List Tx) (hl:l.length + ys.length < 1000000):∃ d' σ',appendAD σ k_0 16 d (ys.map D.str)=some (d',σ')∧NR m0 σ' d' (l ++ ys)∧G m0 σ σ':=by
 have hall:=all_str ys
 rcases h with ⟨rfl,rfl⟩ | ⟨id,h1,h2,rfl,h3,h4⟩
 ·cases ys with
  | nil=>exact ⟨.nils,σ,rfl,.inl ⟨rfl,rfl⟩,G.refl _ _⟩
  | cons x r =>
   have e1:((x :: r).map D.str).length * 16≤bound:=by simp [bound]; simp at hl; omega
   have e2:((x :: r).map D.str).length≤bound:=by simp [bound]; simp at hl; omega
   refine ⟨.arr k_0 σ.next 0 ((x :: r).map D.str).length,newArr σ k_0 (cellsOf ((x :: r).map D.str)),?_,.inr ⟨σ.next,hm,?_,by simp,agS _ _ _,agS _ _ _⟩,?_⟩
   ·simp only [appendAD,hall,ifB_true,e1,e2,decide_true,Bool.and_self]
    rfl
   ·show σ.next < σ.next + 2
    omega
   ·exact ⟨by show σ.next≤σ.next + 2; omega,fun j hj _=>agC _ _ (by omega),fun j hj=>agC _ _ (by omega),fun _ _=>rfl⟩
 ·have e0:(l.length * k_0.sz≤(cellsOf (l.map D.str)).length):=by rw [cellsS,List.length_map,k_63]; omega
  have e1:((l.length + ys.length) * 16≤bound):=by simp [bound]; omega
  have e2:(l.length + ys.length≤bound):=by simp [bound]; omega
  have et:((cellsOf (l.map D.str)).take (l.length * k_0.sz)).map (fun c=>Cell.of c.d) ++ cellsOf (ys.map D.str)=cellsOf ((l ++ ys).map D.str):=by
   rw [List.take_of_length_le (by rw [cellsS,List.length_map,k_63]; omega),cellsS,cellsS,cellsS,List.map_map,List.map_append]
   rfl
  refine ⟨.arr k_0 σ.next 0 (l.length + ys.length),newArr {σ with objs:=adel1 σ.objs id} k_0 (cellsOf ((l ++ ys).map D.str)),?_,.inr ⟨σ.next,hm,?_,by simp,agS _ _ _,agS _ _ _⟩,?_⟩
  ·have ek:k_0.same k_0=true:=rfl
   simp only [appendAD,hall,ifB_true,h3,h4,bindO,caseO_some,ek,beq_self_eq_true,List.length_map,e0,e1,e2,decide_true,Bool.and_self,et]
  ·show σ.next < σ.next + 2
   omega
  ·refine ⟨by show σ.next≤σ.next + 2; omega,fun j hj _=>?_,fun j hj=>agC _ _ (by show σ.next≠j; omega),fun _ _=>rfl⟩
   exact (agC _ _ (by show σ.next≠j; omega)).trans (adel_other _ (by omega))
end Go.Fu
namespace Go.Fu
open Go Go.Mx
set_option maxRecDepth 10000
set_option maxHeartbeats 4000000
theorem posS_mem {s:Tx}:∀ {l:List Tx},s∈l→∃ k,posS s l=some k
 | [],h=>by cases h
 | x :: r,h=>by
  by_cases e:s=x
  ·exact ⟨0,by simp [posS,e]⟩
  ·have hr:s∈r:=by
    rcases List.mem_cons.1 h with h | h
    ·exact absurd h e
    ·exact h
   obtain ⟨k,hk⟩:=posS_mem hr
   have he:(s == x)=false:=by simpa using e
   exact ⟨k + 1,by simp [posS,he,hk]⟩
theorem getD_get {l:List Tp} {k:Nat} (h:k < l.length) (d:Tp):l.getD k d=l[k]:=by simp [h]
theorem apV_sub (ws vs:List Tx) (bys:List Tp) (hb:bys.length=vs.length) (c:UInt8):∀ t:Tp,(∀ s∈freeT t,s∈vs)→apV c ws (subT vs bys t)=subT vs (bys.map (apV c ws)) t
 | .hole x,_=>rfl
 | .con s,_=>rfl
 | .var s,h=>by
  obtain ⟨k,hk⟩:=posS_mem (h s (by simp [freeT]))
  have hl:=posS_lt hk
  have h1:k < bys.length:=by omega
  have h2:k < (bys.map (apV c ws)).length:=by simpa using h1
  simp only [subT,hk]
  rw [getD_get h1,getD_get h2,List.getElem_map]
 | .app f a,h=>by
  have h1:=apV_sub ws vs bys hb c f fun s hs=>h s (by simp [freeT,hs])
  have h2:=apV_sub ws vs bys hb c a fun s hs=>h s (by simp [freeT,hs])
  show Tp.app (apV c ws (subT vs bys f)) (apV c ws (subT vs bys a))=_
  rw [h1,h2]
  rfl
def Con (B:List Tp) (l:List (Option Tp)):Prop:=l.length=B.length∧∀ k (h:k < B.length),l.getD k none=none∨l.getD k none=some B[k]
theorem match_sub (vs:List Tx) (B:List Tp) (hB:B.length=vs.length):∀ (t:Tp) (l:List (Option Tp)),(∀ s∈freeT t,s∈vs)→Con B l →
  (matchM vs t (subT vs B t) l).1=true∧Con B (matchM vs t (subT vs B t) l).2∧(∀ k (h:k < B.length),l.getD k none=some B[k]→(matchM vs t (subT vs B t) l).2.getD k none=some B[k])∧∀ s∈freeT t,∀ k (h:k < B.length),posS s vs=some k→(matchM vs t (subT vs B t) l).2.getD k none=some B[k]
 | .hole x,l,_,hC=>⟨eqT_refl _,hC,fun _ _ h=>h,fun s hs=>by simp [freeT] at hs⟩
 | .con s,l,_,hC=>⟨eqT_refl _,hC,fun _ _ h=>h,fun s hs=>by simp [freeT] at hs⟩
 | .var s,l,h,hC=>by
  obtain ⟨k,hk⟩:=posS_mem (h s (by simp [freeT]))
  have hl:=posS_lt hk
  have h1:k < B.length:=by omega
  have e:subT vs B (.var s)=B[k]:=by simp only [subT,hk]; exact getD_get h1 _
  rw [e]
  have hlk:k < l.length:=by rw [hC.1]; exact h1
  rcases hC.2 k h1 with hn | hs
  ·have em:matchM vs (.var s) B[k] l=(true,l.set k (some B[k])):=by simp only [matchM,hk,hn]
   rw [em]
   have hg:∀ j,(l.set k (some B[k])).getD j none=if k=j then some B[k] else l.getD j none:=fun j=>by
    simp only [List.getD_eq_getElem?_getD,List.getElem?_set]
    by_cases hkj:k=j
    ·subst hkj
     simp [hlk]
    ·simp [hkj]
   refine ⟨rfl,⟨by simp [hC.1],fun j hj=>?_⟩,fun j hj hjs=>?_,fun s' hs' j hj hp=>?_⟩
   ·rw [hg]
    by_cases hkj:k=j
    ·subst hkj; rw [if_pos rfl]; exact .inr rfl
    ·rw [if_neg hkj]; exact hC.2 j hj
   ·show (l.set k (some B[k])).getD j none=_
    rw [hg]
    by_cases hkj:k=j
    ·subst hkj; rw [if_pos rfl]
    ·rw [if_neg hkj]; exact hjs
   ·have:s'=s:=by simpa [freeT] using hs'
    subst this
    rw [hk] at hp
    cases hp
    show (l.set k (some B[k])).getD k none=_
    rw [hg,if_pos rfl]
  ·have em:matchM vs (.var s) B[k] l=(true,l):=by simp only [matchM,hk,hs,eqT_refl]
   rw [em]
   refine ⟨rfl,hC,fun _ _ h=>h,fun s' hs' j hj hp=>?_⟩
   have:s'=s:=by simpa [freeT] using hs'
   subst this
   rw [hk] at hp
   cases hp
   exact hs
 | .app f a,l,h,hC=>by
  obtain ⟨f1,f2,f3,f4⟩:=match_sub vs B hB f l (fun s hs=>h s (by simp [freeT,hs])) hC
  obtain ⟨a1,a2,a3,a4⟩:=match_sub vs B hB a (matchM vs f (subT vs B f) l).2 (fun s hs=>h s (by simp [freeT,hs])) f2
  have e:subT vs B (.app f a)=.app (subT vs B f) (subT vs B a):=rfl
  have em:matchM vs (.app f a) (.app (subT vs B f) (subT vs B a)) l=matchM vs a (subT vs B a) (matchM vs f (subT vs B f) l).2:=by
   conv=>lhs; unfold matchM
   simp only [f1,if_true]
  rw [e,em]
  refine ⟨a1,a2,fun k hk hs=>a3 k hk (f3 k hk hs),fun s hs k hk hp=>?_⟩
  simp only [freeT,List.mem_append] at hs
  rcases hs with hs | hs
  ·exact a3 k hk (f4 s hs k hk hp)
  ·exact a4 s hs k hk hp
theorem gen_inst (vs ws:List Tx) (bys:List Tp) (hv:vs.length < 6) (hb:bys.length=vs.length) (t:Tp) (ht:vs1 t=true) (hf:∀ s∈freeT t,s∈vs) (htold:∀ s∈vs,s∈freeT t) (ps:List Pr) (hps:∀ p∈ps,∀ s∈freeT p.ty,s∈vs) :
  (genM vs ws t (subT vs bys t)).1=true∧genP vs ws ps t (subT vs bys t)=apP 37 ws (ps.map (putP vs bys)):=by
 have hBl:(bys.map (apV 37 ws)).length=vs.length:=by simpa using hb
 have e:genM vs ws t (subT vs bys t)=matchM vs t (subT vs (bys.map (apV 37 ws)) t) (List.replicate vs.length none):=by
  unfold genM
  rw [match_apart vs hv t _ _ ht,apV_sub ws vs bys hb 37 t hf]
 have hC:Con (bys.map (apV 37 ws)) (List.replicate vs.length none):=⟨by simp [hb],fun k hk=>.inl (by
  simp only [List.getD_eq_getElem?_getD,List.getElem?_replicate]
  split <;> rfl)⟩
 obtain ⟨m1,m2,_,m4⟩:=match_sub vs _ hBl t _ hf hC
 rw [← e] at m1 m2 m4
 refine ⟨m1,?_⟩
 unfold genP apP
 rw [List.map_map,List.map_map]
 refine List.map_congr_left fun p hp=>?_
 have hpf:=hps p hp
 show Pr.mk p.cls (subT (apN 64 vs.length) (fillM (apT 64 vs.length) (genM vs ws t (subT vs bys t)).2) (apV 64 vs p.ty))=Pr.mk p.cls (apV 37 ws (subT vs bys p.ty))
 congr 1
 rw [apV_sub ws vs bys hb 37 p.ty hpf]
 have hML:(genM vs ws t (subT vs bys t)).2.length=vs.length:=by rw [m2.1,hBl]
 have key:∀ q:Tp,(∀ s∈freeT q,s∈vs)→subT (apN 64 vs.length) (fillM (apT 64 vs.length) (genM vs ws t (subT vs bys t)).2) (apV 64 vs q)=subT vs (bys.map (apV 37 ws)) q:=by
  intro q
  induction q with
  | hole x=>intro _; rfl
  | con s=>intro _; rfl
  | var s =>
   intro h
   obtain ⟨k,hk⟩:=posS_mem (h s (by simp [freeT]))
   have hl:=posS_lt hk
   have hk2:k < (apT 64 vs.length).length:=by rw [apT_len]; exact hl
   have g2:(apT 64 vs.length)[k]=.var [64,UInt8.ofNat (48 + k)]:=by simp [apT,apN]
   have e1:apV 64 vs (.var s)=.var [64,UInt8.ofNat (48 + k)]:=by
    simp only [apV,subT,hk]
    rw [getD_get hk2,g2]
   have h2:=pos_ap hv hl
   have hkB:k < (bys.map (apV 37 ws)).length:=by omega
   have hfk:k < (fillM (apT 64 vs.length) (genM vs ws t (subT vs bys t)).2).length:=by rw [fill_len,hML]; exact hl
   have hM:=m4 s (htold s (h s (by simp [freeT]))) k hkB hk
   have hMk:k < (genM vs ws t (subT vs bys t)).2.length:=by omega
   have hM2:(genM vs ws t (subT vs bys t)).2[k]=some (bys.map (apV 37 ws))[k]:=by
    rw [← hM]
    simp [List.getD_eq_getElem?_getD,hMk]
   rw [e1]
   simp only [subT,hk,h2]
   rw [getD_get hfk,getD_get hkB,fillM_get _ _ k hMk hk2,hM2]
   rfl
  | app f a hf ha =>
   intro h
   have h1:=hf fun s hs=>h s (by simp [freeT,hs])
   have h2:=ha fun s hs=>h s (by simp [freeT,hs])
   show Tp.app (subT (apN 64 vs.length) (fillM (apT 64 vs.length) (genM vs ws t (subT vs bys t)).2) (apV 64 vs f)) (subT (apN 64 vs.length) (fillM (apT 64 vs.length) (genM vs ws t (subT vs bys t)).2) (apV 64 vs a))=_
   rw [h1,h2]
   rfl
 exact key p.ty hpf
end Go.Fu
