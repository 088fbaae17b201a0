/-
 Core made flat: the walk.
-/
import Derived.Test.YtldfbnbckiifeaaGreatDoorFgN
import Derived.Test.YtldfbnbckiifeaaGreatDoorFgRun
import Derived.Test.YtldfbnbckiifeaaGreatDoorFgE
set_option maxHeartbeats 4000000
set_option linter.unusedSimpArgs false
set_option linter.unusedVariables false
set_option linter.unusedSectionVars false
namespace Go.Fu
open Go Go.Mx
set_option maxRecDepth 10000
def zsp:List D→Cell→Prop:=fun ds c=>∀ co lz ar t m,ds=[dCo co,.bool lz,dSs ar,.str t,dUs m]→c=⟨false,.tup [dCo (flM co lz ar t m).1,dUs (flM co lz ar t m).2]⟩
theorem zka {S:Specs} (hS:aget S n_29=some zsp) (co:Co) (lz:Bool) (ar:List Tx) (t:Tx) (m:List Su) (hp:OkP n_29 [dCo co,.bool lz,dSs ar,.str t,dUs m] ⟨false,.tup [dCo (flM co lz ar t m).1,dUs (flM co lz ar t m).2]⟩) (n:Nat) (σ:Store) :
  T S (n + 1) n_29 [dCo co,.bool lz,dSs ar,.str t,dUs m] σ=some (.ret ⟨false,.tup [dCo (flM co lz ar t m).1,dUs (flM co lz ar t m).2]⟩,σ):=by
 obtain ⟨c,h1,h2⟩:=T_orc (S:=S) hS rfl (c:=⟨false,.tup [dCo (flM co lz ar t m).1,dUs (flM co lz ar t m).2]⟩) (fun co' lz' ar' t' m' e=>by
  simp only [List.cons.injEq,D.bool.injEq,D.str.injEq,and_true] at e
  obtain ⟨e1,rfl,e2,rfl,e3⟩:=e
  rw [zcs e1,zba e2,zawb e3]) hp
 rw [h2,h1 co lz ar t m rfl]
def SFl:Specs:=[(n_25,zgv),(n_3,zh1),(n_44,zbbb),(n_31,zts),(n_152,zxb),(n_29,zsp)]
theorem appB1 (a:List (Tx × Co)) (x:Tx × Co) (o:Bool) (ho:a≠[]→o=true) (hl:a.length < 1000000000):za5 k_24 232 ⟨o,dBl a⟩ [dB x]=some ⟨true,dBl (a ++ [x])⟩:=ze7 ok_dB zhvb (by omega) a x o ho hl
theorem appA1 (a:List (Hd × Co)) (x:Hd × Co) (o:Bool) (ho:a≠[]→o=true) (hl:a.length < 1000000000):za5 k_23 216 ⟨o,dAl a⟩ [dA x]=some ⟨true,dAl (a ++ [x])⟩:=ze7 ok_dA zhub (by omega) a x o ho hl
theorem appU1 (a:List Su) (x:Su) (o:Bool) (ho:a≠[]→o=true) (hl:a.length < 1000000000):za5 k_13 200 ⟨o,dUs a⟩ [dU x]=some ⟨true,dUs (a ++ [x])⟩:=ze7 ok_dU zu9 (by omega) a x o ho hl
theorem appU (a b:List Su) (o:Bool) (ho:a≠[]→o=true) (hl:a.length + b.length < 1000000000):za5 k_13 200 ⟨o,dUs a⟩ (b.map dU)=some ⟨true,dUs (a ++ b)⟩:=by
 rw [dUs,zh2 (fun h=>ho (by simpa using h)) (fun d hd=>by obtain ⟨x,_,rfl⟩:=List.mem_map.1 hd; exact ⟨ok_dU x,zu9 x⟩) (by simp [bound]; omega) (by simp [bound]; omega)]
 rw [dUs,List.map_append]
theorem appU0 (b:List Su) (o:Bool) (hl:b.length < 1000000000):za5 k_13 200 ⟨o,.nils⟩ (b.map dU)=some ⟨true,dUs b⟩:=by
 have:=appU [] b o (fun h=>absurd rfl h) (by simpa using hl)
 simpa [dUs,dlist] using this
theorem okl:(∀ l,(dSs l).ok=true)∧(∀ l,(dCs l).ok=true)∧(∀ l,(dBl l).ok=true)∧(∀ l,(dAl l).ok=true)∧(∀ l,(dUs l).ok=true)∧(∀ l,(dIs l).ok=true):=⟨fun _=>zgu,fun _=>zgu,fun _=>zgu,fun _=>zgu,fun _=>zgu,fun _=>zgu⟩
theorem celll:(∀ l,(dSs l).cells=[dSs l])∧(∀ l,(dCs l).cells=[dCs l])∧(∀ l,(dBl l).cells=[dBl l])∧(∀ l,(dAl l).cells=[dAl l])∧(∀ l,(dUs l).cells=[dUs l])∧(∀ l,(dIs l).cells=[dIs l]):=⟨fun _=>zel,fun _=>zel,fun _=>zel,fun _=>zel,fun _=>zel,fun _=>zel⟩
theorem onel:(∀ l,(dSs l).one=true)∧(∀ l,(dCs l).one=true)∧(∀ l,(dBl l).one=true)∧(∀ l,(dAl l).one=true)∧(∀ l,(dUs l).one=true)∧(∀ l,(dIs l).one=true):=⟨fun _=>zcj,fun _=>zcj,fun _=>zcj,fun _=>zcj,fun _=>zcj,fun _=>zcj⟩
theorem zolb (b:Tx × Co):Mx.part (some 4) (cB b) 1=some (.agg [.int .i64 0,.int .i64 0,.str [],.nils]):=rfl
theorem zs9 (x:Int):(itoaN x).length≤21:=by
 cases x with
 | ofNat a =>
  have:=zlw 20 a []
  simp only [itoaN,digN,List.length_nil] at this ⊢
  omega
 | negSucc a =>
  have:=zlw 20 (a + 1) []
  simp only [itoaN,digN,List.length_nil,List.length_cons] at this ⊢
  omega
theorem zqe:∀ (l:List (Tx × Co)) (x:Tx × Co),x∈l→x.2.size + l.length≤szB l:=by
 intro l
 induction l with
 | nil=>intro x hx; cases hx
 | cons y r ihl =>
  intro x hx
  obtain ⟨s,c'⟩:=y
  simp only [szB,List.length_cons]
  rcases List.mem_cons.1 hx with rfl | hx
  ·have:=zbv r; simp only; omega
  ·have:=ihl x hx; omega
theorem zxn (l:List (Tx × Co)) (i:Nat) (h:i < l.length):szB (l.take i) + l[i].2.size + 1≤szB l:=by
 have:szB l=szB (l.take (i + 1)) + szB (l.drop (i + 1)):=by rw [← zjd,List.take_append_drop]
 rw [this,← za9 l i h,zjd]
 cases l[i]
 simp only [szB]
 omega
theorem zxm (l:List (Hd × Co)) (i:Nat) (h:i < l.length):szA (l.take i) + l[i].2.size + l[i].1.vars.length + 1≤szA l:=by
 have:szA l=szA (l.take (i + 1)) + szA (l.drop (i + 1)):=by rw [← zjc,List.take_append_drop]
 rw [this,← za9 l i h,zjc]
 cases l[i]
 simp only [szA]
 omega
section
variable {C:CallF} {n:Nat} {σ:Store}
def z10:List Cell:=[⟨false,.int .i64 0⟩,⟨false,.int .i64 0⟩,⟨false,.str []⟩,⟨false,.int .i64 0⟩,⟨false,.int .i64 0⟩,⟨false,.str []⟩,⟨false,.nils⟩,⟨false,.nils⟩,⟨false,.nils⟩,⟨false,.nils⟩]
def bO (c:Co) (k b a:Cell):List Cell:=[⟨false,.int .i64 c.f⟩,⟨false,.int .i64 c.n⟩,⟨false,.str c.s⟩,⟨false,.int .i64 0⟩,⟨false,.int .i64 0⟩,⟨false,.str []⟩,⟨false,.nils⟩,k,b,a]
def Efx (c:Co) (lz:Bool) (ar:List Tx) (t:Tx) (m:List Su) (i:Nat):Env:={slots:=[(1,⟨false,.bool lz⟩),(2,⟨false,dSs ar⟩),(3,⟨false,.str t⟩),(4,⟨false,dUs (fB c ar t m i).2⟩),(15,⟨false,dSs (ar ++ c.bs.map Prod.fst)⟩),(16,⟨false,.int .i64 i⟩)],locs:=[(5,5,0),(10,10,0),(14,14,0)],boxes:=[(5,bC c),(10,z10),(14,bO c ⟨false,.nils⟩ ⟨ow i,dBl (fB c ar t m i).1⟩ ⟨false,.nils⟩)],defers:=[]}
theorem zkxb (c:Co) (lz:Bool) (ar:List Tx) (t:Tx) (m:List Su) (i:Nat) (h:i < c.bs.length) (hl:c.size < 100000000)
  (hc:C n_29 [dCo c.bs[i].2,.bool true,dSs (ar ++ c.bs.map Prod.fst),.str t,dUs (fB c ar t m i).2] σ=some (.ret ⟨false,.tup [dCo (flM c.bs[i].2 true (ar ++ c.bs.map Prod.fst) t (fB c ar t m i).2).1,dUs (flM c.bs[i].2 true (ar ++ c.bs.map Prod.fst) t (fB c ar t m i).2).2]⟩,σ)) :
  exec C n none a_112 (Efx c lz ar t m i) σ=some (.normal,Efx c lz ar t m (i + 1),σ):=by
 have hb:=zbv c.bs
 have hsz:=za2 c
 have hi:((i:Int) < (c.bs.length:Int)):=by omega
 have hx:=idx_B c.bs i h
 have hp:=partB c.bs[i]
 have hln:(fB c ar t m i).1.length=i:=by rw [fB,zv1]; simp; omega
 have ha:=appB1 (fB c ar t m i).1 (c.bs[i].1,(flM c.bs[i].2 true (ar ++ c.bs.map Prod.fst) t (fB c ar t m i).2).1) (ow i) (fun h=>zrd fun e=>h (List.eq_nil_of_length_eq_zero (by omega))) (by omega)
 rw [Efx,Efx,zkmb c ar t m i h]
 simp only [dB_eq,zaj] at ha
 simp only [zaf,zaj] at hc hp
 simp only [a_112,bC,bO,z10,sA,Nat.reduceAdd,Nat.reduceSub,Nat.reduceMul,Nat.reduceBEq,Nat.reduceLeDiff,Int.reduceBEq,Int.reduceBNe,Int.reduceLE,Int.reduceLT,Int.reduceGE,Int.reduceGT,Int.reduceNeg,kn,len_B,hi,natI,hx,agg?_dB,hp,zolb,zn7b,onel,okl,celll,hc,ha,zag (i:=i) (by omega),zco]
theorem znnb (c:Co) (lz:Bool) (ar:List Tx) (t:Tx) (m:List Su):exec C n none a_112 (Efx c lz ar t m c.bs.length) σ=some (.exit 0,{Efx c lz ar t m c.bs.length with slots:=[(1,⟨false,.bool lz⟩),(2,⟨false,dSs ar⟩),(3,⟨false,.str t⟩),(4,⟨false,dUs (fB c ar t m c.bs.length).2⟩),(15,⟨false,dSs (ar ++ c.bs.map Prod.fst)⟩),(16,⟨false,.int .i64 c.bs.length⟩),(81,⟨false,.bool false⟩)]},σ):=by
 have hi:¬ ((c.bs.length:Int) < (c.bs.length:Int)):=by omega
 simp only [a_112,Efx,bC,sA,Nat.reduceAdd,Nat.reduceSub,Nat.reduceMul,Nat.reduceBEq,Nat.reduceLeDiff,Int.reduceBEq,Int.reduceBNe,Int.reduceLE,Int.reduceLT,Int.reduceGE,Int.reduceGT,Int.reduceNeg,kn,len_B,hi]
def Efy (c:Co) (lz:Bool) (ar:List Tx) (t:Tx) (m:List Su) (b:Cell) (i:Nat):Env:={slots:=[(1,⟨false,.bool lz⟩),(2,⟨false,dSs ar⟩),(3,⟨false,.str t⟩),(4,⟨false,dUs (fK c lz ar t m i).2⟩),(15,⟨false,dSs (ar ++ c.bs.map Prod.fst)⟩),(19,⟨false,.int .i64 i⟩)],locs:=[(5,5,0),(10,10,0),(14,14,0)],boxes:=[(5,bC c),(10,z10),(14,bO c ⟨ow i,dCs (fK c lz ar t m i).1⟩ b ⟨false,.nils⟩)],defers:=[]}
theorem zkyb (c:Co) (lz:Bool) (ar:List Tx) (t:Tx) (m:List Su) (b:Cell) (i:Nat) (h:i < c.ks.length) (hl:c.size < 100000000)
  (hc:C n_29 [dCo c.ks[i],.bool (lz || (c.f == 4)),dSs (ar ++ c.bs.map Prod.fst),.str t,dUs (fK c lz ar t m i).2] σ=some (.ret ⟨false,.tup [dCo (flM c.ks[i] (lz || (c.f == 4)) (ar ++ c.bs.map Prod.fst) t (fK c lz ar t m i).2).1,dUs (flM c.ks[i] (lz || (c.f == 4)) (ar ++ c.bs.map Prod.fst) t (fK c lz ar t m i).2).2]⟩,σ)) :
  exec C n none a_86 (Efy c lz ar t m b i) σ=some (.normal,Efy c lz ar t m b (i + 1),σ):=by
 have hb:=zft c.ks
 have hsz:=za2 c
 have hi:((i:Int) < (c.ks.length:Int)):=by omega
 have hx:=idx_C c.ks i h
 have hln:(fK c lz ar t m i).1.length=i:=by rw [fK,zv3]; simp; omega
 have ha:=appC1 (fK c lz ar t m i).1 (flM c.ks[i] (lz || (c.f == 4)) (ar ++ c.bs.map Prod.fst) t (fK c lz ar t m i).2).1 (ow i) (fun h=>zrd fun e=>h (List.eq_nil_of_length_eq_zero (by omega))) (by omega)
 rw [Efy,Efy,zknb c lz ar t m i h]
 cases lz with
 | true =>
  simp only [Bool.true_or] at hc ha ⊢
  simp only [zaf,zaj] at hc hx ha
  simp only [a_86,bC,bO,z10,sA,Nat.reduceAdd,Nat.reduceSub,Nat.reduceMul,Nat.reduceBEq,Nat.reduceLeDiff,Int.reduceBEq,Int.reduceBNe,Int.reduceLE,Int.reduceLT,Int.reduceGE,Int.reduceGT,Int.reduceNeg,kn,len_C,hi,natI,hx,onel,okl,celll,hc,ha,zag (i:=i) (by omega),zco]
 | false =>
  simp only [Bool.false_or] at hc ha ⊢
  simp only [zaf,zaj] at hc hx ha
  simp only [a_86,bC,bO,z10,sA,Nat.reduceAdd,Nat.reduceSub,Nat.reduceMul,Nat.reduceBEq,Nat.reduceLeDiff,Int.reduceBEq,Int.reduceBNe,Int.reduceLE,Int.reduceLT,Int.reduceGE,Int.reduceGT,Int.reduceNeg,kn,len_C,hi,natI,hx,onel,okl,celll,hc,ha,zag (i:=i) (by omega),zco]
theorem znob (c:Co) (lz:Bool) (ar:List Tx) (t:Tx) (m:List Su) (b:Cell):exec C n none a_86 (Efy c lz ar t m b c.ks.length) σ=some (.exit 2,{Efy c lz ar t m b c.ks.length with slots:=[(1,⟨false,.bool lz⟩),(2,⟨false,dSs ar⟩),(3,⟨false,.str t⟩),(4,⟨false,dUs (fK c lz ar t m c.ks.length).2⟩),(15,⟨false,dSs (ar ++ c.bs.map Prod.fst)⟩),(19,⟨false,.int .i64 c.ks.length⟩),(121,⟨false,.bool false⟩)]},σ):=by
 have hi:¬ ((c.ks.length:Int) < (c.ks.length:Int)):=by omega
 simp only [a_86,Efy,bC,sA,Nat.reduceAdd,Nat.reduceSub,Nat.reduceMul,Nat.reduceBEq,Nat.reduceLeDiff,Int.reduceBEq,Int.reduceBNe,Int.reduceLE,Int.reduceLT,Int.reduceGE,Int.reduceGT,Int.reduceNeg,kn,len_C,hi]
def Efz (c:Co) (ar:List Tx) (t:Tx) (m:List Su) (k b:Cell) (i:Nat):Env:={slots:=[(2,⟨false,dSs ar⟩),(3,⟨false,.str t⟩),(4,⟨false,dUs (fA c ar t m i).2⟩),(22,⟨false,.int .i64 i⟩)],locs:=[(5,5,0),(10,10,0),(14,14,0)],boxes:=[(5,bC c),(10,z10),(14,bO c k b ⟨ow i,dAl (fA c ar t m i).1⟩)],defers:=[]}
theorem zkzb (c:Co) (ar:List Tx) (t:Tx) (m:List Su) (k b:Cell) (i:Nat) (h:i < c.al.length) (hl:c.size < 100000000) (hbo:C n_3 [dSs ar,dSs c.al[i].1.vars] σ=some (.ret ⟨false,dSs (ar ++ c.al[i].1.vars)⟩,σ))
  (hc:C n_29 [dCo c.al[i].2,.bool false,dSs (ar ++ c.al[i].1.vars),.str t,dUs (fA c ar t m i).2] σ=some (.ret ⟨false,.tup [dCo (flM c.al[i].2 false (ar ++ c.al[i].1.vars) t (fA c ar t m i).2).1,dUs (flM c.al[i].2 false (ar ++ c.al[i].1.vars) t (fA c ar t m i).2).2]⟩,σ)) :
  exec C n none a_113 (Efz c ar t m k b i) σ=some (.normal,Efz c ar t m k b (i + 1),σ):=by
 have hb:=zc6 c.al
 have hsz:=za2 c
 have hi:((i:Int) < (c.al.length:Int)):=by omega
 have hx:=idx_A c.al i h
 have hp:=partA c.al[i]
 have hln:(fA c ar t m i).1.length=i:=by rw [fA,zvz]; simp; omega
 have ha:=appA1 (fA c ar t m i).1 (c.al[i].1,(flM c.al[i].2 false (ar ++ c.al[i].1.vars) t (fA c ar t m i).2).1) (ow i) (fun h=>zrd fun e=>h (List.eq_nil_of_length_eq_zero (by omega))) (by omega)
 rw [Efz,Efz,zklb c ar t m i h]
 have hd:=agg?_dA c.al[i]
 have hd2:=dA_eq c.al[i]
 have e4:Mx.part (some 10) (cA c.al[i]) 4=some (dCo c.al[i].2):=hp.2.2.2.2
 have e3:Mx.part none (cA c.al[i]) 3=some (dSs c.al[i].1.vars):=hp.2.2.2.1
 simp only [dA_eq,cA,zaj] at ha hx e3 e4
 simp only [zaf,zaj] at hc e4
 simp only [a_113,bC,bO,z10,sA,Nat.reduceAdd,Nat.reduceSub,Nat.reduceMul,Nat.reduceBEq,Nat.reduceLeDiff,Int.reduceBEq,Int.reduceBNe,Int.reduceLE,Int.reduceLT,Int.reduceGE,Int.reduceGT,Int.reduceNeg,kn,len_A,hi,natI,hx,e3,e4,zcc,onel,okl,celll,hbo,hc,ha,zag (i:=i) (by omega),zco]
theorem znpb (c:Co) (ar:List Tx) (t:Tx) (m:List Su) (k b:Cell):exec C n none a_113 (Efz c ar t m k b c.al.length) σ=some (.exit 4,{Efz c ar t m k b c.al.length with slots:=[(2,⟨false,dSs ar⟩),(3,⟨false,.str t⟩),(4,⟨false,dUs (fA c ar t m c.al.length).2⟩),(22,⟨false,.int .i64 c.al.length⟩),(153,⟨false,.bool false⟩)]},σ):=by
 have hi:¬ ((c.al.length:Int) < (c.al.length:Int)):=by omega
 simp only [a_113,Efz,bC,sA,Nat.reduceAdd,Nat.reduceSub,Nat.reduceMul,Nat.reduceBEq,Nat.reduceLeDiff,Int.reduceBEq,Int.reduceBNe,Int.reduceLE,Int.reduceLT,Int.reduceGE,Int.reduceGT,Int.reduceNeg,kn,len_A,hi]
end
theorem zfib:∀ (k:Nat) (c:Co) (lz:Bool) (ar:List Tx) (t:Tx) (m:List Su),c.size=k→ar.length + c.size < 100000000→m.length + c.size < 100000000→t.length < 100000000 →
  OkP n_29 [dCo c,.bool lz,dSs ar,.str t,dUs m] ⟨false,.tup [dCo (flM c lz ar t m).1,dUs (flM c lz ar t m).2]⟩:=by
 intro k
 induction k using Nat.strongRecOn with
 | ind k ih =>
  intro c lz ar t m hk hl hlm hlt
  have hsz:=za2 c
  have hb:=zbv c.bs
  have hks:=zft c.ks
  have ha:=zc6 c.al
  have e1:dSs []=.nils:=rfl
  cases hlift:zdz c lz with
  | true =>
   rw [zjs c lz ar t m hlift]
   refine zas (af:=a_52) (n:=1) (σ':=σ0) (zav SFl 1) rfl rfl (by simp [zal,noPtr,za4,zau,zdr]) (by simp [noPtr,zal,za4,zdr]) ?_
   simp only [zdz,Bool.and_eq_true] at hlift
   obtain ⟨rfl,hform⟩:=hlift
   have hfr:=call_Free' (S:=SFl) rfl c [] ar [] (zejb _ c [] ar [] rfl (by simp; omega) (by simp; omega) (by omega)) 0 σ0
   rw [e1] at hfr
   have hfl:=zkd c.size c [] ar []
   simp only [List.length_nil,Nat.zero_add] at hfl
   have w1:IntKind.i64.wrap ((m.length:Int) + 1)=(m.length:Int) + 1:=zbr (by omega) (by omega)
   have hdg:=zx4 (S:=SFl) rfl ((m.length:Int) + 1) ⟨by omega,by omega⟩ 0 σ0
   have hgi:=zbwb (S:=SFl) rfl (liftN t m) (freeM c.size c [] ar []) (by omega) 0 σ0
   have hap:=appU1 m ⟨liftN t m,freeM c.size c [] ar [],c⟩ true (fun _=>rfl) (by omega)
   have hap0:=appU0 m false (by omega)
   have hil:=zs9 ((m.length:Int) + 1)
   have hb1:(t.length + (0 + 1)≤281474976710656):=by omega
   have hb2:((t ++ [37]).length + (itoaN ((m.length:Int) + 1)).length≤281474976710656):=by simp; omega
   simp only [dU_eq,cU,zaj,liftN] at hap
   simp only [liftN,zaf,zaj] at hgi
   simp only [zaf,zaj] at hfr
   cases h1:(c.f == 9) with
   | true=>simp only [a_52,sA,Nat.reduceAdd,Nat.reduceSub,Nat.reduceMul,Nat.reduceBEq,Nat.reduceLeDiff,Int.reduceBEq,Int.reduceBNe,Int.reduceLE,Int.reduceLT,Int.reduceGE,Int.reduceGT,Int.reduceNeg,kn,zaf,zaj,onel,okl,celll,h1,hfr,len_U,w1,hdg,hb1,hb2,hgi,zlp,hap0,hap,liftM,liftN,z10]
   | false =>
    cases h2:(c.f == 10) with
    | true=>simp only [a_52,sA,Nat.reduceAdd,Nat.reduceSub,Nat.reduceMul,Nat.reduceBEq,Nat.reduceLeDiff,Int.reduceBEq,Int.reduceBNe,Int.reduceLE,Int.reduceLT,Int.reduceGE,Int.reduceGT,Int.reduceNeg,kn,zaf,zaj,onel,okl,celll,h1,h2,hfr,len_U,w1,hdg,hb1,hb2,hgi,zlp,hap0,hap,liftM,liftN,z10]
    | false =>
     have h3:(c.f == 11)=true:=by simpa [h1,h2] using hform
     simp only [a_52,sA,Nat.reduceAdd,Nat.reduceSub,Nat.reduceMul,Nat.reduceBEq,Nat.reduceLeDiff,Int.reduceBEq,Int.reduceBNe,Int.reduceLE,Int.reduceLT,Int.reduceGE,Int.reduceGT,Int.reduceNeg,kn,zaf,zaj,onel,okl,celll,h1,h2,h3,hfr,len_U,w1,hdg,hb1,hb2,hgi,zlp,hap0,hap,liftM,liftN,z10]
  | false =>
   rw [zic c lz ar t m hlift]
   refine zas (af:=a_52) (n:=c.size + 1) (σ':=σ0) (zav SFl 1) rfl rfl (by simp [zal,noPtr,za4,zau,zdr]) (by simp [noPtr,zal,za4,zdr]) ?_
   have hbi:=zi0 (S:=SFl) rfl c (by omega) 0 σ0
   have hbo:=zfw (S:=SFl) rfl ar (c.bs.map Prod.fst) (by simp; omega) 0 σ0
   have hl0:=za6 (body:=exec (T SFl 1) (c.size + 1) none a_112) (Efx c lz ar t m) (fun _=>σ0) c.bs.length (r:=_) (fun _ _ h=>by cases h) (fun i hi=>zkxb c lz ar t m i hi (by omega) (by
    have h1:=zxn c.bs i hi
    have h3:=zqe c.bs _ (List.getElem_mem hi)
    have h2:=za0b c ar t m i
    exact zka (S:=SFl) rfl _ _ _ _ _ (ih _ (by omega) c.bs[i].2 _ _ _ _ rfl (by simp; omega) (by omega) hlt) 0 σ0)) (znnb c lz ar t m) 0 (c.size + 1) (by omega) (by omega)
   have hm1:=za0b c ar t m c.bs.length
   rw [List.take_length] at hm1
   have hl1:=za6 (body:=exec (T SFl 1) (c.size + 1) none a_86) (Efy c lz ar t (fB c ar t m c.bs.length).2 ⟨ow c.bs.length,dBl (fB c ar t m c.bs.length).1⟩) (fun _=>σ0) c.ks.length (r:=_) (fun _ _ h=>by cases h) (fun i hi=>zkyb c lz ar t _ _ i hi (by omega) (by
    have h1:=zxo c.ks i hi
    have h2:=za1b c lz ar t (fB c ar t m c.bs.length).2 i
    exact zka (S:=SFl) rfl _ _ _ _ _ (ih _ (by omega) c.ks[i] _ _ _ _ rfl (by simp; omega) (by omega) hlt) 0 σ0)) (znob c lz ar t _ _) 0 (c.size + 1) (by omega) (by omega)
   have hm2:=za1b c lz ar t (fB c ar t m c.bs.length).2 c.ks.length
   rw [List.take_length] at hm2
   have hl2:=za6 (body:=exec (T SFl 1) (c.size + 1) none a_113) (Efz c ar t (fK c lz ar t (fB c ar t m c.bs.length).2 c.ks.length).2 ⟨ow c.ks.length,dCs (fK c lz ar t (fB c ar t m c.bs.length).2 c.ks.length).1⟩ ⟨ow c.bs.length,dBl (fB c ar t m c.bs.length).1⟩) (fun _=>σ0) c.al.length (r:=_) (fun _ _ h=>by cases h) (fun i hi=>zkzb c ar t _ _ _ i hi (by omega) (by
    have h1:=zxm c.al i hi
    exact zfw (S:=SFl) rfl _ _ (by omega) 0 σ0) (by
    have h1:=zxm c.al i hi
    have h2:=zkkb c ar t (fK c lz ar t (fB c ar t m c.bs.length).2 c.ks.length).2 i
    exact zka (S:=SFl) rfl _ _ _ _ _ (ih _ (by omega) c.al[i].2 _ _ _ _ rfl (by simp; omega) (by omega) hlt) 0 σ0)) (znpb c ar t _ _ _) 0 (c.size + 1) (by omega) (by omega)
   have z1:(fB c ar t m 0)=([],m):=rfl
   have z2:∀ m,(fK c lz ar t m 0)=([],m):=fun _=>rfl
   have z3:∀ m,(fA c ar t m 0)=([],m):=fun _=>rfl
   have n1:dBl []=.nils:=rfl
   have n2:dCs []=.nils:=rfl
   have n3:dAl []=.nils:=rfl
   simp only [Efx,bC,bO,z10,zeroI,z1,n1,zfo] at hl0
   simp only [Efy,bC,bO,z10,zeroI,z2,n2,zfo] at hl1
   simp only [Efz,bC,bO,z10,zeroI,z3,n3,zfo] at hl2
   simp only [zaf,zaj] at hbi
   simp only [zdz] at hlift
   cases lz with
   | false =>
    simp only [a_52,sA,Nat.reduceAdd,Nat.reduceSub,Nat.reduceMul,Nat.reduceBEq,Nat.reduceLeDiff,Int.reduceBEq,Int.reduceBNe,Int.reduceLE,Int.reduceLT,Int.reduceGE,Int.reduceGT,Int.reduceNeg,kn,zaf,zaj,co,onel,okl,celll,hbi,hbo,hl0,hl1,hl2]
   | true =>
    simp only [Bool.true_and,Bool.or_eq_false_iff] at hlift
    simp only [a_52,sA,Nat.reduceAdd,Nat.reduceSub,Nat.reduceMul,Nat.reduceBEq,Nat.reduceLeDiff,Int.reduceBEq,Int.reduceBNe,Int.reduceLE,Int.reduceLT,Int.reduceGE,Int.reduceGT,Int.reduceNeg,kn,zaf,zaj,co,onel,okl,celll,hlift.1.1,hlift.1.2,hlift.2,hbi,hbo,hl0,hl1,hl2]
end Go.Fu
namespace Go.Fu
open Go Go.Mx
def zc5:ACode:=(.seq (sq [mt 55 9,mt 56 7,mo 57 (.bin .lss (.tmp 55) (.tmp 56))] [55,56] (.cond (.tmp 57) .skip (.exit 0))) (.seq (.block 1 (rg [mw 60 8,mo 61 (.buildSlice k_int [(ci (-1))]),mo 62 (.appendA k_int 8 (.mv 60) (.tmp 61)),mw 8 62] [57,60,61,62])) (rg [mt 58 9,
 mo 59 (.bin .add (.tmp 58) (ci 1)),mw 9 59] [58,59])))
def zap:ACode:=(.seq (sq [mt 63 10,mt 64 7,mo 65 (.bin .lss (.tmp 63) (.tmp 64))] [63,64] (.cond (.tmp 65) .skip (.exit 2))) (.seq (.block 3 (sq [mf 68 2 5,ml 69 68,mt 70 10,mo 71 (.indexAddr 4 (.tmp 69) (.tmp 70)),mo 72 (.load (some 4) false (.tmp 71)),
 mo 11 (.alloc [.str [],.int .i64 0,.int .i64 0,.str []]),⟨none,.store 4 (.tmp 11) (.mv 72),none⟩] [65,68,69,70,71,72] (sq [mt 73 0,mt 74 1,mo 75 (.load (some 4) false (.tmp 11)),mt 76 10,mt 77 7,mo 78 (.call n_135 [.tmp 73,.tmp 74,.tmp 75,.tmp 76,.tmp 77]),
 mw 12 78] [73,74,75,76,77,78] (sq [mo 80 (.load (some 4) false (.tmp 11)),mo 81 (.call n_77 [.tmp 80]),mw 79 81,mo 82 (.extract (.tmp 79) 0),mo 83 (.extract (.tmp 79) 1),mo 84 (.extract (.tmp 79) 2),mw 13 82,mw 14 83,mw 15 84] [15,79,80,81,82,83,84] (sq [mt 85 8,
 mt 86 10,mo 87 (.indexAddr 1 (.tmp 85) (.tmp 86)),ml 88 87,mw 16 88] [85,86,87,88] (.seq (sq [mt 89 12,mo 90 (.un .not (.tmp 89)),mw 91 90,⟨some 92,.mov (.tmp 16),(some (91,false))⟩,⟨some 93,.bin .lss (.tmp 92) (ci 0),(some (91,false))⟩,
 mo 94 (.pick (.tmp 91) (.const (.bool true)) (.tmp 93)),mw 95 94,⟨some 96,.mov (.tmp 16),(some (95,false))⟩,⟨some 97,.mov (.tmp 13),(some (95,false))⟩,⟨some 98,.bin .lss (.tmp 96) (.tmp 97),(some (95,false))⟩,mo 99 (.pick (.tmp 95) (.const (.bool true)) (.tmp 98)),mw 100 99,
 ⟨some 101,.fieldAddr 0 none (.tmp 11),(some (100,false))⟩,⟨some 102,.load none false (.tmp 101),(some (100,false))⟩,⟨some 103,.bin .eql (.tmp 102) (.const (.str [85,78,87,73,78,68])),(some (100,false))⟩,⟨some 104,.mov (.mv 103),(some (100,false))⟩,
 ⟨some 105,.mov (.tmp 16),(some (104,true))⟩,⟨some 106,.bin .neq (.tmp 105) (ci 0),(some (104,true))⟩,⟨some 107,.pick (.tmp 104) (.tmp 106) (.const (.bool false)),(some (100,false))⟩,
 mo 108 (.pick (.tmp 100) (.const (.bool true)) (.tmp 107))] [12,13,89,90,91,92,93,94,95,96,97,98,99,100,101,102,103,104,105,106,107] (.cond (.tmp 108) (sq [mo 6 (.mov (.const (.bool false)))] [0,1,5,7,8,10,11,14,16,108] .ret) .skip)) (.seq (sq [mf 109 0 11,ml 110 109,
 mo 111 (.bin .eql (.tmp 110) (.const (.str [84,69,83,84]))),mw 112 111,⟨some 113,.fieldAddr 0 none (.tmp 11),(some (112,false))⟩,⟨some 114,.load none false (.tmp 113),(some (112,false))⟩,⟨some 115,.bin .eql (.tmp 114) (.const (.str [84,69,83,84,73])),(some (112,false))⟩,
 mo 116 (.pick (.tmp 112) (.const (.bool true)) (.tmp 115)),mw 117 116,⟨some 118,.fieldAddr 0 none (.tmp 11),(some (117,false))⟩,⟨some 119,.load none false (.tmp 118),(some (117,false))⟩,⟨some 120,.bin .eql (.tmp 119) (.const (.str [74,85,77,80])),(some (117,false))⟩,
 mo 121 (.pick (.tmp 117) (.const (.bool true)) (.tmp 120))] [108,109,110,111,112,113,114,115,116,117,118,119,120] (.cond (.tmp 121) (.seq (sq [mt 122 8,mf 123 1 11,ml 124 123,mo 125 (.indexAddr 1 (.tmp 122) (.tmp 124)),ml 126 125,mo 127 (.bin .geq (.tmp 126) (ci 0)),mw 128 127,
 ⟨some 129,.mov (.tmp 8),(some (128,true))⟩,⟨some 130,.fieldAddr 1 none (.tmp 11),(some (128,true))⟩,⟨some 131,.load none false (.tmp 130),(some (128,true))⟩,⟨some 132,.indexAddr 1 (.tmp 129) (.tmp 131),(some (128,true))⟩,⟨some 133,.load none false (.tmp 132),(some (128,true))⟩,
 ⟨some 134,.mov (.tmp 16),(some (128,true))⟩,⟨some 135,.bin .neq (.tmp 133) (.tmp 134),(some (128,true))⟩,mo 136 (.pick (.tmp 128) (.tmp 135) (.const (.bool false)))] [121,122,123,124,125,126,127,128,129,130,131,132,133,134,135] (.cond (.tmp 136) (sq [
 mo 6 (.mov (.const (.bool false)))] [0,1,5,7,8,10,11,14,16,136] .ret) .skip)) (rg [mt 137 8,mf 138 1 11,ml 139 138,mt 140 16,mo 141 (.indexAddr 1 (.tmp 137) (.tmp 139)),⟨none,.store 1 (.tmp 141) (.mv 140),none⟩] [136,137,138,139,140,141])) .skip)) (sq [mf 142 0 11,ml 143 142,
 mo 144 (.bin .neq (.tmp 143) (.const (.str [85,78,87,73,78,68]))),mw 145 144,⟨some 146,.fieldAddr 0 none (.tmp 11),(some (145,true))⟩,⟨some 147,.load none false (.tmp 146),(some (145,true))⟩,⟨some 148,.bin .neq (.tmp 147) (.const (.str [74,85,77,80])),(some (145,true))⟩,
 mo 149 (.pick (.tmp 145) (.tmp 148) (.const (.bool false))),mw 150 149,⟨some 151,.fieldAddr 0 none (.tmp 11),(some (150,true))⟩,⟨some 152,.load none false (.tmp 151),(some (150,true))⟩,⟨some 153,.bin .neq (.tmp 152) (.const (.str [70,65,73,76])),(some (150,true))⟩,
 ⟨some 154,.mov (.mv 153),(some (150,true))⟩,⟨some 155,.mov (.tmp 8),(some (154,false))⟩,⟨some 156,.mov (.tmp 10),(some (154,false))⟩,⟨some 157,.bin .add (.tmp 156) (ci 1),(some (154,false))⟩,⟨some 158,.indexAddr 1 (.tmp 155) (.tmp 157),(some (154,false))⟩,
 ⟨some 159,.load none false (.tmp 158),(some (154,false))⟩,⟨some 160,.bin .lss (.tmp 159) (ci 0),(some (154,false))⟩,⟨some 161,.pick (.tmp 154) (.const (.bool true)) (.tmp 160),(some (150,true))⟩,
 mo 162 (.pick (.tmp 150) (.tmp 161) (.const (.bool false)))] [11,121,142,143,144,145,146,147,148,149,150,151,152,153,154,155,156,157,158,159,160,161] (.cond (.tmp 162) (.seq (sq [mt 163 8,mt 164 10,mo 165 (.bin .add (.tmp 164) (ci 1)),
 mo 166 (.indexAddr 1 (.tmp 163) (.tmp 165)),ml 167 166,mo 168 (.bin .geq (.tmp 167) (ci 0)),mw 169 168,⟨some 170,.mov (.tmp 8),(some (169,true))⟩,⟨some 171,.mov (.tmp 10),(some (169,true))⟩,⟨some 172,.bin .add (.tmp 171) (ci 1),(some (169,true))⟩,
 ⟨some 173,.indexAddr 1 (.tmp 170) (.tmp 172),(some (169,true))⟩,⟨some 174,.load none false (.tmp 173),(some (169,true))⟩,⟨some 175,.mov (.tmp 16),(some (169,true))⟩,⟨some 176,.mov (.tmp 14),(some (169,true))⟩,⟨some 177,.bin .add (.tmp 175) (.tmp 176),(some (169,true))⟩,
 ⟨some 178,.bin .neq (.tmp 174) (.tmp 177),(some (169,true))⟩,mo 179 (.pick (.tmp 169) (.tmp 178) (.const (.bool false)))] [162,163,164,165,166,167,168,169,170,171,172,173,174,175,176,177,178] (.cond (.tmp 179) (sq [
 mo 6 (.mov (.const (.bool false)))] [0,1,5,7,8,10,14,16,179] .ret) .skip)) (rg [mt 180 8,mt 181 10,mo 182 (.bin .add (.tmp 181) (ci 1)),mt 183 16,mt 184 14,mo 185 (.bin .add (.tmp 183) (.tmp 184)),mo 186 (.indexAddr 1 (.tmp 180) (.tmp 182)),
 ⟨none,.store 1 (.tmp 186) (.mv 185),none⟩] [14,16,179,180,181,182,183,184,185,186])) .skip))))))))) (rg [mt 66 10,mo 67 (.bin .add (.tmp 66) (ci 1)),mw 10 67] [14,16,66,67,162])))
def zbn:ACode:=(.block 1 (rg [mo 8 (.load none true (.tmp 2)),mt 9 5,mo 10 (.buildSlice k_0 [.tmp 9]),mo 11 (.appendA k_0 16 (.mv 8) (.tmp 10)),⟨none,.store 1 (.tmp 2) (.mv 11),none⟩] [2,5,8,9,10,11]))
def zcu:AFun:={nargs:=3,ntmps:=187,res:=[.tmp 6],gc:=false,body:=(sq [mo 5 (.box (.tmp 2)),mo 6 (.mov (.const (.bool false)))] [2,6] (sq [mf 17 2 5,ml 18 17,mo 19 (.len (.tmp 18)),mw 7 19] [17,18,19] (.seq (sq [mf 20 1 5,ml 21 20,
 mo 22 (.bin .lss (.tmp 21) (ci 0)),mw 23 22,⟨some 24,.fieldAddr 1 none (.tmp 5),(some (23,false))⟩,⟨some 25,.load none false (.tmp 24),(some (23,false))⟩,⟨some 26,.bin .gtr (.tmp 25) (ci 6000),(some (23,false))⟩,mo 27 (.pick (.tmp 23) (.const (.bool true)) (.tmp 26)),mw 28 27,
 ⟨some 29,.mov (.tmp 7),(some (28,false))⟩,⟨some 30,.bin .eql (.tmp 29) (ci 0),(some (28,false))⟩,mo 31 (.pick (.tmp 28) (.const (.bool true)) (.tmp 30)),mw 32 31,⟨some 33,.fieldAddr 2 none (.tmp 5),(some (32,false))⟩,⟨some 34,.load none false (.tmp 33),(some (32,false))⟩,
 ⟨some 35,.mov (.tmp 7),(some (32,false))⟩,⟨some 36,.bin .sub (.tmp 35) (ci 1),(some (32,false))⟩,⟨some 37,.indexAddr 4 (.tmp 34) (.tmp 36),(some (32,false))⟩,⟨some 38,.fieldAddr 0 none (.tmp 37),(some (32,false))⟩,⟨some 39,.load none false (.tmp 38),(some (32,false))⟩,
 ⟨some 40,.bin .neq (.tmp 39) (.const (.str [85,78,87,73,78,68])),(some (32,false))⟩,⟨some 41,.mov (.mv 40),(some (32,false))⟩,⟨some 42,.fieldAddr 2 none (.tmp 5),(some (41,true))⟩,⟨some 43,.load none false (.tmp 42),(some (41,true))⟩,⟨some 44,.mov (.tmp 7),(some (41,true))⟩,
 ⟨some 45,.bin .sub (.tmp 44) (ci 1),(some (41,true))⟩,⟨some 46,.indexAddr 4 (.tmp 43) (.tmp 45),(some (41,true))⟩,⟨some 47,.fieldAddr 0 none (.tmp 46),(some (41,true))⟩,⟨some 48,.load none false (.tmp 47),(some (41,true))⟩,
 ⟨some 49,.bin .neq (.tmp 48) (.const (.str [70,65,73,76])),(some (41,true))⟩,⟨some 50,.pick (.tmp 41) (.tmp 49) (.const (.bool false)),(some (32,false))⟩,
 mo 51 (.pick (.tmp 32) (.const (.bool true)) (.tmp 50))] [20,21,22,23,24,25,26,27,28,29,30,31,32,33,34,35,36,37,38,39,40,41,42,43,44,45,46,47,48,49,50] (.cond (.tmp 51) (sq [mo 6 (.mov (.const (.bool false)))] [0,1,5,7,51] .ret) .skip)) (sq [mf 52 1 5,ml 53 52,
 mo 54 (.buildA k_int [.tmp 53]),mw 8 54] [51,52,53,54] (.seq (sq [mo 9 (.mov (ci 0))] [] (.block 0 (.loop zc5))) (.seq (sq [mo 10 (.mov (ci 0))] [9,57] (.block 2 (.loop zap))) (sq [mo 6 (.mov (.const (.bool true)))] [0,1,5,7,8,10,65] .ret)))))))}
def zc0:AFun:={nargs:=2,ntmps:=13,res:=[.tmp 4],gc:=false,body:=(sq [mo 2 (.gbox t_48 (.tmp 0)),mo 4 (.mov (.const .nils))] [0,4] (.seq (sq [mt 6 1] [1] (.block 0 (.rangeF (.tmp 6) [7] (rg [mt 5 7] [6,7]) zbn))) (sq [
 mo 12 (.load none true (.tmp 2)),mw 4 12] [2,6,12] .ret)))}
def zdh:AFun:={nargs:=1,ntmps:=8,res:=[.tmp 2],gc:=false,body:=(sq [mo 2 (.mov (.const .nils))] [2] (.seq (sq [mt 3 0,mo 4 (.isNilS .eql (.tmp 3))] [3] (.cond (.tmp 4) (sq [mo 2 (.mov (.const .nils))] [0,4] .ret) .skip)) (sq [mo 5 (.buildA k_0 []),
 mw 6 0,mo 7 (.appendA k_0 16 (.mv 5) (.tmp 6)),mw 2 7] [0,4,5,6,7] .ret)))}
theorem zul:okFun Go.Proofs.Tryz.prog Go.Proofs.Tryz.f38 zcu=true:=by kernel_rfl
theorem zif:okFun Go.Proofs.Tryz.prog Go.Proofs.Tryz.f147 zc0=true:=by kernel_rfl
theorem zj9:okFun Go.Proofs.Tryz.prog Go.Proofs.Tryz.f78 zdh=true:=by kernel_rfl
end Go.Fu
namespace Go.Fu
open Go Go.Mx
set_option maxRecDepth 10000
set_option maxHeartbeats 8000000
def cZ (l:List Int):List Cell:=l.map fun x=>⟨false,.int .i64 x⟩
theorem zeq (l:List Int):(cZ l).length=l.length:=by simp [cZ]
theorem zeg (l:List Int) (k:Nat) (h:k < l.length):nth (cZ l) k=some ⟨false,.int .i64 (l.getD k 0)⟩:=by
 rw [cZ,zoq,zop _ _ h,zaq _ _ _ h]
 rfl
theorem zfk:∀ (l:List Int) (k:Nat) (v:Int),k < l.length→putCells (cZ l) k [⟨false,.int .i64 v⟩]=cZ (l.set k v)
 | [],k,v,h=>by simp at h
 | x :: l,0,v,_=>by cases l <;> rfl
 | x :: l,k + 1,v,h=>by
  have h1:=zfk l k v (by simpa using h)
  simp only [cZ,List.map_cons,List.set_cons_succ,putCells] at h1 ⊢
  rw [h1]
theorem zf9 (id m k:Nat) (h:k < m):za7 1 (.arr k_int id 0 m) k=some (.ptr id k):=by
 have e:decide (k < m)=true:=decide_eq_true h
 simp only [za7,e,Nat.zero_add,Nat.mul_one]
 rfl
def tellM (k:Nat) (d:Int) (ds:List Int):Option (List Int):=ifB (decide (0≤ds.getD k 0) && (ds.getD k 0 != d)) none (some (ds.set k d))
def kst (s:Bool) (i:In) (e1 e2 d:Int) (k:Nat) (ds:List Int):Option (List Int) :=
 ifB (!s || (decide (d < 0) || (decide (d < e1) || (i.op == [85,78,87,73,78,68] && (d != 0))))) none <|
 bindO (ifB (goesI i.op) (tellM i.n.toNat d ds) (some ds)) fun ds1 =>
 ifB (!(i.op == [85,78,87,73,78,68]) && (!(i.op == [74,85,77,80]) && (!(i.op == [70,65,73,76]) || decide (ds1.getD (k + 1) 0 < 0)))) (tellM (k + 1) (IntKind.i64.wrap (d + e2)) ds1) (some ds1)
def SK (id:Nat) (ds:List Int) (ty:List (Nat × Ty)) (ot:List (Nat × Oth)) (nx:Nat):Store:={objs:=[(id,cZ ds)],tys:=ty,oth:=ot,next:=nx}
def E1k (fs:List Fd) (ns:List Tx) (c:Cd) (id m k:Nat):Env:={slots:=[(0,⟨false,dFs fs⟩),(1,⟨false,dSs ns⟩),(7,⟨false,.int .i64 c.body.length⟩),(8,⟨false,.arr k_int id 0 m⟩),(10,⟨false,.int .i64 k⟩)],locs:=[(5,(5,0))],boxes:=[(5,[⟨false,.str c.name⟩,⟨false,.int .i64 c.arity⟩,⟨false,dIs c.body⟩])],defers:=[]}
def Ef6:Env:={slots:=[(6,⟨false,.bool false⟩)],locs:=[],boxes:=[],defers:=[]}
end Go.Fu
namespace Go.Fu
open Go Go.Mx
set_option maxRecDepth 10000
section
variable {C:CallF} {n:Nat} {σ:Store}
def Eix (l:List Tx) (s:Tx) (i:Nat):Env:={slots:=[(0,⟨false,dSs l⟩),(1,⟨false,.str s⟩),(7,⟨false,.int .i64 l.length⟩),(8,⟨false,.int .i64 i⟩)],locs:=[],boxes:=[],defers:=[]}
theorem zk8b (l:List Tx) (s:Tx) (i:Nat) (h:i < l.length) (hl:l.length < 1000000000) (hq:(s == l.getD i [])=false):exec C n none a_73 (Eix l s i) σ=some (.normal,Eix l s (i + 1),σ):=by
 rw [zaq _ _ _ h] at hq
 have hi:((i:Int) < (l.length:Int)):=by omega
 simp only [a_73,Eix,sA,seval,kn,len_S,hi,natI,idx_S l i h,hq,zag (i:=i) (by omega)]
theorem zk9b (l:List Tx) (s:Tx) (i:Nat) (h:i < l.length) (hq:(s == l.getD i [])=true):exec C n none a_73 (Eix l s i) σ=some (.ret,{slots:=[(4,⟨false,.int .i64 i⟩)],locs:=[],boxes:=[],defers:=[]},σ):=by
 rw [zaq _ _ _ h] at hq
 have hi:((i:Int) < (l.length:Int)):=by omega
 simp only [a_73,Eix,sA,seval,kn,len_S,hi,natI,idx_S l i h,hq]
theorem znyb (l:List Tx) (s:Tx):exec C n none a_73 (Eix l s l.length) σ=some (.exit 0,{Eix l s l.length with slots:=[(0,⟨false,dSs l⟩),(1,⟨false,.str s⟩),(7,⟨false,.int .i64 l.length⟩),(8,⟨false,.int .i64 l.length⟩),(9,⟨false,.bool false⟩)]},σ):=by
 have hi:¬ ((l.length:Int) < (l.length:Int)):=by omega
 simp only [a_73,Eix,sA,seval,kn,len_S,hi]
end
theorem zu4 (l:List Tx) (s:Tx):(l.any fun x=>s == x)=l.any (· == s):=by
 induction l with
 | nil=>rfl
 | cons a r ih =>
  simp only [List.any_cons,ih]
  congr 1
  rw [Bool.eq_iff_iff,beq_iff_eq,beq_iff_eq]
  exact eq_comm
theorem zcnb (l:List Tx) (s:Tx) (hl:l.length < 1000000000):∃ v:Int,OkP n_137 [dSs l,.str s] ⟨false,.int .i64 v⟩∧(v ≥ 0↔l.any (· == s)=true):=by
 have hr:=zfn (body:=exec (T [] 0) (l.length + 1) none a_73) (Eix l s) (fun _=>σ0) l.length (fun i=>!(s == l.getD i [])) (r:=_) (fun i=>(.ret,{slots:=[(4,⟨false,.int .i64 i⟩)],locs:=[],boxes:=[],defers:=[]},σ0)) (fun _ _ h=>by cases h) (fun _ _ _ h=>by cases h) (fun i hi hq=>zk8b l s i hi hl (by simpa using hq)) (fun i hi hq=>zk9b l s i hi (by simpa using hq)) (znyb l s) (l.length + 1) 0 (Nat.zero_le _) (by omega)
 simp only [Eix,zeroI] at hr
 rcases hr with ⟨i,_,hi,hq,_,h⟩ | ⟨hq,h⟩
 ·refine ⟨i,zas (af:=a_128) (n:=l.length + 1) (σ':=σ0) (zav [] 0) rfl rfl (by simp [zal,zau,noPtr]) rfl ?_,?_⟩
  ·simp only [a_128,sA,seval,kn,len_S,h]
  ·refine ⟨fun _=>?_,fun _=>by omega⟩
   rw [← zu4,List.any_eq_true]
   rw [zaq _ _ _ hi] at hq
   exact ⟨_,List.getElem_mem hi,by simpa using hq⟩
 ·refine ⟨-1,zas (af:=a_128) (n:=l.length + 1) (σ':=σ0) (zav [] 0) rfl rfl (by simp [zal,zau,noPtr]) rfl ?_,?_⟩
  ·simp only [a_128,sA,seval,kn,len_S,h]
  ·refine ⟨fun h=>by omega,fun ha=>?_⟩
   rw [← zu4,List.any_eq_true] at ha
   obtain ⟨x,hx,hxs⟩:=ha
   obtain ⟨i,hi,rfl⟩:=List.getElem_of_mem hx
   have:=hq i (Nat.zero_le _) hi
   rw [zaq _ _ _ hi] at this
   simp only [hxs] at this
   cases this
def zqa:List D→Cell→Prop:=fun ds c=>∀ l s,ds=[dSs l,.str s]→∃ v:Int,c=⟨false,.int .i64 v⟩∧(v ≥ 0↔l.any (· == s)=true)
theorem zbrb {S:Specs} (hS:aget S n_137=some zqa) (l:List Tx) (s:Tx) (hl:l.length < 1000000000):∃ v:Int,(∀ n σ,T S (n + 1) n_137 [dSs l,.str s] σ=some (.ret ⟨false,.int .i64 v⟩,σ))∧(v ≥ 0↔l.any (· == s)=true):=by
 obtain ⟨v,hp,hv⟩:=zcnb l s hl
 obtain ⟨c,h1,h2⟩:=T_orc (S:=S) hS rfl (c:=⟨false,.int .i64 v⟩) (fun l' s' e=>by
  simp only [List.cons.injEq,D.str.injEq,and_true] at e
  obtain ⟨e1,rfl⟩:=e
  obtain rfl:=zba e1
  exact ⟨v,rfl,hv⟩) hp
 obtain ⟨u,rfl,hu⟩:=h1 l s rfl
 exact ⟨u,h2,hu⟩
theorem zt1 (l:List Tx) (s:Tx) (hl:l.length < 1000000000):OkP n_16 [dSs l,.str s] ⟨false,.bool (l.any (· == s))⟩:=by
 obtain ⟨v,h1,h2⟩:=zbrb (S:=[(n_137,zqa)]) rfl l s hl
 refine zas (af:=a_146) (n:=1) (σ':=σ0) (zav [(n_137,zqa)] 1) rfl rfl (by simp [zal,zau,noPtr]) rfl ?_
 have h1:=h1 0 σ0
 cases hb:l.any (· == s) with
 | true =>
  have hv:v ≥ 0:=h2.2 hb
  simp only [a_146,sA,seval,kn,h1,hv]
 | false =>
  have hv:¬ v ≥ 0:=fun h=>by rw [h2.1 h] at hb; cases hb
  simp only [a_146,sA,seval,kn,h1,hv]
def zk1:List D→Cell→Prop:=fun ds c=>∀ l s,ds=[dSs l,.str s]→c=⟨false,.bool (l.any (· == s))⟩
theorem zmr {S:Specs} (hS:aget S n_16=some zk1) (l:List Tx) (s:Tx) (hl:l.length < 1000000000) (n:Nat) (σ:Store):T S (n + 1) n_16 [dSs l,.str s] σ=some (.ret ⟨false,.bool (l.any (· == s))⟩,σ):=by
 obtain ⟨c,h1,h2⟩:=T_orc (S:=S) hS rfl (c:=⟨false,.bool (l.any (· == s))⟩) (fun l' s' e=>by
  simp only [List.cons.injEq,D.str.injEq,and_true] at e
  obtain ⟨e1,rfl⟩:=e
  rw [zba e1]) (zt1 l s hl)
 rw [h2,h1 l s rfl]
end Go.Fu
