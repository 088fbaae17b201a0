/-
 How high core is: what is made flat of it is lower.
-/
import Derived.Test.YtldfbnbckiifeaaGreatDoorFgY
set_option maxHeartbeats 4000000
set_option linter.unusedSimpArgs false
set_option linter.unusedVariables false
set_option linter.unusedSectionVars false
namespace Go.Fu
open Go Go.Mx
set_option maxRecDepth 10000
mutual
def hgt:Co→Nat
 | .mk _ _ _ ks bs al=>1 + max (hgK ks) (max (hgB bs) (hgA al))
def hgK:List Co→Nat
 | []=>0
 | c :: r=>max (hgt c) (hgK r)
def hgB:List (Tx × Co)→Nat
 | []=>0
 | (_,c) :: r=>max (hgt c) (hgB r)
def hgA:List (Hd × Co)→Nat
 | []=>0
 | (_,c) :: r=>max (hgt c) (hgA r)
end
theorem zhhb (c:Co):hgt c=1 + max (hgK c.ks) (max (hgB c.bs) (hgA c.al)):=by
 cases c
 rw [hgt]
 rfl
theorem zcsb:∀ (l:List Co) (x:Co),x∈l→hgt x≤hgK l
 | y :: r,x,h=>by
  simp only [hgK]
  rcases List.mem_cons.1 h with rfl | h
  ·omega
  ·have:=zcsb r x h; omega
theorem zcrb:∀ (l:List (Tx × Co)) (x:Tx × Co),x∈l→hgt x.2≤hgB l
 | (s,y) :: r,x,h=>by
  simp only [hgB]
  rcases List.mem_cons.1 h with rfl | h
  ·simp only; omega
  ·have:=zcrb r x h; omega
theorem zcqb:∀ (l:List (Hd × Co)) (x:Hd × Co),x∈l→hgt x.2≤hgA l
 | (s,y) :: r,x,h=>by
  simp only [hgA]
  rcases List.mem_cons.1 h with rfl | h
  ·simp only; omega
  ·have:=zcqb r x h; omega
theorem zx8 {F:Co→List Su→Co × List Su} {Q:Su→Prop}:∀ (l:List (Tx × Co)) (m:List Su),(∀ p∈l,∀ m,∀ u∈(F p.2 m).2,u∈m∨Q u)→∀ u∈(mapB F l m).2,u∈m∨Q u
 | [],m,_,u,hu=>.inl hu
 | (s,c) :: l,m,h,u,hu=>by
  rcases zx8 l (F c m).2 (fun q hq=>h q (List.mem_cons_of_mem _ hq)) u hu with h1 | h1
  ·exact h (s,c) (List.mem_cons_self ..) m u h1
  ·exact .inr h1
theorem zyb {F:Co→List Su→Co × List Su} {Q:Su→Prop}:∀ (l:List Co) (m:List Su),(∀ p∈l,∀ m,∀ u∈(F p m).2,u∈m∨Q u)→∀ u∈(mapK F l m).2,u∈m∨Q u
 | [],m,_,u,hu=>.inl hu
 | c :: l,m,h,u,hu=>by
  rcases zyb l (F c m).2 (fun q hq=>h q (List.mem_cons_of_mem _ hq)) u hu with h1 | h1
  ·exact h c (List.mem_cons_self ..) m u h1
  ·exact .inr h1
theorem zx3 {F:Hd→Co→List Su→Co × List Su} {Q:Su→Prop}:∀ (l:List (Hd × Co)) (m:List Su),(∀ p∈l,∀ m,∀ u∈(F p.1 p.2 m).2,u∈m∨Q u)→∀ u∈(mapA F l m).2,u∈m∨Q u
 | [],m,_,u,hu=>.inl hu
 | (s,c) :: l,m,h,u,hu=>by
  rcases zx3 l (F s c m).2 (fun q hq=>h q (List.mem_cons_of_mem _ hq)) u hu with h1 | h1
  ·exact h (s,c) (List.mem_cons_self ..) m u h1
  ·exact .inr h1
theorem zmmb:∀ (k:Nat) (c:Co),c.size=k→∀ (z:Bool) (ar:List Tx) (t:Tx) (m:List Su),∀ u∈(flM c z ar t m).2,u∈m∨(hgt u.body≤hgt c∧(zdd c z=false→hgt u.body < hgt c)):=by
 intro k
 induction k using Nat.strongRecOn with
 | ind k ih =>
  intro c hk z ar t m u hu
  have hz:=zci c
  have hh:=zhhb c
  cases hl:zdd c z with
  | true =>
   rw [zka _ _ _ _ _ hl] at hu
   simp only [liftM,List.mem_append,List.mem_singleton] at hu
   rcases hu with h | rfl
   ·exact .inl h
   ·exact .inr ⟨Nat.le_refl _,fun h=>by cases h⟩
  | false =>
   rw [zin _ _ _ _ _ hl] at hu
   have key:u∈m∨hgt u.body < hgt c:=by
    simp only [fA,fK,fB,List.take_length] at hu
    rcases zx3 (Q:=fun u=>hgt u.body < hgt c) _ _ (fun p hp m' u' hu'=>by
     have h1:=zdz _ _ hp
     have h2:=zcqb _ _ hp
     rcases ih p.2.size (by omega) p.2 rfl _ _ _ _ u' hu' with h | h
     ·exact .inl h
     ·exact .inr (by omega)) u hu with h | h
    ·rcases zyb (Q:=fun u=>hgt u.body < hgt c) _ _ (fun p hp m' u' hu'=>by
      have h1:=zie _ _ hp
      have h2:=zcsb _ _ hp
      rcases ih p.size (by omega) p rfl _ _ _ _ u' hu' with h | h
      ·exact .inl h
      ·exact .inr (by omega)) u h with h | h
     ·rcases zx8 (Q:=fun u=>hgt u.body < hgt c) _ _ (fun p hp m' u' hu'=>by
       have h1:=zfd _ _ hp
       have h2:=zcrb _ _ hp
       rcases ih p.2.size (by omega) p.2 rfl _ _ _ _ u' hu' with h | h
       ·exact .inl h
       ·exact .inr (by omega)) u h with h | h
      ·exact .inl h
      ·exact .inr h
     ·exact .inr h
    ·exact .inr h
   rcases key with h | h
   ·exact .inl h
   ·exact .inr ⟨by omega,fun _=>h⟩
theorem zg4b (c:Co) (ar:List Tx) (t:Tx):∀ u∈(flM c false ar t []).2,hgt u.body < hgt c:=fun u hu=>by
 rcases zmmb _ c rfl false ar t [] u hu with h | h
 ·cases h
 ·exact h.2 rfl
end Go.Fu
namespace Go.Fu
open Go Go.Mx
set_option maxRecDepth 10000
def FlU (B:Nat) (u:Su):Prop:=Fl B false u.body∧u.name.length≤B∧u.ps.length + u.body.size < 1000000
def FO (B n:Nat) (us:List Su):Prop:=(∀ u∈us,FlU B u)∧us.length≤n∧szU us≤3 * n * n
def PreU (B B':Nat) (s:Su):Prop:=Shp B s.body∧s.name.length + 22 * hgt s.body≤B'∧s.ps.length≤100000∧s.body.size≤100000
theorem zun:∀ (l:List Su) (x:Su),x∈l→x.body.size≤szU l
 | y :: r,x,h=>by
  simp only [szU]
  rcases List.mem_cons.1 h with rfl | h
  ·omega
  ·have:=zun r x h; omega
theorem zbqb (l:List Su) (i:Nat):szU (l.take i)≤szU l:=by
 have:=zn4 (l.take i) (l.drop i)
 rw [List.take_append_drop] at this
 omega
theorem zdcb:∀ l:List Su,l.length≤szU l
 | []=>by simp [szU]
 | y :: r=>by
  have:=zdcb r
  have:=zcw y.body
  simp only [szU,List.length_cons]
  omega
section
variable {C:CallF} {n:Nat} {σ:Store}
end
end Go.Fu
namespace Go.Fu
open Go Go.Mx
set_option maxRecDepth 10000
def sPACK:Tx:=[80,65,67,75]
def zbk (f:Fd):Cd:=⟨f.name,f.arity,[⟨sPACK,f.arity,f.tag,f.name⟩,⟨zdy,0,0,[]⟩,⟨sPOP,0,0,[]⟩,⟨zjv,0,0,[]⟩]⟩
theorem ok_dD (c:Cd):(dD c).ok=true:=by simp [dD,D.ok,dIs,D.one,zaz]
theorem zjnb (c:Cd):(dD c).cells.length=3:=rfl
theorem appD1 (a:List Cd) (x:Cd) (o:Bool) (ho:a≠[]→o=true) (hl:a.length < 1000000000):za4 k_15 48 ⟨o,dDs a⟩ [dD x]=some ⟨true,dDs (a ++ [x])⟩:=zge ok_dD zjnb (by omega) a x o ho hl
section
variable {C:CallF} {n:Nat} {σ:Store}
end
end Go.Fu
namespace Go.Fu
open Go Go.Mx
set_option maxRecDepth 10000
def CO (B:Nat) (cs:List Cd):Prop:=∀ c∈cs,c.name.length≤B∧Small c.arity∧∀ i∈c.body,GI B i
def wt:List Cd→Nat
 | []=>0
 | c :: r=>c.body.length + 1 + wt r
theorem zi7b:∀ a:List Cd,a.length≤wt a
 | []=>by simp [wt]
 | x :: r=>by
  have:=zi7b r
  simp only [wt,List.length_cons]
  omega
section
variable {C:CallF} {n:Nat} {σ:Store}
end
end Go.Fu
namespace Go.Fu
open Go Go.Mx
set_option maxRecDepth 10000
structure IR (d:D) (xs:List Int):Prop where
 len:lenOf d=some xs.length
 idx:∀ i (h:i < xs.length),zbj 1 d i=some (.eptr (.int .i64 xs[i]))
 np:noPtr d=true
 small:∀ x∈xs,Small x
def pickI (x:Int):Nat:=(if x < 0 then -(x + 1) else x).toNat
def pickM (xs:List Int) (at':Nat):Nat:=if h:at' < xs.length then pickI xs[at'] else 0
theorem zkzb {x:Int} (h:Small x):pickI x < 9223372036854775808:=by
 unfold pickI Small at *
 split <;> omega
theorem zgb {xs:List Int} (h:∀ x∈xs,Small x) (i:Nat):pickM xs i < 9223372036854775808:=by
 unfold pickM
 split
 ·exact zkzb (h _ (List.getElem_mem _))
 ·omega
theorem zh9b {d:D} {xs:List Int} (hR:IR d xs) (i:Nat) (hi:i < 1099511627776):OkP n_20 [d,.int .i64 i] ⟨false,.int .i64 (pickM xs i:Nat)⟩:=by
 refine zbv (af:=a_91) (n:=1) (σ':=σ0) (zb5 [] 0) rfl rfl (by simp [zam,hR.np,noPtr]) rfl ?_
 by_cases h:i < xs.length
 ·have h1:¬ ((xs.length:Int)≤(i:Int)):=by omega
  have hx:=hR.idx i h
  have hs:=hR.small _ (List.getElem_mem h)
  have hp:pickM xs i=pickI xs[i]:=by simp [pickM,h]
  rw [hp]
  generalize xs[i]=x at hx hs
  unfold Small at hs
  by_cases h2:x < 0
  ·have e1:IntKind.i64.wrap (x + 1)=x + 1:=zc1 (by omega) (by omega)
   have e2:IntKind.i64.wrap (0 - (x + 1))=(pickI x:Int):=by
    rw [zc1 (by omega) (by omega)]
    simp only [pickI,if_pos h2]
    omega
   simp only [a_91,sA,Nat.reduceAdd,Nat.reduceSub,Nat.reduceMul,Nat.reduceBEq,Nat.reduceLeDiff,Int.reduceBEq,Int.reduceBNe,Int.reduceLE,Int.reduceLT,Int.reduceGE,Int.reduceGT,Int.reduceNeg,kn,hR.len,h1,natI,hx,h2,e1,e2]
  ·have e2:x=(pickI x:Int):=by
    simp only [pickI,if_neg h2]
    omega
   simp only [a_91,sA,Nat.reduceAdd,Nat.reduceSub,Nat.reduceMul,Nat.reduceBEq,Nat.reduceLeDiff,Int.reduceBEq,Int.reduceBNe,Int.reduceLE,Int.reduceLT,Int.reduceGE,Int.reduceGT,Int.reduceNeg,kn,hR.len,h1,natI,hx,h2]
   rw [← e2]
 ·have h1:((xs.length:Int)≤(i:Int)):=by omega
  have hp:pickM xs i=0:=by simp [pickM,h]
  rw [hp]
  simp only [a_91,sA,Nat.reduceAdd,Nat.reduceSub,Nat.reduceMul,Nat.reduceBEq,Nat.reduceLeDiff,Int.reduceBEq,Int.reduceBNe,Int.reduceLE,Int.reduceLT,Int.reduceGE,Int.reduceGT,Int.reduceNeg,kn,hR.len,h1]
  rfl
theorem zz6:OkP n_27 [] ⟨false,dFs FL⟩:=by
 refine OkP.weak (o:=true) rfl (zbv (af:=a_161) (n:=1) (σ':=σ0) (zb5 [] 0) rfl rfl rfl (by simp [zpd]) ?_)
 simp only [a_161,sA,Nat.reduceAdd,Nat.reduceSub,Nat.reduceMul,Nat.reduceBEq,Nat.reduceLeDiff,Int.reduceBEq,Int.reduceBNe,Int.reduceLE,Int.reduceLT,Int.reduceGE,Int.reduceGT,Int.reduceNeg,kn]
 rfl
def zhg:List D→Cell→Prop:=fun ds c=>ds=[]→c=⟨false,dFs FL⟩
theorem zlj {S:Specs} (hS:aget S n_27=some zhg) (n:Nat) (σ:Store):T S (n + 1) n_27 [] σ=some (.ret ⟨false,dFs FL⟩,σ):=by
 obtain ⟨c,h1,h2⟩:=T_orc (S:=S) hS rfl (c:=⟨false,dFs FL⟩) (fun _=>rfl) zz6
 rw [h2,h1 rfl]
theorem tmodN (a b:Nat):((a:Int)).tmod (b:Int)=((a % b:Nat):Int):=by rw [Int.tmod_eq_emod_of_nonneg (by omega)]; omega
theorem tdivN (a b:Nat):((a:Int)).tdiv (b:Int)=((a / b:Nat):Int):=by rw [Int.tdiv_eq_ediv_of_nonneg (by omega)]; omega
theorem zwr:∀ f∈FL,zho FL f.name (-1)=true∧zho FL f.name f.arity=true∧f.name.length≤5∧(f.arity=0∨f.arity=1∨f.arity=2):=by decide
def co10 (f n:Int) (s:Tx):Co:=.mk f n s [] [] []
theorem zm7b (v:Nat) (hv:v < 9223372036854775808) (ns:List Tx) (h0:ns≠[]) (hn:ns.length < 1000) (h5:∀ s∈ns,s.length≤5) :
  ∃ c,OkP n_106 [.int .i64 v,dSs ns] ⟨false,dCo c⟩∧Good ns c∧Shp 5 c∧c.size=1∧hgt c=1:=by
 have mk:∀ {c:Co} {o:Bool} {σ'},finX Ra (fun _ _ _=>none) a_54 0 (exec (T [(n_27,zhg)] 1) 1 none a_54.body (zb1 [.int .i64 v,dSs ns]) σ0)=some (.ret ⟨o,dCo c⟩,σ')→OkP n_106 [.int .i64 v,dSs ns] ⟨false,dCo c⟩:=fun {c o σ'} hr =>
  OkP.weak (o:=o) rfl (zbv (af:=a_54) (n:=1) (σ':=σ') (zb5 [(n_27,zhg)] 1) rfl rfl (by simp [zam,noPtr,za6]) (zcv _) hr)
 have hF:=zlj (S:=[(n_27,zhg)]) rfl 0 σ0
 have t4:((v:Int)).tmod 4=((v % 4:Nat):Int):=tmodN v 4
 have d4:((v:Int)).tdiv 4=((v / 4:Nat):Int):=tdivN v 4
 have w4:IntKind.i64.wrap ((v / 4:Nat):Int)=((v / 4:Nat):Int):=zc1 (by omega) (by omega)
 by_cases c0:v % 4=0
 ·have t7:(((v / 4:Nat):Int)).tmod 7=((v / 4 % 7:Nat):Int):=tmodN _ 7
  have w7:IntKind.i64.wrap (((v / 4 % 7:Nat):Int) - 3)=((v / 4 % 7:Nat):Int) - 3:=zc1 (by omega) (by omega)
  have hsm:Small (((v / 4 % 7:Nat):Int) - 3):=by unfold Small; omega
  refine ⟨co10 3 (((v / 4 % 7:Nat):Int) - 3) [],mk (o:=false) (σ':=σ0) ?_,.int hsm,.leaf (.inr (.inr (.inl rfl))) hsm (by simp),rfl,rfl⟩
  simp only [a_54,sA,Nat.reduceAdd,Nat.reduceSub,Nat.reduceMul,Nat.reduceBEq,Nat.reduceLeDiff,Int.reduceBEq,Int.reduceBNe,Int.reduceLE,Int.reduceLT,Int.reduceGE,Int.reduceGT,Int.reduceNeg,kn,co10,za1,zdh,co,hF,t4,c0,d4,w4,t7,w7]
  rfl
 ·have ne0:(((v % 4:Nat):Int) == 0)=false:=by simp; omega
  by_cases c1:v % 4=1
  ·have t5:(((v / 4:Nat):Int)).tmod 5=((v / 4 % 5:Nat):Int):=tmodN _ 5
   have hj:v / 4 % 5 < FL.length:=Nat.mod_lt _ (by decide)
   have hx:=idx_F FL (v / 4 % 5) hj
   have hl:((FL.length:Nat):Int)=5:=rfl
   have hnm:=zwr _ (List.getElem_mem hj)
   generalize FL[v / 4 % 5]=f at hx hnm
   simp only [dF] at hx
   refine ⟨co10 2 0 f.name,mk (o:=false) (σ':=σ0) ?_,.con hnm.1,.leaf (.inr (.inl rfl)) zS hnm.2.2.1,rfl,rfl⟩
   simp only [a_54,sA,Nat.reduceAdd,Nat.reduceSub,Nat.reduceMul,Nat.reduceBEq,Nat.reduceLeDiff,Int.reduceBEq,Int.reduceBNe,Int.reduceLE,Int.reduceLT,Int.reduceGE,Int.reduceGT,Int.reduceNeg,kn,co10,za1,zdh,co,hF,t4,c1,d4,w4,len_F,hl,t5,natI,hx]
   rfl
  ·have ne1:(((v % 4:Nat):Int) == 1)=false:=by simp; omega
   have hnl:0 < ns.length:=List.length_pos_iff.2 h0
   have tn:(((v / 4:Nat):Int)).tmod (ns.length:Int)=((v / 4 % ns.length:Nat):Int):=tmodN _ _
   have hj:v / 4 % ns.length < ns.length:=Nat.mod_lt _ hnl
   have hx:=idx_S ns (v / 4 % ns.length) hj
   have hz:((ns.length:Int) == 0)=false:=by simp; omega
   have hm:=List.getElem_mem hj
   generalize ns[v / 4 % ns.length]=s at hx hm
   have hany:ns.any (· == s)=true:=List.any_eq_true.2 ⟨s,hm,by simp⟩
   refine ⟨co10 1 0 s,mk (o:=false) (σ':=σ0) ?_,.var hany,.leaf (.inl rfl) zS (h5 s hm),rfl,rfl⟩
   simp only [a_54,sA,Nat.reduceAdd,Nat.reduceSub,Nat.reduceMul,Nat.reduceBEq,Nat.reduceLeDiff,Int.reduceBEq,Int.reduceBNe,Int.reduceLE,Int.reduceLT,Int.reduceGE,Int.reduceGT,Int.reduceNeg,kn,co10,za1,zdh,co,hF,t4,ne0,ne1,d4,w4,len_S,hz,tn,natI,hx]
   rfl
end Go.Fu
namespace Go.Fu
open Go Go.Mx
set_option maxRecDepth 10000
def szT:Nat→Nat
 | 0=>1
 | d + 1=>4 * szT d + 10
def szN:Nat→Nat
 | 0=>1
 | d + 1=>4 * szN d + 5
def PT (ns:List Tx) (deep i:Nat):Prop:=ns≠[]∧ns.length + 2 * deep≤100∧(∀ s∈ns,s.length≤5)∧i + szN deep≤1000000
def TmOK (ns:List Tx) (deep i:Nat) (c:Co) (j:Nat):Prop:=Good ns c∧Shp 5 c∧c.size≤szT deep∧hgt c≤deep + 1∧j≤i + szN deep
def ztd (d:D) (xs:List Int):List D→Cell→Prop:=fun ds c=>∀ i:Nat,ds=[d,.int .i64 i]→c=⟨false,.int .i64 (pickM xs i:Nat)⟩
theorem zd8 {S:Specs} {d:D} {xs:List Int} (hS:aget S n_20=some (ztd d xs)) (hR:IR d xs) (i:Nat) (hi:i < 1099511627776) (n:Nat) (σ:Store):T S (n + 1) n_20 [d,.int .i64 i] σ=some (.ret ⟨false,.int .i64 (pickM xs i:Nat)⟩,σ):=by
 obtain ⟨c,h1,h2⟩:=T_orc (S:=S) hS rfl (c:=⟨false,.int .i64 (pickM xs i:Nat)⟩) (fun j e=>by
  simp only [List.cons.injEq,D.int.injEq,true_and,and_true] at e
  rw [show j=i by omega]) (zh9b hR i hi)
 rw [h2,h1 i rfl]
def lS (b:List Tx):D:=.list k_0 (b.map D.str)
theorem zdkb (a b:List Tx) (hl:a.length + b.length < 1000000000):OkP n_16 [dSs a,lS b] ⟨false,dSs (a ++ b)⟩:=by
 have hn:noPtr (lS b)=true:=by rw [lS,noPtr]; exact zc6 (fun _=>rfl) b
 refine OkP.weak (o:=true) rfl (zbv (af:=a_90) (n:=1) (σ':=σ0) (zb5 [] 0) rfl rfl (by simp [zam,za6,hn]) (za6 _) ?_)
 simp only [a_90,lS,sA,seval,kn,zw0,zey,appS0 a false (by omega),appS a b true (fun _=>rfl) hl]
theorem zhnb {a b:List Tx} (h:lS a=lS b):a=b:=by
 simp only [lS,D.list.injEq,true_and] at h
 exact zgj (fun h=>by simpa using h) h
theorem zhmb {a b:List Tx} (h:lS a=dSs b):a=b:=by
 cases b with
 | nil=>cases h
 | cons x r=>exact zhnb (b:=x :: r) h
def zp0:List D→Cell→Prop:=fun ds c=>∀ a b,(ds=[dSs a,dSs b]∨ds=[dSs a,lS b])→c=⟨false,dSs (a ++ b)⟩
theorem zdnb {S:Specs} (hS:aget S n_16=some zp0) (a b:List Tx) (hl:a.length + b.length < 1000000000) (n:Nat) (σ:Store):T S (n + 1) n_16 [dSs a,dSs b] σ=some (.ret ⟨false,dSs (a ++ b)⟩,σ):=by
 obtain ⟨c,h1,h2⟩:=T_orc (S:=S) hS rfl (c:=⟨false,dSs (a ++ b)⟩) (fun a' b' e=>by
  rcases e with e | e
  ·simp only [List.cons.injEq,and_true] at e
   rw [zcy e.1,zcy e.2]
  ·simp only [List.cons.injEq,and_true] at e
   rw [zcy e.1,zhmb e.2.symm]) (zgcb a b hl)
 rw [h2,h1 a b (.inl rfl)]
theorem zsc {S:Specs} (hS:aget S n_16=some zp0) (a b:List Tx) (hl:a.length + b.length < 1000000000) (n:Nat) (σ:Store):T S (n + 1) n_16 [dSs a,lS b] σ=some (.ret ⟨false,dSs (a ++ b)⟩,σ):=by
 obtain ⟨c,h1,h2⟩:=T_orc (S:=S) hS rfl (c:=⟨false,dSs (a ++ b)⟩) (fun a' b' e=>by
  rcases e with e | e
  ·simp only [List.cons.injEq,and_true] at e
   rw [zcy e.1,zhmb e.2]
  ·simp only [List.cons.injEq,and_true] at e
   rw [zcy e.1,zhnb e.2]) (zdkb a b hl)
 rw [h2,h1 a b (.inr rfl)]
def spTm (d:D) (deep:Nat):List D→Cell→Prop:=fun ds c=>∀ (i:Nat) ns,ds=[d,.int .i64 i,dSs ns,.int .i64 deep]→PT ns deep i→∃ co j,c=⟨false,.tup [dCo co,.int .i64 (j:Nat)]⟩∧TmOK ns deep i co j
def TmHas (d:D) (deep:Nat):Prop:=∀ (i:Nat) ns,PT ns deep i→∃ co j,OkP n_7 [d,.int .i64 i,dSs ns,.int .i64 deep] ⟨false,.tup [dCo co,.int .i64 (j:Nat)]⟩∧TmOK ns deep i co j
theorem zgg {S:Specs} {d:D} {deep:Nat} (hS:aget S n_7=some (spTm d deep)) (hT:TmHas d deep) (i:Nat) (ns:List Tx) (hp:PT ns deep i):∃ co j,TmOK ns deep i co j∧∀ n σ,T S (n + 1) n_7 [d,.int .i64 i,dSs ns,.int .i64 deep] σ=some (.ret ⟨false,.tup [dCo co,.int .i64 (j:Nat)]⟩,σ):=by
 obtain ⟨co,j,h1,h2⟩:=hT i ns hp
 obtain ⟨c,h3,h4⟩:=T_orc (S:=S) hS rfl (c:=⟨false,.tup [dCo co,.int .i64 (j:Nat)]⟩) (fun i' ns' e _=>by
  simp only [List.cons.injEq,D.int.injEq,true_and,and_true] at e
  obtain rfl:i=i':=by omega
  obtain rfl:=zcy e.2
  exact ⟨co,j,rfl,h2⟩) h1
 obtain ⟨co',j',rfl,h5⟩:=h3 i ns rfl hp
 exact ⟨co',j',h5,h4⟩
def headM (v:Nat):Hd:=if v / 8 % 3=1 then ⟨2,((v / 24 % 5:Nat):Int) - 2,[],[]⟩ else if v / 8 % 3=2∧v / 24 % 2=1 then ⟨3,0,[],[]⟩ else ⟨1,0,(FL.getD (v % 5) f0).name,[[117],[118]].take (FL.getD (v % 5) f0).arity.toNat⟩
theorem zjbb:∀ f∈FL,zho FL f.name (([[117],[118]]:List Tx).take f.arity.toNat).length=true:=by decide
theorem zj5b (v:Nat):HdOk (headM v)∧(headM v).name.length≤5∧(∀ s∈(headM v).vars,s.length≤5)∧(headM v).vars.length≤2:=by
 unfold headM
 by_cases h1:v / 8 % 3=1
 ·rw [if_pos h1]
  exact ⟨⟨by unfold Small; simp only; omega,rfl,.inr (.inl ⟨rfl,rfl⟩)⟩,by simp,by simp,by simp⟩
 ·rw [if_neg h1]
  by_cases h2:v / 8 % 3=2∧v / 24 % 2=1
  ·rw [if_pos h2]
   exact ⟨⟨zS,rfl,.inr (.inr ⟨rfl,rfl⟩)⟩,by simp,by simp,by simp⟩
  ·rw [if_neg h2]
   have hj:v % 5 < FL.length:=Nat.mod_lt _ (by decide)
   rw [za5 FL _ _ hj]
   have hm:=List.getElem_mem hj
   generalize FL[v % 5]=f at hm
   have h3:=zwr f hm
   have h4:=zjbb f hm
   refine ⟨⟨zS,?_,.inl ⟨rfl,h4⟩⟩,h3.2.2.1,?_,?_⟩
   ·rcases h3.2.2.2 with e | e | e <;> rw [e] <;> rfl
   ·intro s hs
    have:=List.mem_of_mem_take hs
    simp only [List.mem_cons,List.not_mem_nil,or_false] at this
    rcases this with rfl | rfl <;> simp
   ·simp only [List.length_take]; simp; omega
section
variable {C:CallF} {n:Nat} {σ:Store}
def Ecs (d:D) (ns:List Tx) (deep N0:Nat) (al:List (Hd × Co)) (j k:Nat):Env:={slots:=[(0,⟨false,d⟩),(1,⟨false,.int .i64 j⟩),(2,⟨false,dSs ns⟩),(3,⟨false,.int .i64 (deep + 1:Nat)⟩),(10,⟨false,.int .i64 N0⟩),(11,⟨false,dFs FL⟩),(12,⟨ow k,dAl al⟩),(13,⟨false,.int .i64 k⟩)],locs:=[],boxes:=[],defers:=[]}
end
end Go.Fu
namespace Go.Fu
open Go Go.Mx
set_option maxRecDepth 10000
section
variable {C:CallF} {n:Nat} {σ:Store}
set_option maxHeartbeats 8000000 in
theorem zmbb (d:D) (ns:List Tx) (deep N0:Nat) (al:List (Hd × Co)) (j k v j':Nat) (c:Co) (hk:k < N0 % 4) (hN:N0 < 9223372036854775808) (hv:v < 9223372036854775808) (hj:j < 1000000) (hd:deep < 1000) (hal:al.length < 100) (hne:al≠[]→ow k=true)
  (h1:C n_20 [d,.int .i64 j] σ=some (.ret ⟨false,.int .i64 v⟩,σ))
  (h2:C n_16 [dSs ns,dSs (headM v).vars] σ=some (.ret ⟨false,dSs (ns ++ (headM v).vars)⟩,σ))
  (h3:C n_7 [d,.int .i64 (j + 1:Nat),dSs (ns ++ (headM v).vars),.int .i64 deep] σ=some (.ret ⟨false,.tup [dCo c,.int .i64 j']⟩,σ)) :
  exec C n none a_43 (Ecs d ns deep N0 al j k) σ=some (.normal,Ecs d ns deep N0 (al ++ [(headM v,c)]) j' (k + 1),σ):=by
 have tN:((N0:Int)).tmod 4=((N0 % 4:Nat):Int):=tmodN N0 4
 have hlt:((k:Int) < ((N0 % 4:Nat):Int)):=by omega
 have hl5:((FL.length:Nat):Int)=5:=rfl
 have t5:((v:Int)).tmod 5=((v % 5:Nat):Int):=tmodN v 5
 have d8:((v:Int)).tdiv 8=((v / 8:Nat):Int):=tdivN v 8
 have w8:IntKind.i64.wrap ((v / 8:Nat):Int)=((v / 8:Nat):Int):=zc1 (by omega) (by omega)
 have t3:(((v / 8:Nat):Int)).tmod 3=((v / 8 % 3:Nat):Int):=tmodN _ 3
 have d24:((v:Int)).tdiv 24=((v / 24:Nat):Int):=tdivN v 24
 have w24:IntKind.i64.wrap ((v / 24:Nat):Int)=((v / 24:Nat):Int):=zc1 (by omega) (by omega)
 have t2:(((v / 24:Nat):Int)).tmod 2=((v / 24 % 2:Nat):Int):=tmodN _ 2
 have t25:(((v / 24:Nat):Int)).tmod 5=((v / 24 % 5:Nat):Int):=tmodN _ 5
 have w25:IntKind.i64.wrap (((v / 24 % 5:Nat):Int) - 2)=((v / 24 % 5:Nat):Int) - 2:=zc1 (by omega) (by omega)
 have wj:=zak (i:=j) (by omega)
 have wk:=zak (i:=k) (by omega)
 have wd:IntKind.i64.wrap (((deep + 1:Nat):Int) - 1)=(deep:Int):=by rw [zc1 (by omega) (by omega)]; omega
 have hj5:v % 5 < FL.length:=Nat.mod_lt _ (by decide)
 have hx:=idx_F FL (v % 5) hj5
 have hFm:=zwr _ (List.getElem_mem hj5)
 have hgd:=za5 FL (v % 5) f0 hj5
 have ha:=appA1 al (headM v,c) (ow k) hne (by omega)
 have hdA:=dA_eq (headM v,c)
 rw [hdA] at ha
 unfold headM at h2 h3 ha ⊢
 rw [hgd] at h2 h3 ha ⊢
 generalize FL[v % 5]=f at hx hFm h2 h3 ha
 have hq:v / 8 % 3=0∨v / 8 % 3=1∨v / 8 % 3=2:=by omega
 have hp:v / 24 % 2=0∨v / 24 % 2=1:=by omega
 have ap0:za4 k_0 16 ⟨false,.nils⟩ []=some ⟨true,.nils⟩:=appS0 [] false (by decide)
 have ap1:za4 k_0 16 ⟨false,.nils⟩ [.str [117]]=some ⟨true,.list k_0 [.str [117]]⟩:=appS0 [[117]] false (by decide)
 have ap2:za4 k_0 16 ⟨false,.nils⟩ [.str [117],.str [118]]=some ⟨true,.list k_0 [.str [117],.str [118]]⟩:=appS0 [[117],[118]] false (by decide)
 simp only [dF] at hx
 have p0:Mx.part none [.str f.name,.int .i64 f.tag,.int .i64 f.many,.int .i64 f.arity,.int .i64 0,.int .i64 0,.str [],.nils] 0=some (.str f.name):=rfl
 have p3:Mx.part none [.str f.name,.int .i64 f.tag,.int .i64 f.many,.int .i64 f.arity,.int .i64 0,.int .i64 0,.str [],.nils] 3=some (.int .i64 f.arity):=rfl
 simp only [za1,zdh] at h3 ha
 have s0:zew 1 (.list k_0 [.str [117],.str [118]]) 0 (some 0)=some (.list k_0 []):=rfl
 have s1:zew 1 (.list k_0 [.str [117],.str [118]]) 0 (some 1)=some (.list k_0 [.str [117]]):=rfl
 have s2:zew 1 (.list k_0 [.str [117],.str [118]]) 0 (some 2)=some (.list k_0 [.str [117],.str [118]]):=rfl
 have tk1:([[117],[118]]:List Tx).take (1:Int).toNat=[[117]]:=rfl
 have tk2:([[117],[118]]:List Tx).take (2:Int).toNat=[[117],[118]]:=rfl
 have tk0:([[117],[118]]:List Tx).take (0:Int).toNat=[]:=rfl
 have en0:dSs []=.nils:=rfl
 have en1:dSs [[117]]=.list k_0 [.str [117]]:=rfl
 have en2:dSs [[117],[118]]=.list k_0 [.str [117],.str [118]]:=rfl
 have b01:(((0:Nat):Int) == 1)=false:=rfl
 have b02:(((0:Nat):Int) == 2)=false:=rfl
 have b11:(((1:Nat):Int) == 1)=true:=rfl
 have b12:(((1:Nat):Int) == 2)=false:=rfl
 have b21:(((2:Nat):Int) == 1)=false:=rfl
 have b22:(((2:Nat):Int) == 2)=true:=rfl
 rcases hq with q | q | q
 ·rw [if_neg (by omega),if_neg (by omega)] at h2 h3 ha ⊢
  simp only at h2 h3 ha ⊢
  rcases hFm.2.2.2 with e | e | e
  all_goals
   rw [e] at hx p0 p3 h2 h3 ha
   simp only [e,tk0,tk1,tk2,en0,en1,en2,List.append_nil] at h2 h3 ha ⊢
   simp only [a_43,Ecs,sA,seval,kn,tN,hlt,h1,len_F,hl5,t5,natI,nat0,nat1,nat2,hx,p0,p3,s0,s1,s2,ap0,ap1,ap2,d8,w8,t3,q,b01,b02,wj,wd,h2,h3,ha,wk,onel,okl,celll,zcp,zey,zdx]
 ·rw [if_pos q] at h2 h3 ha ⊢
  simp only at h2 h3 ha ⊢
  rcases hFm.2.2.2 with e | e | e
  all_goals
   rw [e] at hx p0 p3
   simp only [en0,zeroI,List.append_nil] at h2 h3 ha ⊢
   simp only [a_43,Ecs,sA,seval,kn,tN,hlt,h1,len_F,hl5,t5,natI,nat0,nat1,nat2,hx,p0,p3,s0,s1,s2,ap0,ap1,ap2,d8,w8,t3,d24,w24,t25,w25,t2,q,b11,b12,wj,wd,h2,h3,ha,wk,onel,okl,celll,zcp,zey,zdx]
 ·rw [if_neg (by omega)] at h2 h3 ha ⊢
  rcases hp with p | p
  ·rw [if_neg (by omega)] at h2 h3 ha ⊢
   simp only at h2 h3 ha ⊢
   rcases hFm.2.2.2 with e | e | e
   all_goals
    rw [e] at hx p0 p3 h2 h3 ha
    simp only [e,tk0,tk1,tk2,en0,en1,en2,List.append_nil] at h2 h3 ha ⊢
    simp only [a_43,Ecs,sA,seval,kn,tN,hlt,h1,len_F,hl5,t5,natI,nat0,nat1,nat2,hx,p0,p3,s0,s1,s2,ap0,ap1,ap2,d8,w8,t3,d24,w24,t2,q,p,b21,b22,b01,wj,wd,h2,h3,ha,wk,onel,okl,celll,zcp,zey,zdx]
  ·rw [if_pos ⟨q,p⟩] at h2 h3 ha ⊢
   simp only at h2 h3 ha ⊢
   rcases hFm.2.2.2 with e | e | e
   all_goals
    rw [e] at hx p0 p3
    simp only [en0,zeroI,List.append_nil] at h2 h3 ha ⊢
    simp only [a_43,Ecs,sA,seval,kn,tN,hlt,h1,len_F,hl5,t5,natI,nat0,nat1,nat2,hx,p0,p3,s0,s1,s2,ap0,ap1,ap2,d8,w8,t3,d24,w24,t25,w25,t2,q,p,b11,b21,b22,wj,wd,h2,h3,ha,wk,onel,okl,celll,zcp,zey,zdx]
end
end Go.Fu
namespace Go.Fu
open Go Go.Mx
set_option maxRecDepth 10000
section
variable {C:CallF} {n:Nat} {σ:Store}
theorem zoyb (d:D) (ns:List Tx) (deep N0:Nat) (al:List (Hd × Co)) (j:Nat):exec C n none a_43 (Ecs d ns deep N0 al j (N0 % 4)) σ=some (.exit 0,{Ecs d ns deep N0 al j (N0 % 4) with slots:=[(0,⟨false,d⟩),(1,⟨false,.int .i64 j⟩),(2,⟨false,dSs ns⟩),(3,⟨false,.int .i64 (deep + 1:Nat)⟩),(10,⟨false,.int .i64 N0⟩),(11,⟨false,dFs FL⟩),(12,⟨ow (N0 % 4),dAl al⟩),(13,⟨false,.int .i64 (N0 % 4:Nat)⟩),(28,⟨false,.bool false⟩)]},σ):=by
 have tN:((N0:Int)).tmod 4=((N0 % 4:Nat):Int):=tmodN N0 4
 have hlt:¬ (((N0 % 4:Nat):Int) < ((N0 % 4:Nat):Int)):=by omega
 simp only [a_43,Ecs,sA,seval,kn,tN,hlt]
end
theorem zhyb (l:List (Hd × Co)):noPtr (dAl l)=true:=by rw [dAl,zdg]; exact zc6 zklb l
def AlP (ns:List Tx) (deep:Nat) (al:List (Hd × Co)):Prop:=∀ a∈al,HdOk a.1∧a.1.name.length≤5∧(∀ s∈a.1.vars,s.length≤5)∧Good (ns ++ a.1.vars) a.2∧Shp 5 a.2∧hgt a.2≤deep + 1
def AlOK (ns:List Tx) (deep i:Nat) (al:List (Hd × Co)) (j:Nat):Prop:=AlP ns deep al∧szA al≤3 * (szT deep + 3)∧j≤i + 1 + 3 * (1 + szN deep)
def SCa (d:D) (xs:List Int) (deep:Nat):Specs:=[(n_20,ztd d xs),(n_27,zhg),(n_16,zp0),(n_7,spTm d deep)]
theorem zk4 {d:D} {xs:List Int} (hR:IR d xs) {deep:Nat} (hT:TmHas d deep) (hd:deep < 1000) (i:Nat) (ns:List Tx) (h0:ns≠[]) (hl:ns.length + 2 * (deep + 1)≤100) (h5:∀ s∈ns,s.length≤5) (hi:i + 1 + 3 * (1 + szN deep)≤1000000) :
  ∃ al j,OkP n_124 [d,.int .i64 i,dSs ns,.int .i64 (deep + 1:Nat)] ⟨false,.tup [dAl al,.int .i64 (j:Nat)]⟩∧AlOK ns deep i al j:=by
 have hp:=zd8 (S:=SCa d xs deep) rfl hR i (by omega) 0 σ0
 have hF:=zlj (S:=SCa d xs deep) rfl 0 σ0
 have hv:=zgb hR.small i
 generalize pickM xs i=N0 at hp hv
 have hN4:N0 % 4 < 4:=Nat.mod_lt _ (by decide)
 obtain ⟨r,hr,al,j,rfl,q1,q2,q3,q4⟩:=zg9 (body:=exec (T (SCa d xs deep) 1) 5 none a_43)
  (fun k e σ=>σ=σ0∧∃ al j,e=Ecs d ns deep N0 al j k∧AlP ns deep al∧al.length=k∧szA al≤k * (szT deep + 3)∧j≤i + 1 + k * (1 + szN deep))
  (fun r=>∃ al j,r=(.exit 0,{Ecs d ns deep N0 al j (N0 % 4) with slots:=[(0,⟨false,d⟩),(1,⟨false,.int .i64 j⟩),(2,⟨false,dSs ns⟩),(3,⟨false,.int .i64 (deep + 1:Nat)⟩),(10,⟨false,.int .i64 N0⟩),(11,⟨false,dFs FL⟩),(12,⟨ow (N0 % 4),dAl al⟩),(13,⟨false,.int .i64 (N0 % 4:Nat)⟩),(28,⟨false,.bool false⟩)]},σ0)∧AlP ns deep al∧al.length=N0 % 4∧szA al≤(N0 % 4) * (szT deep + 3)∧j≤i + 1 + (N0 % 4) * (1 + szN deep)) (N0 % 4)
  (fun k e σ hk ⟨hσ,al,j,he,p1,p2,p3,p4⟩=>by
   subst hσ he
   have hkm:(k + 1) * (1 + szN deep)≤3 * (1 + szN deep):=Nat.mul_le_mul_right _ (by omega)
   rw [Nat.succ_mul] at hkm
   have h1:=zd8 (S:=SCa d xs deep) rfl hR j (by omega) 0 σ0
   have hv1:=zgb hR.small j
   generalize pickM xs j=v at h1 hv1
   obtain ⟨g1,g2,g3,g4⟩:=zj5b v
   have h2:=zdnb (S:=SCa d xs deep) rfl ns (headM v).vars (by omega) 0 σ0
   obtain ⟨c,j',⟨t1,t2,t3,t4,t5⟩,h3⟩:=zgg (S:=SCa d xs deep) rfl hT (j + 1) (ns ++ (headM v).vars) ⟨by simp [h0],by rw [List.length_append]; omega,fun s hs=>by
    rcases List.mem_append.1 hs with h | h
    ·exact h5 s h
    ·exact g3 s h,by omega⟩
   refine ⟨_,_,zmbb d ns deep N0 al j k v j' c hk hv hv1 (by omega) hd (by omega) (fun h=>?_) h1 h2 (h3 0 σ0),rfl,_,_,rfl,fun a ha=>?_,by simp; omega,?_,?_⟩
   ·cases k with
    | zero=>exact absurd (List.length_eq_zero_iff.1 p2) h
    | succ k=>rfl
   ·rcases List.mem_append.1 ha with h | h
    ·exact p1 a h
    ·rw [List.mem_singleton.1 h]
     exact ⟨g1,g2,g3,t1,t2,t4⟩
   ·rw [zfkb,Nat.succ_mul]
    simp only [szA]
    omega
   ·rw [Nat.succ_mul]; omega)
  (fun e σ ⟨hσ,al,j,he,p1,p2,p3,p4⟩=>by
   subst hσ he
   exact ⟨_,zoyb d ns deep N0 al j,fun _ _ h=>(by cases h),al,j,rfl,p1,p2,p3,p4⟩) 0 5 (Ecs d ns deep N0 [] (i + 1) 0) σ0 (by omega) (by omega)
  ⟨rfl,_,_,rfl,(fun a h=>by cases h),rfl,by simp [szA],by omega⟩
 have hm1:(N0 % 4) * (szT deep + 3)≤3 * (szT deep + 3):=Nat.mul_le_mul_right _ (by omega)
 have hm2:(N0 % 4) * (1 + szN deep)≤3 * (1 + szN deep):=Nat.mul_le_mul_right _ (by omega)
 refine ⟨al,j,zbv (af:=a_163) (n:=5) (σ':=σ0) (zb5 (SCa d xs deep) 1) rfl rfl (by simp [zam,hR.np,noPtr,za6]) (by simp [noPtr,zam,zhyb]) ?_,q1,by omega,by omega⟩
 have wi:=zak (i:=i) (by omega)
 have e0:ow 0=false:=rfl
 have e1:dAl []=.nils:=rfl
 simp only [Ecs,zeroI,e0,e1] at hr
 simp only [a_163,sA,seval,kn,hp,hF,wi,hr]
end Go.Fu
namespace Go.Fu
open Go Go.Mx
set_option maxRecDepth 10000
def spLf:List D→Cell→Prop:=fun ds c=>∀ (v:Nat) ns,ds=[.int .i64 v,dSs ns]→∃ co,c=⟨false,dCo co⟩∧Good ns co∧Shp 5 co∧co.size=1∧hgt co=1
theorem zl3b {S:Specs} (hS:aget S n_106=some spLf) (v:Nat) (hv:v < 9223372036854775808) (ns:List Tx) (h0:ns≠[]) (hn:ns.length < 1000) (h5:∀ s∈ns,s.length≤5):∃ co,(Good ns co∧Shp 5 co∧co.size=1∧hgt co=1)∧∀ n σ,T S (n + 1) n_106 [.int .i64 v,dSs ns] σ=some (.ret ⟨false,dCo co⟩,σ):=by
 obtain ⟨co,h1,h2⟩:=zm7b v hv ns h0 hn h5
 obtain ⟨c,h3,h4⟩:=T_orc (S:=S) hS rfl (c:=⟨false,dCo co⟩) (fun v' ns' e=>by
  simp only [List.cons.injEq,D.int.injEq,true_and,and_true] at e
  obtain rfl:=zcy e.2
  exact ⟨co,rfl,h2⟩) h1
 obtain ⟨co',rfl,h5⟩:=h3 v ns rfl
 exact ⟨co',h5,h4⟩
def spCa (d:D) (deep:Nat):List D→Cell→Prop:=fun ds c=>∀ (i:Nat) ns,ds=[d,.int .i64 i,dSs ns,.int .i64 (deep + 1:Nat)]→∃ al j,c=⟨false,.tup [dAl al,.int .i64 (j:Nat)]⟩∧AlOK ns deep i al j
theorem zl2b {S:Specs} {d:D} {xs:List Int} {deep:Nat} (hS:aget S n_124=some (spCa d deep)) (hR:IR d xs) (hT:TmHas d deep) (hd:deep < 1000) (i:Nat) (ns:List Tx) (h0:ns≠[]) (hl:ns.length + 2 * (deep + 1)≤100) (h5:∀ s∈ns,s.length≤5) (hi:i + 1 + 3 * (1 + szN deep)≤1000000) :
  ∃ al j,AlOK ns deep i al j∧∀ n σ,T S (n + 1) n_124 [d,.int .i64 i,dSs ns,.int .i64 (deep + 1:Nat)] σ=some (.ret ⟨false,.tup [dAl al,.int .i64 (j:Nat)]⟩,σ):=by
 obtain ⟨al,j,h1,h2⟩:=zk4 hR hT hd i ns h0 hl h5 hi
 obtain ⟨c,h3,h4⟩:=T_orc (S:=S) hS rfl (c:=⟨false,.tup [dAl al,.int .i64 (j:Nat)]⟩) (fun i' ns' e=>by
  simp only [List.cons.injEq,D.int.injEq,true_and,and_true] at e
  obtain rfl:i=i':=by omega
  obtain rfl:=zcy e.2
  exact ⟨al,j,rfl,h2⟩) h1
 obtain ⟨al',j',rfl,h5⟩:=h3 i ns rfl
 exact ⟨al',j',h5,h4⟩
def STm (d:D) (xs:List Int) (deep:Nat):Specs:=[(n_20,ztd d xs),(n_106,spLf),(n_16,zp0),(n_7,spTm d deep),(n_124,spCa d deep)]
theorem zobb:∀ d,1≤szT d
 | 0=>by simp [szT]
 | d + 1=>by simp only [szT]; omega
theorem zoab:∀ d,1≤szN d
 | 0=>by simp [szN]
 | d + 1=>by simp only [szN]; omega
theorem zddb {d:D} {xs:List Int} (hR:IR d xs) (deep i:Nat) (ns:List Tx) (hp:PT ns deep i) (hc:deep=0∨pickM xs i % 8 < 2) (hd:deep < 1000) :
  ∃ co j,OkP n_7 [d,.int .i64 i,dSs ns,.int .i64 deep] ⟨false,.tup [dCo co,.int .i64 (j:Nat)]⟩∧TmOK ns deep i co j:=by
 obtain ⟨h0,hl,h5,hi⟩:=hp
 have h1:=zd8 (S:=STm d xs 0) rfl hR i (by omega) 0 σ0
 have hv:=zgb hR.small i
 generalize pickM xs i=v at h1 hv hc
 obtain ⟨co,⟨g1,g2,g3,g4⟩,h2⟩:=zl3b (S:=STm d xs 0) rfl (v / 8) (by omega) ns h0 (by omega) h5
 have h2:=h2 0 σ0
 have d8:((v:Int)).tdiv 8=((v / 8:Nat):Int):=tdivN v 8
 have w8:IntKind.i64.wrap ((v / 8:Nat):Int)=((v / 8:Nat):Int):=zc1 (by omega) (by omega)
 have t8:((v:Int)).tmod 8=((v % 8:Nat):Int):=tmodN v 8
 have wi:=zak (i:=i) (by omega)
 have hN:=zoab deep
 have hT:=zobb deep
 refine ⟨co,i + 1,zbv (af:=a_22) (n:=1) (σ':=σ0) (zb5 (STm d xs 0) 1) rfl rfl (by simp [zam,hR.np,noPtr,za6]) (by simp [noPtr,zam,zcv]) ?_,g1,g2,by omega,by omega,by omega⟩
 simp only [za1,zdh] at h2 ⊢
 by_cases hd0:deep=0
 ·subst hd0
  have hle:(((0:Nat):Int)≤0):=by omega
  simp only [a_22,sA,seval,kn,h1,wi,hle,d8,w8,h2,onel,okl,celll]
 ·have hle:¬ ((deep:Int)≤0):=by omega
  have hlt:(((v % 8:Nat):Int) < 2):=by omega
  simp only [a_22,sA,seval,kn,h1,wi,hle,t8,hlt,d8,w8,h2,onel,okl,celll]
end Go.Fu
namespace Go.Fu
open Go Go.Mx
set_option maxRecDepth 10000
set_option maxHeartbeats 4000000
theorem zhgb {m:Nat}:∀ l:List (Tx × Co),(∀ x∈l,hgt x.2≤m)→hgB l≤m
 | [],_=>by simp [hgB]
 | (s,y) :: r,h=>by
  have h1:=h (s,y) (by simp)
  have h2:=zhgb r fun x hx=>h x (List.mem_cons_of_mem _ hx)
  simp only [hgB] at h1 ⊢
  omega
theorem zhfb {m:Nat}:∀ l:List (Hd × Co),(∀ x∈l,hgt x.2≤m)→hgA l≤m
 | [],_=>by simp [hgA]
 | (s,y) :: r,h=>by
  have h1:=h (s,y) (by simp)
  have h2:=zhfb r fun x hx=>h x (List.mem_cons_of_mem _ hx)
  simp only [hgA] at h1 ⊢
  omega
theorem ziz {D:Nat} (h:D < 1000):IntKind.i64.wrap (((D + 1:Nat):Int) - 1)=(D:Int):=by rw [zc1 (by omega) (by omega)]; omega
theorem tm_mk {d:D} {xs:List Int} (hR:IR d xs) {D i j:Nat} {ns:List Tx} {co:Co} {o:Bool} (hr:finX Ra (fun _ _ _=>none) a_22 0 (exec (T (STm d xs D) 1) 5 none a_22.body (zb1 [d,.int .i64 i,dSs ns,.int .i64 (D + 1:Nat)]) σ0)=some (.ret ⟨o,.tup [dCo co,.int .i64 j]⟩,σ0)) :
  OkP n_7 [d,.int .i64 i,dSs ns,.int .i64 (D + 1:Nat)] ⟨false,.tup [dCo co,.int .i64 (j:Nat)]⟩ :=
 OkP.weak (o:=o) rfl (zbv (af:=a_22) (n:=5) (σ':=σ0) (zb5 (STm d xs D) 1) rfl rfl (by simp [zam,hR.np,noPtr,za6]) (by simp [noPtr,zam,zcv]) hr)
theorem zodb {d:D} {xs:List Int} (hR:IR d xs) (D i:Nat) (ns:List Tx) (hp:PT ns (D + 1) i) (hc:pickM xs i % 8=5) (hd:D < 1000) :
  ∃ co j,OkP n_7 [d,.int .i64 i,dSs ns,.int .i64 (D + 1:Nat)] ⟨false,.tup [dCo co,.int .i64 (j:Nat)]⟩∧TmOK ns (D + 1) i co j:=by
 obtain ⟨h0,hl,h5,hi⟩:=hp
 have h1:=zd8 (S:=STm d xs D) rfl hR i (by omega) 0 σ0
 have hv:=zgb hR.small i
 generalize pickM xs i=v at h1 hv hc
 have t8:((v:Int)).tmod 8=5:=by rw [show ((v:Int)).tmod 8=((v % 8:Nat):Int) from tmodN v 8,hc]; rfl
 have wi:=zak (i:=i) (by omega)
 have hle:¬ (((D + 1:Nat):Int)≤0):=by omega
 refine ⟨.mk 11 0 [] [] [] [],i + 1,tm_mk hR (o:=false) ?_,.fail,.leaf (.inr (.inr (.inr rfl))) zS (by simp),by simp only [Co.size,szK,szB,szA,szT]; omega,by simp [hgt,hgK,hgB,hgA],by simp only [szN]; omega⟩
 simp only [a_22,sA,seval,kn,h1,wi,hle,t8,za1,zdh,co]
 rfl
theorem zp8b {d:D} {xs:List Int} (hR:IR d xs) (D i:Nat) (hT:TmHas d D) (ns:List Tx) (hp:PT ns (D + 1) i) (hc:pickM xs i % 8=6∨pickM xs i % 8=7) (hd:D < 1000) :
  ∃ co j,OkP n_7 [d,.int .i64 i,dSs ns,.int .i64 (D + 1:Nat)] ⟨false,.tup [dCo co,.int .i64 (j:Nat)]⟩∧TmOK ns (D + 1) i co j:=by
 obtain ⟨h0,hl,h5,hi⟩:=hp
 simp only [szN] at hi
 have h1:=zd8 (S:=STm d xs D) rfl hR i (by omega) 0 σ0
 have hv:=zgb hR.small i
 generalize pickM xs i=v at h1 hv hc
 have wi:=zak (i:=i) (by omega)
 have wd:=ziz hd
 have hle:¬ (((D + 1:Nat):Int)≤0):=by omega
 obtain ⟨a,j1,⟨a1,a2,a3,a4,a5⟩,h2⟩:=zgg (S:=STm d xs D) rfl hT (i + 1) ns ⟨h0,by omega,h5,by omega⟩
 obtain ⟨b,j2,⟨b1,b2,b3,b4,b5⟩,h3⟩:=zgg (S:=STm d xs D) rfl hT j1 ns ⟨h0,by omega,h5,by omega⟩
 have h2:=h2 0 σ0
 have h3:=h3 0 σ0
 have hsz:(Co.mk 4 0 [] [a,b] [] []).size=1 + a.size + b.size:=by simp only [Co.size,szK,szB,szA]; omega
 refine ⟨.mk 4 0 [] [a,b] [] [],j2,tm_mk hR (o:=false) ?_,.app a1 b1,.app (by simp) a2 b2,by rw [hsz]; simp only [szT]; omega,by simp only [hgt,hgK,hgB,hgA]; omega,by simp only [szN]; omega⟩
 have eC:dCs [a,b]=.list k_2 [dCo a,dCo b]:=rfl
 rcases hc with hc | hc
 ·have t8:((v:Int)).tmod 8=6:=by rw [show ((v:Int)).tmod 8=((v % 8:Nat):Int) from tmodN v 8,hc]; rfl
  rw [za1 (.mk 4 0 [] [a,b] [] []),zdh]
  simp only [co,eC]
  simp only [za1,zdh] at h2 h3 ⊢
  simp only [a_22,sA,seval,kn,h1,wi,wd,hle,t8,h2,h3,onel,okl,celll]
  rfl
 ·have t8:((v:Int)).tmod 8=7:=by rw [show ((v:Int)).tmod 8=((v % 8:Nat):Int) from tmodN v 8,hc]; rfl
  rw [za1 (.mk 4 0 [] [a,b] [] []),zdh]
  simp only [co,eC]
  simp only [za1,zdh] at h2 h3 ⊢
  simp only [a_22,sA,seval,kn,h1,wi,wd,hle,t8,h2,h3,onel,okl,celll]
  rfl
end Go.Fu
