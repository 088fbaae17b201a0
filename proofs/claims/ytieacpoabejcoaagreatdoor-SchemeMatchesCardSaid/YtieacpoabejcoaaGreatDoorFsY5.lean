/-
 More general: all of it.
-/
import Derived.Test.YtieacpoabejcoaaGreatDoorFsR1
import Derived.Test.YtieacpoabejcoaaGreatDoorFsH4
import Derived.Test.YtieacpoabejcoaaGreatDoorFsD2
set_option maxHeartbeats 4000000
set_option linter.unusedSimpArgs false
set_option linter.unusedVariables false
set_option linter.unusedSectionVars false
namespace Go.Fu
open Go Go.Mx
set_option maxRecDepth 10000
set_option maxHeartbeats 4000000
theorem Bel.g {m:Nat} {a b:Store} (h:Bel m a b) (hn:a.next≤m):G m a b:=⟨Nat.le_trans hn h.le,fun j hj _=>h.objs j hj,h.tys,h.oth⟩
def dSc (vs:List Tx) (kd:D) (ps:List Pr) (t:Tp):D:=.agg (dSs vs :: kd :: dPs ps :: cT t)
def apV (c:UInt8) (vs:List Tx) (t:Tp):Tp:=subT vs (apT c vs.length) t
def apP (c:UInt8) (vs:List Tx) (ps:List Pr):List Pr:=ps.map (putP vs (apT c vs.length))
def genM (vs ws:List Tx) (t u:Tp):Bool × List (Option Tp):=matchM (apN 64 vs.length) (apV 64 vs t) (apV 37 ws u) (List.replicate vs.length none)
def genP (vs ws:List Tx) (ps:List Pr) (t u:Tp):List Pr:=(apP 64 vs ps).map (putP (apN 64 vs.length) (fillM (apT 64 vs.length) (genM vs ws t u).2))
def fnG1 (a c:Nat):D:=.fn (.func n_248) [] [.ptr a 0,.ptr c 0]
theorem General_run {R:Nat→Store→Prop} {Pb:Bool→Prop} (vs ws:List Tx) (kd kd':D) (hk:kd.one=true) (hk':kd'.one=true) (ps qs:List Pr) (t u:Tp) (hv:vs.length < 6) (hw:ws.length < 6) (hps:ps.length < 1000) (hqs:qs.length < 1000)
  (hC:Evly fun n=>∀ p σ0,R p σ0→∀ a c σ,aget σ.objs a=some [⟨false,.ptr p 0⟩]→aget σ.objs c=some [⟨false,dPs (apP 37 ws qs)⟩]→G σ0.next σ0 σ→∃ b σ',Pb b∧T n n_193 [dPs (genP vs ws ps t u),fnG1 a c] σ=some (.ret ⟨false,.bool b⟩,σ')) :
  Evly fun n=>∀ p σ,R p σ→∃ σ',((genM vs ws t u).1=false∧T n n_125 [.ptr p 0,dSc vs kd ps t,dSc ws kd' qs u] σ=some (.ret ⟨false,.bool false⟩,σ'))∨((genM vs ws t u).1=true∧∃ b,Pb b∧T n n_125 [.ptr p 0,dSc vs kd ps t,dSc ws kd' qs u] σ=some (.ret ⟨false,.bool !b⟩,σ')):=by
 have hlen:(genM vs ws t u).2.length=vs.length:=by unfold genM; rw [matchM_len]; simp
 have hfl:(fillM (apT 64 vs.length) (genM vs ws t u).2).length=(apN 64 vs.length).length:=by rw [fill_len,hlen,apN_len]
 have hput1:=put_run (dSs vs) kd ps t vs (apT 64 vs.length) (by omega) (by omega) (apT_len _ _)
 have hput2:=put_run (dSs ws) kd' qs u ws (apT 37 ws.length) (by omega) (by omega) (apT_len _ _)
 have hput3:=putG .nils .nils (apP 64 vs ps) (apV 64 vs t) (apN 64 vs.length) (fillM (apT 64 vs.length) (genM vs ws t u).2) (by simp [apP]; omega) (by rw [apN_len]; omega) hfl _ (bys_list _)
 have hmatch:=Match_run (apN 64 vs.length) (by rw [apN_len]; omega) (apV 64 vs t) (apV 37 ws u)
 refine ((((apart_run.and hput1).and (hput2.and hput3)).and hmatch).and hC).step 100 fun m hm h p σ hR=>?_
 obtain ⟨⟨⟨⟨g1,g2⟩,g3,g4⟩,g5⟩,g6⟩:=h
 have oP:∀ l:List Pr,(dPs l).one=true:=one_dPs
 have oK:∀ l:List Pr,(dPs l).ok=true:=fun _=>ok_dlist
 have oL:∀ l:List Pr,(dPs l).cells=[dPs l]:=fun _=>cells_dlist
 have oT:∀ l:List Tp,(dTs l).one=true:=fun _=>one_dlist
 have oS:∀ l:List Tx,(dSs l).one=true:=one_dSs
 generalize hs1:({objs:=(σ.next,[⟨false,.ptr p 0⟩]) :: σ.objs,tys:=(σ.next,⟨t_102,0⟩) :: σ.tys,oth:=σ.oth,next:=σ.next + 1}:Store)=σ1
 have n1:σ1.next=σ.next + 1:=by rw [← hs1]
 generalize hs2:({objs:=(σ1.next,[⟨false,dPs (apP 37 ws qs)⟩]) :: σ1.objs,tys:=(σ1.next,⟨t_259,0⟩) :: σ1.tys,oth:=σ1.oth,next:=σ1.next + 1}:Store)=σ2
 have n2:σ2.next=σ.next + 2:=by rw [← hs2]; show σ1.next + 1=_; omega
 have oa:aget σ2.objs σ.next=some [⟨false,.ptr p 0⟩]:=by
  rw [← hs2]
  refine (agC _ _ (by omega)).trans ?_
  rw [← hs1]
  exact agS _ _ _
 have oc:aget σ2.objs (σ.next + 1)=some [⟨false,dPs (apP 37 ws qs)⟩]:=by
  rw [← hs2,← n1]
  exact agS _ _ _
 have hG2:G σ.next σ σ2:=by
  refine ⟨by omega,fun j hj _=>?_,fun j hj=>?_,fun j hj=>?_⟩
  ·rw [← hs2]
   refine (agC _ _ (by omega)).trans ?_
   rw [← hs1]
   exact agC _ _ (by omega)
  ·rw [← hs2]
   refine (agC _ _ (by omega)).trans ?_
   rw [← hs1]
   exact agC _ _ (by omega)
  ·rw [← hs2]
   show aget σ1.oth j=_
   rw [← hs1]
 have a1:=g1 64 vs.length σ1 hv
 have a2:=g1 37 ws.length σ1 hw
 have p1:=g2 σ1
 have p2:=g3 σ1
 obtain ⟨σ3,hb3,hmt⟩:=g5 σ2
 have hlv:lenOf (dSs vs)=some vs.length:=by simp only [dSs,lenOf_dlist,List.length_map]
 have hlw:lenOf (dSs ws)=some ws.length:=by simp only [dSs,lenOf_dlist,List.length_map]
 have e1:subT vs (apT 64 vs.length) t=apV 64 vs t:=rfl
 have e2:subT ws (apT 37 ws.length) u=apV 37 ws u:=rfl
 have e3:ps.map (putP vs (apT 64 vs.length))=apP 64 vs ps:=rfl
 have e4:qs.map (putP ws (apT 37 ws.length))=apP 37 ws qs:=rfl
 have hrep:(apN 64 vs.length).length=vs.length:=apN_len _ _
 rw [hrep] at hmt
 change ((genM vs ws t u).1=false∧_)∨((genM vs ws t u).1=true∧_∧aget σ3.objs σ2.next=some (oC (genM vs ws t u).2)) at hmt
 rw [e1,e3] at p1
 rw [e2,e4] at p2
 rcases hmt with ⟨m1,m2⟩ | ⟨m1,m2,m3⟩
 ·refine ⟨σ3,.inl ⟨m1,?_⟩⟩
  generalize apP 64 vs ps=P1 at *
  generalize apP 37 ws qs=Q1 at *
  generalize hT1:apV 64 vs t=t1 at *
  generalize hU1:apV 37 ws u=u1 at *
  rw [dT_eq t1] at p1 m2
  rw [dT_eq u1] at p2 m2
  simp only [cT] at p1 p2 m2
  simp only [dSc,cT]
  rw [T_fun (af:=a_85) rfl rfl]
  simp only [a_85,sA,Nat.reduceAdd,Nat.reduceSub,Nat.reduceMul,Nat.reduceBEq,Nat.reduceLeDiff,Int.reduceBEq,Int.reduceBNe,Int.reduceLE,Int.reduceLT,Int.reduceGE,Int.reduceGT,Int.reduceNeg,kn,zeroI,lit1,lit2,lit3,lit4,lit5,lit6,lit7,lit8,memE,memOp,hs1,hs2,hk,hk',oP,oK,oL,oT,oS,hlv,hlw,a1,a2,p1,p2,m2]
 ·have hn8:(genM vs ws t u).2.length=(apT 64 vs.length).length:=by rw [hlen,apT_len]
  obtain ⟨σ4,l4,f4⟩:=gl_loop (C:=T m) (N:=m) σ.next σ1.next σ2.next (apT 64 vs.length) (apN 64 vs.length) (dPs (apP 64 vs ps)) (apV 64 vs t) (genM vs ws t u).2 hn8 (by omega) (genM vs ws t u).2.length m 0 σ3 (by omega) (by omega) (by rw [fillO_zero]; exact m3)
  have o4:=f4.obj
  have hoc:oC ((fillM (apT 64 vs.length) (genM vs ws t u).2).map some)=cellsOf ((fillM (apT 64 vs.length) (genM vs ws t u).2).map dT):=by
   unfold oC
   rw [List.map_map]
   congr 1
   refine List.map_congr_left fun x _=>?_
   show dO (some x)=dT x
   rw [dT_eq]
   rfl
  rw [hoc] at o4
  have hfz:=freezeD_row (k:=k_0) (id:=σ2.next) (n:=39) (ds:=(fillM (apT 64 vs.length) (genM vs ws t u).2).map dT) (os:=σ4.objs) (os':=adel1 σ4.objs σ2.next) o4 rfl rfl (fun d hd=>by
   obtain ⟨x,_,rfl⟩:=List.mem_map.1 hd
   exact ⟨cells_dT x,by rw [dT_eq]; rfl⟩) (fun d hd=>by
   obtain ⟨x,_,rfl⟩:=List.mem_map.1 hd
   exact frz_dT x _)
  rw [List.length_map,fill_len,hlen] at hfz
  generalize hs5:({objs:=adel1 σ4.objs σ2.next,tys:=σ4.tys,oth:=σ4.oth,next:=σ4.next}:Store)=σ5
  have b5:Bel σ2.next σ2 σ5:=by
   refine hb3.trans ⟨?_,fun j hj=>?_,fun j hj=>?_,fun j hj=>?_⟩
   ·rw [← hs5]
    show σ2.next≤σ4.next
    rw [f4.next]
    exact hb3.le
   ·rw [← hs5]
    show aget (adel1 σ4.objs σ2.next) j=_
    rw [adel_other _ (by omega),f4.objs j (by omega)]
   ·rw [← hs5]
    show aget σ4.tys j=_
    rw [f4.tys]
   ·rw [← hs5]
    show aget σ4.oth j=_
    rw [f4.oth]
  have p3:=g4 σ5
  obtain ⟨b,σ6,hb,c6⟩:=g6 p σ hR σ.next σ1.next σ5 ((b5.objs _ (by omega)).trans oa) ((b5.objs _ (by omega)).trans (by rw [n1]; exact oc)) (hG2.trans ((b5.g (Nat.le_refl _)).less (by omega)))
  refine ⟨σ6,.inr ⟨m1,b,hb,?_⟩⟩
  have hkp:∀ id n,Cell.keeps ⟨false,.arr k_0 id 0 n⟩=false:=fun _ _=>rfl
  change T m n_26 [.agg (.nils :: .nils :: dPs (apP 64 vs ps) :: cT (apV 64 vs t)),dSs (apN 64 vs.length),.list k_0 ((fillM (apT 64 vs.length) (genM vs ws t u).2).map dT)] σ5=some (.ret ⟨false,.tup [dPs (genP vs ws ps t u),dT (subT (apN 64 vs.length) (fillM (apT 64 vs.length) (genM vs ws t u).2) (apV 64 vs t))]⟩,σ5) at p3
  simp only [hlen] at l4
  generalize (fillM (apT 64 vs.length) (genM vs ws t u).2).map dT=D1 at *
  generalize subT (apN 64 vs.length) (fillM (apT 64 vs.length) (genM vs ws t u).2) (apV 64 vs t)=t3 at *
  generalize genP vs ws ps t u=P3 at *
  generalize apP 64 vs ps=P1 at *
  generalize apP 37 ws qs=Q1 at *
  generalize apV 64 vs t=t1 at *
  generalize apV 37 ws u=u1 at *
  rw [dT_eq t1] at p1 m2
  rw [dT_eq u1] at p2 m2
  rw [dT_eq t3] at p3
  simp only [Egl,bT,zeroI] at l4
  simp only [cT] at p1 p2 m2 p3
  simp only [fnG1] at c6
  simp only [dSc,cT]
  rw [T_fun (af:=a_85) rfl rfl]
  simp only [a_85,sA,Nat.reduceAdd,Nat.reduceSub,Nat.reduceMul,Nat.reduceBEq,Nat.reduceLeDiff,Int.reduceBEq,Int.reduceBNe,Int.reduceLE,Int.reduceLT,Int.reduceGE,Int.reduceGT,Int.reduceNeg,kn,zeroI,lit1,lit2,lit3,lit4,lit5,lit6,lit7,lit8,memE,memOp,hs1,hs2,hk,hk',oP,oK,oL,oT,oS,hlv,hlw,a1,a2,p1,p2,m2,l4,exec_frz,freezes,freeze1,hfz,hkp,hs5,p3,c6]
end Go.Fu
namespace Go.Fu
open Go Go.Mx
set_option maxRecDepth 10000
def vn (i : Nat) : List UInt8 := [118, UInt8.ofNat (48 + i)]
def vnR (k : Nat) : List (List UInt8) := (List.range k).map vn
def vnT (k : Nat) : List Tp := (vnR k).map Tp.var
theorem vnR_len (k : Nat) : (vnR k).length = k := by simp [vnR]
theorem vnT_len (k : Nat) : (vnT k).length = k := by simp [vnT, vnR_len]
theorem vnR_get (k i : Nat) (h : i < (vnR k).length) : (vnR k)[i] = vn i := by simp [vnR]
theorem vnT_get (k i : Nat) (h : i < (vnT k).length) : (vnT k)[i] = .var (vn i) := by simp [vnT, vnR]
theorem rev_get {α : Type} (l : List α) (j : Nat) (h : j < l.reverse.length) : l.reverse[j] = l[l.length - 1 - j]'(by simp at h; omega) := List.getElem_reverse h
section
variable {C : CallF} {n : Nat} {σ : Store}
def yRn (V : List (List UInt8)) (o1 o2 : Bool) (P : D) : List Cell := [⟨o1, dSs V⟩, ⟨false, .nils⟩, ⟨o2, P⟩, ⟨false, .int .i64 0⟩, ⟨false, .int .i64 0⟩, ⟨false, .str []⟩, ⟨false, .nils⟩]
def zRn : List Cell := [⟨false, .nils⟩, ⟨false, .nils⟩, ⟨false, .nils⟩, ⟨false, .int .i64 0⟩, ⟨false, .int .i64 0⟩, ⟨false, .str []⟩, ⟨false, .nils⟩]
def xRn (vs : List (List UInt8)) (kd : D) (ps : List Pr) (t : Tp) : List Cell := ⟨false, dSs vs⟩ :: ⟨false, kd⟩ :: ⟨false, dPs ps⟩ :: bT t
def ER0 (vs : List (List UInt8)) (kd : D) (ps : List Pr) (t : Tp) (j : Nat) : Env := { slots := [(4, ⟨false, .nils⟩), (5, ⟨false, .int .i64 ((vs.length : Int) - 1 - j)⟩)], locs := [(1, 1, 0), (2, 2, 0), (3, 3, 0)], boxes := [(1, xRn vs kd ps t), (2, zRn), (3, yRn ((vnR vs.length).reverse.take j) (ow j) false .nils)], defers := [] }
theorem lR0_step (vs : List (List UInt8)) (kd : D) (ps : List Pr) (t : Tp) (j : Nat) (h : j < vs.length) (hl : vs.length < 6) (hc : ∀ x : Nat, x < 6 → C n_59 [.int .i64 (x : Int)] σ = some (.ret ⟨false, .str [UInt8.ofNat (48 + x)]⟩, σ)) :
    exec C n none a_82 (ER0 vs kd ps t j) σ = some (.normal, ER0 vs kd ps t (j + 1), σ) := by
  have e1 : (vs.length : Int) - 1 - j = ((vs.length - 1 - j : Nat) : Int) := by omega
  have h0 : (((vs.length - 1 - j : Nat) : Int) ≥ 0) := by omega
  have w1 : IntKind.i64.wrap (((vs.length - 1 - j : Nat) : Int) - 1) = (vs.length : Int) - 1 - ((j + 1 : Nat) : Int) := by rw [wrap64 (by omega) (by omega)]; omega
  have hcc := hc (vs.length - 1 - j) (by omega)
  have hj : j < (vnR vs.length).reverse.length := by rw [List.length_reverse, vnR_len]; exact h
  have hg : (vnR vs.length).reverse[j] = vn (vs.length - 1 - j) := by
    rw [rev_get, vnR_get]
    rw [vnR_len]
  have hap := append_S ((vnR vs.length).reverse.take j) (vn (vs.length - 1 - j)) (ow j) ow_ne (by simp; omega)
  rw [← hg, take_snoc _ _ hj, hg] at hap
  simp only [vn] at hap
  have hS : dSs ((vnR vs.length).reverse.take j) = dlist k_1 (((vnR vs.length).reverse.take j).map D.str) := rfl
  have hS1 : dSs ((vnR vs.length).reverse.take (j + 1)) = dlist k_1 (((vnR vs.length).reverse.take (j + 1)).map D.str) := rfl
  simp only [a_82, ER0, yRn, xRn, zRn, bT, sA, Nat.reduceAdd, Nat.reduceSub, Nat.reduceMul, Nat.reduceBEq, Nat.reduceLeDiff, Int.reduceBEq, Int.reduceBNe, Int.reduceLE, Int.reduceLT, Int.reduceGE, Int.reduceGT, Int.reduceNeg, kn, zeroI, lit1, lit2, lit3, lit4, lit5, lit6, lit7, lit8, e1, h0, w1, hcc, hS, hS1, hap, ow_succ]
theorem lR0_end (vs : List (List UInt8)) (kd : D) (ps : List Pr) (t : Tp) : exec C n none a_82 (ER0 vs kd ps t vs.length) σ = some (.exit 0, { ER0 vs kd ps t vs.length with slots := [(4, ⟨false, .nils⟩), (5, ⟨false, .int .i64 (-1)⟩), (15, ⟨false, .bool false⟩)] }, σ) := by
  have e1 : (vs.length : Int) - 1 - (vs.length : Nat) = -1 := by omega
  simp only [a_82, ER0, sA, Nat.reduceAdd, Nat.reduceSub, Nat.reduceMul, Nat.reduceBEq, Nat.reduceLeDiff, Int.reduceBEq, Int.reduceBNe, Int.reduceLE, Int.reduceLT, Int.reduceGE, Int.reduceGT, Int.reduceNeg, kn, zeroI, lit1, lit2, lit3, lit4, lit5, lit6, lit7, lit8, e1]
def ER1 (vs : List (List UInt8)) (kd : D) (ps : List Pr) (t : Tp) (i : Nat) : Env := { slots := [(4, ⟨ow i, dTs ((vnT vs.length).take i)⟩), (6, ⟨false, .int .i64 i⟩)], locs := [(1, 1, 0), (2, 2, 0), (3, 3, 0)], boxes := [(1, xRn vs kd ps t), (2, zRn), (3, yRn (vnR vs.length).reverse (ow vs.length) false .nils)], defers := [] }
theorem lR1_step (vs : List (List UInt8)) (kd : D) (ps : List Pr) (t : Tp) (i : Nat) (h : i < vs.length) (hl : vs.length < 6) (hc : ∀ x : Nat, x < 6 → C n_59 [.int .i64 (x : Int)] σ = some (.ret ⟨false, .str [UInt8.ofNat (48 + x)]⟩, σ)) :
    exec C n none a_83 (ER1 vs kd ps t i) σ = some (.normal, ER1 vs kd ps t (i + 1), σ) := by
  have h0 : ((i : Int) < (vs.length : Int)) := by omega
  have w1 := wrap64_succ (i := i) (by omega)
  have hcc := hc i (by omega)
  have hlv : lenOf (dSs vs) = some vs.length := by simp only [dSs, lenOf_dlist, List.length_map]
  have hi : i < (vnT vs.length).length := by rw [vnT_len]; exact h
  have hap := append_T ((vnT vs.length).take i) (.var (vn i)) (ow i) ow_ne (by simp; omega)
  rw [← vnT_get vs.length i hi, take_snoc _ _ hi, vnT_get] at hap
  simp only [dT, vn] at hap
  have hS : dTs ((vnT vs.length).take i) = dlist k_0 (((vnT vs.length).take i).map dT) := rfl
  have hS1 : dTs ((vnT vs.length).take (i + 1)) = dlist k_0 (((vnT vs.length).take (i + 1)).map dT) := rfl
  simp only [a_83, ER1, yRn, xRn, zRn, bT, sA, Nat.reduceAdd, Nat.reduceSub, Nat.reduceMul, Nat.reduceBEq, Nat.reduceLeDiff, Int.reduceBEq, Int.reduceBNe, Int.reduceLE, Int.reduceLT, Int.reduceGE, Int.reduceGT, Int.reduceNeg, kn, zeroI, lit1, lit2, lit3, lit4, lit5, lit6, lit7, lit8, h0, w1, hcc, hlv, hS, hS1, hap, ow_succ]
theorem lR1_end (vs : List (List UInt8)) (kd : D) (ps : List Pr) (t : Tp) : exec C n none a_83 (ER1 vs kd ps t vs.length) σ = some (.exit 2, { ER1 vs kd ps t vs.length with slots := [(4, ⟨ow vs.length, dTs ((vnT vs.length).take vs.length)⟩), (6, ⟨false, .int .i64 vs.length⟩), (30, ⟨false, .bool false⟩)] }, σ) := by
  have h0 : ¬ ((vs.length : Int) < (vs.length : Int)) := by omega
  have hlv : lenOf (dSs vs) = some vs.length := by simp only [dSs, lenOf_dlist, List.length_map]
  simp only [a_83, ER1, yRn, xRn, zRn, bT, sA, Nat.reduceAdd, Nat.reduceSub, Nat.reduceMul, Nat.reduceBEq, Nat.reduceLeDiff, Int.reduceBEq, Int.reduceBNe, Int.reduceLE, Int.reduceLT, Int.reduceGE, Int.reduceGT, Int.reduceNeg, kn, zeroI, lit1, lit2, lit3, lit4, lit5, lit6, lit7, lit8, h0, hlv]
def ER2 (vs : List (List UInt8)) (kd : D) (ps qs : List Pr) (t : Tp) (o : Bool) (j : Nat) : Env := { slots := [(4, ⟨ow vs.length, dTs (vnT vs.length)⟩), (7, ⟨o, dPs qs⟩), (8, ⟨false, .int .i64 ((qs.length : Int) - 1 - j)⟩)], locs := [(1, 1, 0), (2, 2, 0), (3, 3, 0)], boxes := [(1, xRn vs kd ps t), (2, zRn), (3, yRn (vnR vs.length).reverse (ow vs.length) (ow j) (dPs (qs.reverse.take j)))], defers := [] }
theorem lR2_step (vs : List (List UInt8)) (kd : D) (ps qs : List Pr) (t : Tp) (o : Bool) (j : Nat) (h : j < qs.length) (hl : qs.length < 100) :
    exec C n none a_84 (ER2 vs kd ps qs t o j) σ = some (.normal, ER2 vs kd ps qs t o (j + 1), σ) := by
  have e1 : (qs.length : Int) - 1 - j = ((qs.length - 1 - j : Nat) : Int) := by omega
  have h0 : (((qs.length - 1 - j : Nat) : Int) ≥ 0) := by omega
  have w1 : IntKind.i64.wrap (((qs.length - 1 - j : Nat) : Int) - 1) = (qs.length : Int) - 1 - ((j + 1 : Nat) : Int) := by rw [wrap64 (by omega) (by omega)]; omega
  have hj : j < qs.reverse.length := by rw [List.length_reverse]; exact h
  have hx : indexD 5 (dPs qs) (qs.length - 1 - j) = some (.eptr (dP (qs[qs.length - 1 - j]'(by omega)))) := idx_P qs (qs.length - 1 - j) (by omega)
  rw [← rev_get qs j hj] at hx
  have hap := append_P (qs.reverse.take j) qs.reverse[j] (ow j) ow_ne (by simp; omega)
  rw [take_snoc _ _ hj] at hap
  have hS : dPs (qs.reverse.take j) = dlist k_3 ((qs.reverse.take j).map dP) := rfl
  have hS1 : dPs (qs.reverse.take (j + 1)) = dlist k_3 ((qs.reverse.take (j + 1)).map dP) := rfl
  simp only [dP, cT] at hx hap
  simp only [a_84, ER2, yRn, xRn, zRn, bT, sA, Nat.reduceAdd, Nat.reduceSub, Nat.reduceMul, Nat.reduceBEq, Nat.reduceLeDiff, Int.reduceBEq, Int.reduceBNe, Int.reduceLE, Int.reduceLT, Int.reduceGE, Int.reduceGT, Int.reduceNeg, kn, zeroI, lit1, lit2, lit3, lit4, lit5, lit6, lit7, lit8, Mx.part, dP, cT, e1, h0, w1, hx, hS, hS1, hap, ow_succ]
theorem lR2_end (vs : List (List UInt8)) (kd : D) (ps qs : List Pr) (t : Tp) (o : Bool) : exec C n none a_84 (ER2 vs kd ps qs t o qs.length) σ = some (.exit 4, { ER2 vs kd ps qs t o qs.length with slots := [(4, ⟨ow vs.length, dTs (vnT vs.length)⟩), (7, ⟨o, dPs qs⟩), (8, ⟨false, .int .i64 (-1)⟩), (50, ⟨false, .bool false⟩)] }, σ) := by
  have e1 : (qs.length : Int) - 1 - (qs.length : Nat) = -1 := by omega
  simp only [a_84, ER2, sA, Nat.reduceAdd, Nat.reduceSub, Nat.reduceMul, Nat.reduceBEq, Nat.reduceLeDiff, Int.reduceBEq, Int.reduceBNe, Int.reduceLE, Int.reduceLT, Int.reduceGE, Int.reduceGT, Int.reduceNeg, kn, zeroI, lit1, lit2, lit3, lit4, lit5, lit6, lit7, lit8, e1]
end
def scD (vs : List (List UInt8)) (ps : List Pr) (t : Tp) : D := .agg (dSs vs :: .nils :: dPs ps :: cT t)
theorem renamed_run (vs : List (List UInt8)) (kd : D) (ps : List Pr) (t : Tp) (hl : vs.length < 6) (hp : ps.length < 100) : Evly fun n => ∀ σ, T n n_173 [.agg (dSs vs :: kd :: dPs ps :: cT t)] σ = some (.ret ⟨false, scD (vnR vs.length).reverse (ps.map (putP vs (vnT vs.length))).reverse (subT vs (vnT vs.length) t)⟩, σ) :=
  (decimal_run.and ((Put_run ps vs (vnT vs.length) (by omega) (by omega) (vnT_len _)).and (r04_subst_run vs (vnT vs.length) (by omega) (vnT_len _) t))).step 110 fun m hm h σ => by
  obtain ⟨e1, e2, e3⟩ := h
  have f2 := e2 σ
  have f3 := e3 σ
  have hql : (ps.map (putP vs (vnT vs.length))).length = ps.length := List.length_map _
  have l0 := loopN_run (body := exec (T m) m none a_82) (ER0 vs kd ps t) (fun _ => σ) vs.length (r := _) (fun _ _ h => by cases h) (fun j hj => lR0_step vs kd ps t j hj hl (fun x hx => e1 x σ hx)) (lR0_end vs kd ps t) 0 m (by omega) (by omega)
  have l1 := loopN_run (body := exec (T m) m none a_83) (ER1 vs kd ps t) (fun _ => σ) vs.length (r := _) (fun _ _ h => by cases h) (fun j hj => lR1_step vs kd ps t j hj hl (fun x hx => e1 x σ hx)) (lR1_end vs kd ps t) 0 m (by omega) (by omega)
  generalize hqs : ps.map (putP vs (vnT vs.length)) = qs at *
  have l2 := loopN_run (body := exec (T m) m none a_84) (ER2 vs kd ps qs t (ow ps.length)) (fun _ => σ) qs.length (r := _) (fun _ _ h => by cases h) (fun j hj => lR2_step vs kd ps qs t (ow ps.length) j hj (by omega)) (lR2_end vs kd ps qs t (ow ps.length)) 0 m (by omega) (by omega)
  have ht0 : (vnR vs.length).reverse.take vs.length = (vnR vs.length).reverse := List.take_of_length_le (by rw [List.length_reverse, vnR_len]; omega)
  have ht1 : (vnT vs.length).take vs.length = vnT vs.length := List.take_of_length_le (by rw [vnT_len]; omega)
  have ht2 : qs.reverse.take qs.length = qs.reverse := List.take_of_length_le (by simp)
  have hlv : lenOf (dSs vs) = some vs.length := by simp only [dSs, lenOf_dlist, List.length_map]
  have hlq : lenOf (dPs qs) = some qs.length := by simp only [dPs, lenOf_dlist, List.length_map]
  have w1 : IntKind.i64.wrap ((vs.length : Int) - 1) = (vs.length : Int) - 1 := wrap64 (by omega) (by omega)
  have w2 : IntKind.i64.wrap ((qs.length : Int) - 1) = (qs.length : Int) - 1 := wrap64 (by omega) (by omega)
  have z0 : (vs.length : Int) - 1 - ((0 : Nat) : Int) = (vs.length : Int) - 1 := by omega
  have z2 : (qs.length : Int) - 1 - ((0 : Nat) : Int) = (qs.length : Int) - 1 := by omega
  have zn : dSs [] = .nils := rfl
  have zt : dTs [] = .nils := rfl
  have zp : dPs [] = .nils := rfl
  simp only [ER0, yRn, zRn, xRn, bT, z0, List.take_zero, zn, ow_zero, ht0] at l0
  simp only [ER1, yRn, zRn, xRn, bT, List.take_zero, zt, ow_zero, zeroI, ht1] at l1
  simp only [ER2, yRn, zRn, xRn, bT, z2, List.take_zero, zp, ow_zero, ht2] at l2
  rw [dT_eq t, dT_eq (subT vs (vnT vs.length) t)] at f3
  generalize subT vs (vnT vs.length) t = u at *
  simp only [cT] at f3
  rw [T_fun (af := a_151) rfl rfl]
  simp only [a_151, scD, cT, sA, Nat.reduceAdd, Nat.reduceSub, Nat.reduceMul, Nat.reduceBEq, Nat.reduceLeDiff, Int.reduceBEq, Int.reduceBNe, Int.reduceLE, Int.reduceLT, Int.reduceGE, Int.reduceGT, Int.reduceNeg, kn, zeroI, lit1, lit2, lit3, lit4, lit5, lit6, lit7, lit8, memE, memOp, hlv, hlq, w1, w2, l0, l1, f2, l2, f3]
end Go.Fu
