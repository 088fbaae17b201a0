/-
 Texts that an iterator gives,appended: the round.
-/
import Derived.Test.YtldfbnbckiifeaaGreatDoorFgCm
import Derived.Test.YtldfbnbckiifeaaGreatDoorFgY
import Derived.Test.YtldfbnbckiifeaaGreatDoorFgO
import Derived.Test.YtldfbnbckiifeaaGreatDoorFgDb
set_option maxHeartbeats 4000000
set_option linter.unusedSimpArgs false
set_option linter.unusedVariables false
set_option linter.unusedSectionVars false
namespace Go.Fu
open Go Go.Mx
set_option maxRecDepth 10000
set_option maxHeartbeats 4000000
def Γc:FuncId→Option AFun:=fun f=>ifB (f == Wl) (some iZ) (ifB (f == wG) (some eH) (ifB (f == Gt || f == Gs) none (Γa f)))
theorem Γc_holds:Holds Go.Proofs.Tryz.prog Γc:=by
 intro f af h
 unfold Γc at h
 by_cases e:f=Wl
 ·subst e
  simp only [beq_self_eq_true,aE,Option.some.injEq] at h
  subst h
  exact ⟨rfl,_,rfl,vL⟩
 have e':(f == Wl)=false:=by simpa using e
 rw [e',aG] at h
 by_cases e2:f=wG
 ·subst e2
  simp only [beq_self_eq_true,aE,Option.some.injEq] at h
  subst h
  exact ⟨rfl,_,rfl,zQ⟩
 have e2':(f == wG)=false:=by simpa using e2
 rw [e2',aG] at h
 obtain ⟨h3,h4⟩:(f == Gt || f == Gs)=false∧Γa f=some af:=by
  cases hb:(f == Gt || f == Gs) with
  | true=>rw [hb,aE] at h; cases h
  | false=>rw [hb,aG] at h; exact ⟨rfl,h⟩
 exact Γa_holds f af h4
def Xc:aM:=fun f ds σ=>ifB (f == Gt) (Yg ds σ) (ifB (f == Gs) (zK ds σ) (Xa f ds σ))
theorem zft:iO Go.Proofs.Tryz.prog κ Xc:=by
 intro f ds σ out σ' h
 unfold Xc at h
 by_cases h1:f=Gt
 ·subst h1
  simp only [beq_self_eq_true,aE] at h
  exact zv9 h
 have e1:(f == Gt)=false:=by simpa using h1
 rw [e1,aG] at h
 by_cases h2:f=Gs
 ·subst h2
  simp only [beq_self_eq_true,aE] at h
  exact zk3 h
 have e2:(f == Gs)=false:=by simpa using h2
 rw [e2,aG] at h
 exact Ei f ds σ out σ' h
noncomputable def V (n:Nat):aM:=Hr Go.Proofs.Tryz.prog κ Γc Ra Xc [] n
noncomputable def VD (n:Nat):aM:=Pe Go.Proofs.Tryz.prog κ Γc Ra Xc [] n
theorem zx0 (n:Nat):iO Go.Proofs.Tryz.prog κ (V n):=(Ht Γc_holds pN zft n).1
theorem Oc {n:Nat} {f:FuncId} {af:AFun} {ds:List D} {σ:Store} (h:Γc f=some af) (hl:ds.length=af.nargs):V (n + 1) f ds σ=lP Ra (VD n) af σ.next (exec (V n) n none af.body (eT ds) σ):=Ua rfl h hl
theorem zwb {n:Nat} {f:FuncId} {ds:List D} {σ:Store} (h:Γc f=none) (hY:isY f=false):V (n + 1) f ds σ=Xc f ds σ:=Ub rfl h hY
theorem zavb {n:Nat} {ds:List D} {σ:Store}:V (n + 1) (dS + 3) ds σ=Uc (V n) n 3 ds σ:=by
 have h:(fun f=>ifB (has ([]:aV) f) none (Γc f)) (dS + 3)=none:=rfl
 have hY:isY (dS + 3)=true:=rfl
 exact zvh (Γ:=fun f=>ifB (has ([]:aV) f) none (Γc f)) h hY
def fnV:D:=.fn (.func ze9) [] [.ptr 0 0]
def asg:ACode:=.region [⟨(some 5),.mov (.tmp 7),none⟩] none [6,7]
def RL (s:LSt):LRec:={slots:=[(2,⟨false,.ptr 1 0⟩),(6,⟨false,fnV⟩)],params:=[7],assign:=asg,body:=dZ,st:=s}
structure LK (l:List Tx) (σ:Store) (i:Nat) (d:D):Prop where
 o0:aB σ.objs 0=some [⟨false,dSs l⟩]
 o1:aB σ.objs 1=some [⟨false,d⟩]
 nx:4≤σ.next
 dd:(i=0∧d=.nils)∨(∃ a,d=.arr k_0 a 0 i∧4≤a∧a < σ.next∧aB σ.objs a=some (bQ (l.take i))∧aB σ.tys a=some ⟨k_0.el,k_0.sz⟩)
theorem nR (l:List Tx):(bQ l).length=l.length:=by simp [bQ]
theorem zx5 (l:List Tx):(bQ l).map (fun c=>Cell.of c.d)=bQ l:=by simp [bQ,Cell.of]
theorem LK.app {l:List Tx} {σ:Store} {i:Nat} {d:D} (h:LK l σ i d) (hi:i < l.length) (hl:l.length < 1000000000):∃ σ2,bP σ k_0 16 d [.str l[i]]=some (.arr k_0 σ.next 0 (i + 1),σ2)∧σ2.oth=σ.oth∧σ2.next=σ.next + 2∧aB σ2.objs 0=some [⟨false,dSs l⟩]∧aB σ2.objs 1=some [⟨false,d⟩]∧aB σ2.objs σ.next=some (bQ (l.take (i + 1)))∧aB σ2.tys σ.next=some ⟨k_0.el,k_0.sz⟩:=by
 have hnx:=h.nx
 have n0:(σ.next == 0)=false:=beq_false_of_ne (by omega)
 have n1:(σ.next == 1)=false:=beq_false_of_ne (by omega)
 have h1:bI k_0.sz [.str l[i]]=true:=rfl
 have hce:cellsOf [.str l[i]]=[⟨false,.str l[i]⟩]:=rfl
 have htk:bQ (l.take (i + 1))=bQ (l.take i) ++ [⟨false,.str l[i]⟩]:=by
  show (l.take (i + 1)).map _=_
  rw [← fL l i hi,List.map_append]
  rfl
 rcases h.dd with ⟨rfl,rfl⟩ | ⟨a,rfl,ha4,han,hao,hat⟩
 ·refine ⟨aN σ k_0 (cellsOf [.str l[0]]),?_,rfl,rfl,?_,?_,?_,?_⟩
  ·have e1:decide ([D.str l[0]].length * 16≤bG)=true:=rfl
   have e2:decide ([D.str l[0]].length≤bG)=true:=rfl
   simp only [bP,h1,aE,List.isEmpty_cons,aG]
   rfl
  ·show aB ((σ.next,_) :: σ.objs) 0=_
   rw [aB,n0,aG,h.o0]
  ·show aB ((σ.next,_) :: σ.objs) 1=_
   rw [aB,n1,aG,h.o1]
  ·show aB ((σ.next,_) :: σ.objs) σ.next=_
   rw [aB,beq_self_eq_true,aE,htk,hce]
   rfl
  ·show aB ((σ.next,_) :: σ.tys) σ.next=_
   rw [aB,beq_self_eq_true,aE]
 ·have a0:¬ a=0:=by omega
  have a1:¬ a=1:=by omega
  refine ⟨aN {σ with objs:=aY σ.objs a} k_0 (bQ (l.take (i + 1))),?_,rfl,rfl,?_,?_,?_,?_⟩
  ·have e0:decide (i * k_0.sz≤(bQ (l.take i)).length)=true:=by rw [nR]; simp [k_0]; omega
   have e1:decide ((i + 1) * 16≤bG)=true:=decide_eq_true (show (i + 1) * 16≤1099511627776 by omega)
   have e2:decide (i + 1≤bG)=true:=decide_eq_true (show i + 1≤1099511627776 by omega)
   have ek:k_0.same k_0=true:=rfl
   have ht:(bQ (l.take i)).take (i * k_0.sz)=bQ (l.take i):=List.take_of_length_le (by rw [nR]; simp [k_0]; omega)
   simp only [bP,h1,aE,hao,hat,aC,aF,ek,beq_self_eq_true,List.length_cons,List.length_nil,Nat.zero_add,e0,e1,e2,Bool.and_self,ht,zx5,hce,htk]
  ·show aB ((σ.next,_) :: aY σ.objs a) 0=_
   rw [aB,n0,aG,bH,if_neg a0,h.o0]
  ·show aB ((σ.next,_) :: aY σ.objs a) 1=_
   rw [aB,n1,aG,bH,if_neg a1,h.o1]
  ·show aB ((σ.next,_) :: aY σ.objs a) σ.next=_
   rw [aB,beq_self_eq_true,aE]
  ·show aB ((σ.next,_) :: σ.tys) σ.next=_
   rw [aB,beq_self_eq_true,aE]
structure WS (l:List Tx) (σ:Store) (i:Nat) (d:D) (s:LSt):Prop where
 k:LK l σ i d
 r:aB σ.oth 3=some (.loop (RL s))
 m:aB σ.oth 2=some .dfr
theorem WS.set {l:List Tx} {σ:Store} {i:Nat} {d:D} {s:LSt} (h:WS l σ i d s) (t:LSt):WS l (nG σ 3 (RL s) t) i d t:=by
 refine ⟨⟨h.k.o0,h.k.o1,h.k.nx,h.k.dd⟩,?_,?_⟩
 ·show aB (aU σ.oth 3 _) 3=_
  rw [aT,if_pos rfl]
  rfl
 ·show aB (aU σ.oth 3 _) 2=_
  rw [aT,if_neg (by decide),h.m]
theorem zs7 {l:List Tx} {σ:Store} {i:Nat} {d:D} (h:WS l σ i d .ready) (hi:i < l.length) (hl:l.length < 1000000000) (N:Nat):∃ σ' d',V (N + 1) (dS + 3) [.str l[i]] σ=some (.ret ⟨false,.bool true⟩,σ')∧WS l σ' (i + 1) d' .ready:=by
 have hb:=h.set .busy
 obtain ⟨σb,hσb⟩:∃ σb,σb=nG σ 3 (RL .ready) .busy:=⟨_,rfl⟩
 rw [← hσb] at hb
 -- what is appended to: the object is read,its mark taken away
 have hk':LK l {σb with objs:=aU σb.objs 1 [⟨false,d⟩]} i d:=by
  have hk:=hb.k
  refine ⟨?_,?_,hk.nx,?_⟩
  ·show aB (aU σb.objs 1 _) 0=_
   rw [aT,if_neg (by decide),hk.o0]
  ·show aB (aU σb.objs 1 _) 1=_
   rw [aT,if_pos rfl]
  ·rcases hk.dd with h1 | ⟨a,q1,q2,q3,q4,q5⟩
   ·exact .inl h1
   ·refine .inr ⟨a,q1,q2,q3,?_,q5⟩
    show aB (aU σb.objs 1 _) a=_
    rw [aT,if_neg (by omega),q4]
 obtain ⟨σ2,a1,a2,a3,a4,a5,a6,a7⟩:=hk'.app hi hl
 simp only at a1 a2 a3
 obtain ⟨σc,hσc⟩:∃ σc:Store,σc={σ2 with objs:=aU σ2.objs 1 [⟨false,.arr k_0 σb.next 0 (i + 1)⟩]}:=⟨_,rfl⟩
 have hc:WS l σc (i + 1) (.arr k_0 σb.next 0 (i + 1)) .busy:=by
  have hnx:=hb.k.nx
  subst hσc
  refine ⟨⟨?_,?_,?_,.inr ⟨σb.next,rfl,hnx,?_,?_,a7⟩⟩,?_,?_⟩
  ·show aB (aU σ2.objs 1 _) 0=_
   rw [aT,if_neg (by decide),a4]
  ·show aB (aU σ2.objs 1 _) 1=_
   rw [aT,if_pos rfl]
  ·show 4≤σ2.next
   omega
  ·show σb.next < σ2.next
   omega
  ·show aB (aU σ2.objs 1 _) σb.next=_
   rw [aT,if_neg (by omega)]
   exact a6
  ·show aB σ2.oth 3=_
   rw [a2]; exact hb.r
  ·show aB σ2.oth 2=_
   rw [a2]; exact hb.m
 have hbody:exec (V N) N (some 3) dZ {slots:=[(2,⟨false,.ptr 1 0⟩),(5,⟨false,.str l[i]⟩)],locs:=[],boxes:=[],defers:=[]} σb=some (.normal,{slots:=[],locs:=[],boxes:=[],defers:=[]},σc):=by
  have o1:=hb.k.o1
  subst hσc
  have hli:eB (aU σb.objs 1 [⟨false,d⟩]) (.list k_0 [.str l[i]])=some [.str l[i]]:=rfl
  simp only [dZ,sA,seval,kn,bF,eU,o1,hli,a1,a5]
 have hasg:exec (V N) N (some 3) asg {slots:=oS [7] [.str l[i]] (RL .ready).slots,locs:=[],boxes:=[],defers:=[]} σ=some (.normal,{slots:=[(2,⟨false,.ptr 1 0⟩),(5,⟨false,.str l[i]⟩)],locs:=[],boxes:=[],defers:=[]},σ):=by
  simp only [asg,RL,oS,sA,seval,kn]
 have hf:=hc.set .ready
 refine ⟨_,_,?_,hf⟩
 rw [zavb]
 have l1:mK σ 3=some (RL .ready):=by simp only [mK,h.r,aC,aF]
 have l2:mK σc 3=some (RL .busy):=by simp only [mK,hc.r,aC,aF]
 unfold Uc
 simp only [l1,aC,aF]
 show ifB true (Nk (V N) N 3 dZ (exec (V N) N (some 3) asg {slots:=oS [7] [.str l[i]] (RL .ready).slots,locs:=[],boxes:=[],defers:=[]} σ)) none=_
 rw [hasg,aE]
 unfold Nk
 simp only [l1,aC,aF]
 show ifB true (Nl (V N) N 3 (exec (V N) N (some 3) dZ {slots:=[(2,⟨false,.ptr 1 0⟩),(5,⟨false,.str l[i]⟩)],locs:=[],boxes:=[],defers:=[]} (nG σ 3 (RL .ready) .busy))) none=_
 rw [← hσb,hbody,aE]
 unfold Nl
 simp only [l2,aC,aF]
end Go.Fu
namespace Go.Fu
open Go Go.Mx
set_option maxRecDepth 10000
set_option maxHeartbeats 4000000
def zvy:List (Nat × AFun):=[(n_6,qQ),(Lh,pR),(pZ,bL),(On,fY),(sY,eE),
 (Gp,cX),(Gq,dP),(Gn,dX),(nX,gG),(Le,sR),(Bf,kN),(zes,qZ)]
def Γd:FuncId→Option AFun:=fun f=>bT (aB zvy f) (Γc f) some
theorem Γd_holds:Holds Go.Proofs.Tryz.prog Γd:=by
 intro f af h
 unfold Γd at h
 by_cases e1:f=n_6
 ·subst e1; cases h; exact ⟨rfl,_,rfl,Iw⟩
 by_cases e2:f=Lh
 ·subst e2; cases h; exact ⟨rfl,_,rfl,Hh⟩
 by_cases e3:f=pZ
 ·subst e3; cases h; exact ⟨rfl,_,rfl,Hi⟩
 by_cases e4:f=On
 ·subst e4; cases h; exact ⟨rfl,_,rfl,yY⟩
 by_cases e5:f=sY
 ·subst e5; cases h; exact ⟨rfl,_,rfl,Dq⟩
 by_cases e6:f=Gp
 ·subst e6; cases h; exact ⟨rfl,_,rfl,Bq⟩
 by_cases e7:f=Gq
 ·subst e7; cases h; exact ⟨rfl,_,rfl,Dt⟩
 by_cases e8:f=Gn
 ·subst e8; cases h; exact ⟨rfl,_,rfl,Hj⟩
 by_cases e9:f=nX
 ·subst e9; cases h; exact ⟨rfl,_,rfl,yZ⟩
 by_cases e10:f=Le
 ·subst e10; cases h; exact ⟨rfl,_,rfl,zaq⟩
 by_cases e11:f=Bf
 ·subst e11; cases h; exact ⟨rfl,_,rfl,Pv⟩
 by_cases e12:f=zes
 ·subst e12; cases h; exact ⟨rfl,_,rfl,Wx⟩
 have hn:∀ {m:Nat},f≠m→(m == f)=false:=fun h=>beq_false_of_ne fun e=>h e.symm
 have hg:aB zvy f=none:=by
  simp only [zvy,aB,hn e1,hn e2,hn e3,hn e4,hn e5,hn e6,hn e7,hn e8,hn e9,hn e10,hn e11,hn e12,aG]
 rw [hg] at h
 exact Γc_holds f af h
noncomputable def W (S:aV) (n:Nat):aM:=Hr Go.Proofs.Tryz.prog κ Γd Ra Xc S n
noncomputable def WD (S:aV) (n:Nat):aM:=Pe Go.Proofs.Tryz.prog κ Γd Ra Xc S n
theorem mX (S:aV) (n:Nat):iO Go.Proofs.Tryz.prog κ (W S n):=(Ht Γd_holds pN zft n).1
theorem bC {S:aV} {n:Nat} {f:FuncId} {af:AFun} {ds:List D} {σ:Store} (hs:has S f=false) (h:Γd f=some af) (hl:ds.length=af.nargs):W S (n + 1) f ds σ=lP Ra (WD S n) af σ.next (exec (W S n) n none af.body (eT ds) σ):=Ua hs h hl
theorem zc8b {S:aV} {n:Nat} {f:FuncId} {ds:List D} {σ:Store} (hs:has S f=false) (h:Γd f=none) (hY:isY f=false):W S (n + 1) f ds σ=Xc f ds σ:=Ub hs h hY
theorem nP {S:aV} {f:FuncId} {s:List D→Cell→Prop} {ds:List D} {c:Cell} (hf:aB S f=some s) (hY:isY f=false) (hs:s ds c) (hp:OkP f ds c):∃ c',s ds c'∧∀ n σ,W S (n + 1) f ds σ=some (.ret c',σ):=zh1 hf hY hs hp
theorem pO {C:aM} {n:Nat} {f:FuncId} {af:AFun} {ds:List D} {c:Cell} {σ':Store} (hC:iO Go.Proofs.Tryz.prog κ C) (h:Γd f=some af) (hl:ds.length=af.nargs) (hd:aX ds=true) (hc:bS c.d=true)
  (hr:lP Ra (fun _ _ _=>none) af 0 (exec C n none af.body (eT ds) σ0)=some (.ret c,σ')):OkP f ds c:=by
 obtain ⟨hY,fn,hfn,hok⟩:=Γd_holds f af h
 refine Bv hC pN hY hfn hok hl hd hc (n:=n) (σ':=σ') ?_
 unfold lP at hr
 exact hr
theorem zawb {S:aV} {n:Nat} {f:FuncId} {af:AFun} {ds:List D} {σ σ2:Store} {e:Env} {c:Cell} (hs:has S f=false) (h:Γd f=some af) (hl:ds.length=af.nargs) (hx:exec (W S n) n none af.body (eT ds) σ=some (.normal,e,σ2)) (hd:e.defers=[]) (hg:af.gc=false) (hr:jW e σ2 af.res=some c) :
  WD S (n + 1) f ds σ=some (.ret c,σ2):=by
 unfold WD Pe
 unfold W Hr at hx
 rw [kM,hs]
 simp only [aG,h,hl,beq_self_eq_true,aE,hx,nB,hd,hg,List.isEmpty_nil,Bool.not_true,Bool.and_false,cR,aC,aF,hr]
theorem zcu {R:mN} {C:aM} {m:Option D} {f:FuncId} {ds:List D} {σ σ':Store} {c:Cell} (hY:isY f=false) (hR:R f ds m σ=none) (hC:C f ds σ=some (.ret c,σ')):cR R C m [(f,ds)] σ=some (m,σ'):=by
 simp only [cR,hY,aG,hR,hC,aC,aF]
def Ev (S:aV) (f:FuncId) (ds:List D) (σ σ':Store):Prop:=∃ n0,∀ n,n0≤n→W S n f ds σ=some (.ret ⟨false,.tup []⟩,σ')
def Ret (S:aV) (f:FuncId) (ds:List D) (σ:Store) (d:D) (σ':Store):Prop:=∃ n0,∀ n,n0≤n→W S n f ds σ=some (.ret ⟨false,d⟩,σ')
theorem Ev.of {S:aV} {f:FuncId} {ds:List D} {σ σ':Store} (k:Nat) (h:∀ n,k≤n→W S (n + 1) f ds σ=some (.ret ⟨false,.tup []⟩,σ')):Ev S f ds σ σ':=⟨k + 1,fun n hn=>by
 obtain ⟨m,rfl⟩:∃ m,n=m + 1:=⟨n - 1,by omega⟩
 exact h m (by omega)⟩
theorem jB {x y:Cell}:cA [x,y] none 0=some x∧cA [x,y] none 1=some y:=⟨rfl,rfl⟩
theorem tG {x:Cell}:cA [x] none 0=some x:=rfl
theorem mL {x y z:Cell}:putCells [x,y] 0 [z]=[z,y]∧putCells [x,y] 1 [z]=[x,z]∧putCells [x] 0 [z]=[z]:=⟨rfl,rfl,rfl⟩
section
variable {S:aV} {σ:Store} {p a m:Nat} {L:List In} {M:At} {md:D}
theorem xT (hs:has S n_6=false) (h:CA σ p a md L) (hl:L.length < 1000000000) (op:Tx) (x:Int):∃ σ',(∀ n,W S (n + 1) n_6 [.ptr p 0,.str op,.int .i64 x] σ=some (.ret ⟨false,.tup []⟩,σ'))∧CA σ' p σ.next md (L ++ [op1 op x])∧(∀ m,Frm p a m σ.next m σ σ')∧σ'.oth=σ.oth:=by
 obtain ⟨σ1,h1,h2,h3,h4,h5,_,_⟩:=h.app (op1 op x) hl
 refine ⟨_,fun n=>?_,h3,h4,h5⟩
 have ho:=h.obj
 rw [bC hs rfl rfl]
 have hone:=zA a L
 have ok1:bI k_1.sz [D.agg [.str op,.int .i64 x,.int .i64 0,.str []]]=true:=rfl
 simp only [op1,dI] at h1
 simp only [qQ,sA,Nat.reduceAdd,Nat.reduceSub,Nat.reduceMul,Nat.reduceBEq,Nat.reduceLeDiff,Int.reduceBEq,Int.reduceBNe,Int.reduceLE,Int.reduceLT,Int.reduceGE,Int.reduceGT,Int.reduceNeg,kn,bF,mB,ho,jB,h1,h2,mL,rW]
theorem zkb {C:aM} {rest:List AOper} {dst:Option Nat} {e e':Env} {σ σ':Store} {ws:List Nat}:Ap C rest dst (some ws) e σ (some (.next e' σ'))=ifB (ws.all (iL e σ σ')) (dH C rest e' σ') none:=rfl
theorem ze1b {i:In}:cA [⟨false,.str i.op⟩,⟨false,.int .i64 i.n⟩,⟨false,.int .i64 i.m⟩,⟨false,.str i.name⟩] (some 4) 0=some ⟨false,dI i⟩:=rfl
structure HF (σ:Store) (p a k bx bk:Nat):Prop where
 x:aB σ.objs bx=some [⟨false,.ptr p 0⟩]
 k:aB σ.objs bk=some [⟨false,.int .i64 k⟩]
 xn:bx < σ.next
 kn:bk < σ.next
 xp:bx≠p∧bx≠a
 kp:bk≠p∧bk≠a
theorem HF.keep {σ σ':Store} {p a m a' m' k bx bk:Nat} (h:HF σ p a k bx bk) (f:Frm p a m a' m' σ σ'):HF σ' p a' k bx bk:=by
 have h1:=h.xn
 have h2:=h.kn
 have h3:=f.nx
 have h4:=h.xp
 have h5:=h.kp
 exact ⟨f.get h.x h.xn h.xp.1 h.xp.2,f.get h.k h.kn h.kp.1 h.kp.2,by omega,by omega,⟨h4.1,by rcases f.fa with e | e <;> omega⟩,⟨h5.1,by rcases f.fa with e | e <;> omega⟩⟩
def jI (bx bk:Nat):D:=.fn (.func Om) [] [.ptr bx 0,.ptr bk 0]
theorem Ru (hs:has S Lh=false) (h:CA σ p a md L) (hl:L.length < 1000000000) (i:In):∃ σ' bx bk a',(∀ n,W S (n + 1) Lh [.ptr p 0,dI i] σ=some (.ret ⟨false,jI bx bk⟩,σ'))∧CA σ' p a' md (L ++ [i])∧(∀ m,Frm p a m a' m σ σ')∧σ'.oth=σ.oth∧HF σ' p a' L.length bx bk∧σ.next≤bx∧σ.next≤bk:=by
 have hp:=h.pn
 have ha:=h.an
 obtain ⟨σ1,e1⟩:∃ σ1,σ1=GA σ uP [⟨false,.ptr p 0⟩]:=⟨_,rfl⟩
 obtain ⟨σ2,e2⟩:∃ σ2,σ2=GA σ1 tL [⟨false,.int .i64 0⟩]:=⟨_,rfl⟩
 obtain ⟨σ3,e3⟩:∃ σ3,σ3=SO σ2 (σ.next + 1) [⟨false,.int .i64 L.length⟩]:=⟨_,rfl⟩
 have n1:σ1.next=σ.next + 1:=by rw [e1,cS]
 have n2:σ2.next=σ.next + 2:=by rw [e2,cS,n1]
 have n3:σ3.next=σ.next + 2:=by rw [e3,dJ,n2]
 have hx:CA σ3 p a md L:=by
  rw [e3]
  refine CA.so ?_ (by omega) (by omega)
  rw [e2]
  refine CA.ga ?_
  rw [e1]
  exact h.ga
 have hf:∀ m,Frm p a m a m σ σ3:=fun m=>by
  rw [e3]
  refine Frm.so ?_ (.inl (by omega))
  rw [e2]
  refine Frm.trans ?_ Frm.ga
  rw [e1]
  exact Frm.ga
 obtain ⟨σ4,h1,h2,h3,h4,h5,h6,h7⟩:=hx.app i hl
 have b0:aB σ1.objs σ.next=some [⟨false,.ptr p 0⟩]:=by rw [e1,dY]
 have b1:aB σ1.objs p=some [⟨false,lC a L⟩,⟨false,md⟩]:=by rw [e1,fN (by omega)]; exact h.obj
 have b2:aB σ3.objs σ.next=some [⟨false,.ptr p 0⟩]:=by rw [e3,eK (by omega),e2,fN (by omega),b0]
 have b3:=hx.obj
 have b4:aB σ2.objs (σ.next + 1)=some [⟨false,.int .i64 0⟩]:=by
  have:=dY (σ:=σ1) (t:=tL) (cs:=[⟨false,.int .i64 0⟩])
  rw [n1] at this
  rw [e2,this]
 have b6:aB σ3.objs (σ.next + 1)=some [⟨false,.int .i64 L.length⟩]:=by rw [e3,fM]
 have b5:aB σ4.objs σ.next=some [⟨false,.ptr p 0⟩]:=by rw [h7 _ (by omega) (by omega),b2]
 have b7:aB σ4.objs (σ.next + 1)=some [⟨false,.int .i64 L.length⟩]:=by rw [h7 _ (by omega) (by omega),b6]
 have ho3:σ3.oth=σ.oth:=by rw [e3,vB,e2,Cc,e1,Cc]
 refine ⟨_,σ.next,σ.next + 1,_,fun n=>?_,h3,fun m=>(hf m).trans (h4 m),h5.trans ho3,?_,Nat.le_refl _,by omega⟩
 ·rw [bC hs rfl rfl]
  have hone:=zA a L
  have ok1:bI k_1.sz [dI i]=true:=rfl
  have hln:=zuo a L
  simp only [dI] at h1 ok1
  have htk:=ze1b (i:=i)
  simp only [dI] at htk
  simp only [pR,dI,sA,Nat.reduceAdd,Nat.reduceSub,Nat.reduceMul,Nat.reduceBEq,Nat.reduceLeDiff,Int.reduceBEq,Int.reduceBNe,Int.reduceLE,Int.reduceLT,Int.reduceGE,Int.reduceGT,Int.reduceNeg,kn,bF,mB,← e1,n1,b0,b1,jB,tG,mL,hln,← e2,b4,← e3,b2,b3,htk,h1,zkb,List.all_cons,List.all_nil,iL,b5,tI,h2,jI,rW]
 ·have nx:σ3.next < (SO σ4 p [⟨false,.arr k_1 σ3.next 0 (L.length + 1)⟩,⟨false,md⟩]).next:=by rw [dJ]; omega
  exact ⟨by rw [eK (by omega)]; exact b5,by rw [eK (by omega)]; exact b7,by omega,by omega,⟨by omega,by omega⟩,⟨by omega,by omega⟩⟩
theorem zbg (hs:has S Om=false) (h:CS σ p a m L M) {k bx bk:Nat} (hh:HF σ p a k bx bk) (hk:k < L.length):∃ σ',(∀ n,W S (n + 1) Om [.ptr bx 0,.ptr bk 0] σ=some (.ret ⟨false,.tup []⟩,σ'))∧CS σ' p a m (rI L k L.length) M∧Frm p a m a m σ σ':=by
 obtain ⟨h1,h2⟩:=h.set k L.length hk
 refine ⟨_,fun n=>?_,h1,h2⟩
 have hne:L≠[]:=fun e=>by rw [e] at hk; simp at hk
 obtain ⟨g1,g2⟩:=h.ca.arr hne
 have ho:=h.ca.obj
 rw [Cf _ _ hne] at ho
 have hx:=hh.x
 have hkk:=hh.k
 have hd:k * 4 + 1 + 1≤(cI L).length:=by rw [yE]; omega
 have e4:(k_1.sz == 4)=true:=rfl
 rw [bC hs rfl rfl]
 simp only [zmp,sA,Nat.reduceAdd,Nat.reduceSub,Nat.reduceMul,Nat.reduceBEq,Nat.reduceLeDiff,Int.reduceBEq,Int.reduceBNe,Int.reduceLE,Int.reduceLT,Int.reduceGE,Int.reduceGT,Int.reduceNeg,kn,bF,mB,hx,hkk,ho,jB,tG,jJ,e4,cL,hk,Nat.zero_add,g1,hd]
end
end Go.Fu
namespace Go.Fu
open Go Go.Mx
set_option maxRecDepth 10000
set_option maxHeartbeats 4000000
def bnF:D:=.fn (.func n_9) [] []
def zG:List D→Cell→Prop:=fun ds c=>∀ b:Tx × Co,ds=[dB b]→c=⟨false,.str b.1⟩
theorem zgf {a b:Tx × Co} (h:dB a=dB b):a=b:=by
 rw [uS,uS] at h
 simp only [D.agg.injEq,List.cons.injEq,D.str.injEq,true_and] at h
 obtain ⟨x,c⟩:=a
 obtain ⟨y,d⟩:=b
 have hx:dCo c=dCo d:=by rw [cH,cH,h.2]
 rw [rX hx]
 exact congrArg (·,d) h.1
theorem zf3 (b:Tx × Co):OkP n_9 [dB b] ⟨false,.str b.1⟩:=by
 have hd:=uS b
 have hn:aX [dB b]=true:=by
  rw [hd]
  simp [aX,bS,Lm]
 refine eD (af:=zdc) (n:=1) (σ':=σ0) (eR [] 1) rfl rfl hn rfl ?_
 simp only [zdc,hd,cCo,sA,Nat.reduceAdd,Nat.reduceSub,Nat.reduceMul,Nat.reduceBEq,Nat.reduceLeDiff,Int.reduceBEq,Int.reduceBNe,Int.reduceLE,Int.reduceLT,Int.reduceGE,Int.reduceGT,Int.reduceNeg,kn,bZ]
theorem ztq {S:aV} (hS:aB S n_9=some zG) (b:Tx × Co) (n:Nat) (σ:Store):T S (n + 1) n_9 [dB b] σ=some (.ret ⟨false,.str b.1⟩,σ):=by
 obtain ⟨c,h1,h2⟩:=kZ (S:=S) hS rfl (c:=⟨false,.str b.1⟩) (fun a h=>by
  simp only [List.cons.injEq,and_true] at h
  rw [zgf h]) (zf3 b)
 rw [h2,h1 b rfl]
def dBl' (l:List (Tx × Co)):D:=bE k_3 (l.map dB)
section
variable {C:aM} {n:Nat} {σ:Store}
def Enm (bs:List (Tx × Co)) (i:Nat):Env:={slots:=[(1,⟨false,bnF⟩),(5,⟨ow i,dSs ((bs.take i).map Prod.fst)⟩),(8,⟨false,dBl' bs⟩),(9,⟨false,.int .i64 bs.length⟩),(10,⟨false,.int .i64 i⟩)],locs:=[],boxes:=[],defers:=[]}
theorem zhf (l:List (Tx × Co)) (i:Nat) (h:i < l.length):(l.take i).map Prod.fst ++ [l[i].1]=(l.take (i + 1)).map Prod.fst:=by
 rw [← fL l i h,List.map_append]
 rfl
theorem zzi (bs:List (Tx × Co)) (i:Nat) (h:i < bs.length) (hl:bs.length < 1000000000) (h1:∀ b σ,C n_9 [dB b] σ=some (.ret ⟨false,.str b.1⟩,σ)):exec C n none vY (Enm bs i) σ=some (.normal,Enm bs (i + 1),σ):=by
 have hlt:((i:Int) < (bs.length:Int)):=by omega
 have w:=aR (i:=i) (by omega)
 have hx:=jU (k:=k_3) (sz:=15) rfl dB bs i h
 have ha:=tQ ((bs.take i).map Prod.fst) bs[i].1 (ow i) (fun hne=>by
  cases i with
  | zero=>exact absurd rfl hne
  | succ i=>rfl) (by simp; omega)
 rw [zhf bs i h] at ha
 have h2:=h1 bs[i] σ
 have hfn:D.fn? bnF=some (n_9,[],[]):=rfl
 generalize bs[i]=b at hx ha h2
 have hd:=uS b
 rw [hd] at hx h2
 simp only [cCo] at hx h2
 simp only [vY,Enm,dBl',sA,Nat.reduceAdd,Nat.reduceSub,Nat.reduceMul,Nat.reduceBEq,Nat.reduceLeDiff,Int.reduceBEq,Int.reduceBNe,Int.reduceLE,Int.reduceLT,Int.reduceGE,Int.reduceGT,Int.reduceNeg,kn,hlt,cL,hx,bZ,hfn,h2,ha,w,kP]
theorem zbzb (bs:List (Tx × Co)):exec C n none vY (Enm bs bs.length) σ=some (.exit 0,{Enm bs bs.length with slots:=[(1,⟨false,bnF⟩),(5,⟨ow bs.length,dSs ((bs.take bs.length).map Prod.fst)⟩),(8,⟨false,dBl' bs⟩),(9,⟨false,.int .i64 bs.length⟩),(10,⟨false,.int .i64 bs.length⟩),(11,⟨false,.bool false⟩)]},σ):=by
 have hlt:¬ ((bs.length:Int) < (bs.length:Int)):=by omega
 simp only [vY,Enm,sA,Nat.reduceAdd,Nat.reduceSub,Nat.reduceMul,Nat.reduceBEq,Nat.reduceLeDiff,Int.reduceBEq,Int.reduceBNe,Int.reduceLE,Int.reduceLT,Int.reduceGE,Int.reduceGT,Int.reduceNeg,kn,hlt]
end
theorem noPtr_dBl' (l:List (Tx × Co)):bS (dBl' l)=true:=by
 rw [dBl',jE]
 exact iR (fun b=>by rw [uS]; simp [bS,aX,Lm]) l
theorem zus (bs:List (Tx × Co)) (hl:bs.length < 300000000):OkP rO [dBl' bs,bnF] ⟨false,dSs (bs.map Prod.fst)⟩:=by
 refine OkP.weak (o:=ow bs.length) rfl (eD (af:=Re) (n:=1000000000) (σ':=σ0) (eR [(n_9,zG)] 1) rfl rfl (by simp [aX,noPtr_dBl',bnF,bS]) (cQ _) ?_)
 have h0:=gI (body:=exec (T [(n_9,zG)] 1) 1000000000 none vY) (fun i=>Enm bs i) (fun _=>σ0) bs.length (r:=_) (fun _ _ h=>by cases h) (fun i hi=>zzi bs i hi (by omega) (fun x σ=>ztq (S:=[(n_9,zG)]) rfl x 0 σ)) (zbzb bs) 0 1000000000 (by omega) (by omega)
 rw [List.take_length] at h0
 have e0:(bs.take 0).map Prod.fst=[]:=rfl
 have e1:dSs []=.nils:=rfl
 have hln:lenOf (dBl' bs)=some bs.length:=jN _ _
 simp only [Enm,bV,e0,e1,xR] at h0
 simp only [Re,sA,Nat.reduceAdd,Nat.reduceSub,Nat.reduceMul,Nat.reduceBEq,Nat.reduceLeDiff,Int.reduceBEq,Int.reduceBNe,Int.reduceLE,Int.reduceLT,Int.reduceGE,Int.reduceGT,Int.reduceNeg,kn,hln,h0]
def Ec:List D→Cell→Prop:=fun ds c=>∀ bs:List (Tx × Co),ds=[dBl' bs,bnF]→c=⟨false,dSs (bs.map Prod.fst)⟩
theorem zmn {S:aV} (hS:aB S rO=some Ec) (bs:List (Tx × Co)) (hl:bs.length < 300000000) (n:Nat) (σ:Store):W S (n + 1) rO [dBl' bs,bnF] σ=some (.ret ⟨false,dSs (bs.map Prod.fst)⟩,σ):=by
 obtain ⟨c,h1,h2⟩:=nP (S:=S) hS rfl (c:=⟨false,dSs (bs.map Prod.fst)⟩) (fun a h=>by
  simp only [List.cons.injEq,and_true] at h
  rw [qL zgf (lH h)]) (zus bs hl)
 rw [h2,h1 bs rfl]
theorem zg3 {ot:List (Nat × Oth)} {m:Nat} {es:List (D × D × Nat)} {c:Nat} (h:aB ot m=some (.map es c)):pJ ot (.map m)=some (m,es,c):=by simp only [pJ,h,aC,aF]
theorem zg9 {ot:List (Nat × Oth)} {m:Nat} {es:List (D × D × Nat)} {c:Nat} (h:aB ot m=some (.map es c)):rC ot (.map m)=some es:=by simp only [rC,h,aC,aF]
theorem pC {s:Tx}:rL true (.str s)=true:=rfl
theorem zqr {S:aV} (hs:has S ze7=false) {σ:Store} {m:Nat} {es:List (D × D × Nat)} {c:Nat} (h:aB σ.oth m=some (.map es c)) (n:Nat):W S (n + 1) ze7 [.map m] σ=some (.ret ⟨false,.map σ.next⟩,GM σ (.map es c)):=by
 rw [bC (af:=zd2) hs rfl rfl]
 simp only [zd2,sA,Nat.reduceAdd,Nat.reduceSub,Nat.reduceMul,Nat.reduceBEq,Nat.reduceLeDiff,Int.reduceBEq,Int.reduceBNe,Int.reduceLE,Int.reduceLT,Int.reduceGE,Int.reduceGT,Int.reduceNeg,kn,h]
 rfl
def RdS (σ:Store) (p a:Nat) (d:D) (l:List Tx):Prop:=d=dSs l∨(l≠[]∧∃ id,d=.arr k_0 id 0 l.length∧aB σ.objs id=some (bQ l)∧id < σ.next∧id≠p∧id≠a)
theorem RdS.keep {σ σ':Store} {p a m a' m':Nat} {d:D} {l:List Tx} (h:RdS σ p a d l) (f:Frm p a m a' m' σ σ'):RdS σ' p a' d l:=by
 rcases h with h | ⟨h1,id,h2,h3,h4,h5,h6⟩
 ·exact .inl h
 ·exact .inr ⟨h1,id,h2,f.get h3 h4 h5 h6,Nat.lt_of_lt_of_le h4 f.nx,h5,by rcases f.fa with e | e <;> omega⟩
theorem RdS.len {σ:Store} {p a:Nat} {d:D} {l:List Tx} (h:RdS σ p a d l):lenOf d=some l.length:=by
 rcases h with rfl | ⟨_,id,rfl,_⟩
 ·exact nW l
 ·rfl
theorem zuu (l:List Tx) (i:Nat) (h:i < l.length):nth (bQ l) i=some ⟨false,.str l[i]⟩:=by
 rw [bQ,Dc,Db _ _ h]
 rfl
structure FrA (σ σ':Store):Prop where
 nx:σ.next≤σ'.next
 ob:∀ j,j < σ.next→aB σ'.objs j=aB σ.objs j
 ty:∀ j,j < σ.next→aB σ'.tys j=aB σ.tys j
 ot:∀ j,j < σ.next→aB σ'.oth j=aB σ.oth j
theorem FrA.refl {σ:Store}:FrA σ σ:=⟨Nat.le_refl _,fun _ _=>rfl,fun _ _=>rfl,fun _ _=>rfl⟩
theorem FrA.trans {σ σ1 σ2:Store} (h:FrA σ σ1) (k:FrA σ1 σ2):FrA σ σ2:=by
 have h1:=h.nx
 exact ⟨Nat.le_trans h.nx k.nx,fun j hj=>by rw [k.ob j (by omega),h.ob j hj],fun j hj=>by rw [k.ty j (by omega),h.ty j hj],fun j hj=>by rw [k.ot j (by omega),h.ot j hj]⟩
theorem FrA.ga {σ:Store} {t:Nat} {cs:List Cell}:FrA σ (GA σ t cs):=⟨by rw [cS]; omega,fun j hj=>fN (by omega),fun j hj=>zc4 (by omega),fun _ _=>rfl⟩
theorem FrA.so {σ σ':Store} (h:FrA σ σ') {id:Nat} {cs:List Cell} (hi:σ.next≤id):FrA σ (SO σ' id cs):=⟨h.nx,fun j hj=>by rw [eK (by omega),h.ob j hj],h.ty,h.ot⟩
theorem FrA.frm {σ σ':Store} (h:FrA σ σ') (p a m:Nat):Frm p a m a m σ σ':=⟨h.nx,fun j hj _ _=>h.ob j hj,h.ty,fun j hj _=>h.ot j hj,.inl rfl,.inl rfl⟩
theorem CS.fa {σ σ':Store} {p a m:Nat} {L:List In} {M:At} (h:CS σ p a m L M) (f:FrA σ σ'):CS σ' p a m L M :=
 ⟨h.ca.keep f.nx (f.ob _ h.ca.pn) (f.ob _ h.ca.an) (f.ty _ h.ca.an),by rw [f.ot _ h.mn]; exact h.map,Nat.lt_of_lt_of_le h.mn f.nx⟩
theorem zyd {S:aV} (hs:has S wG=false) (σ:Store) (l:List Tx) (hl:l.length < 1000000000):∃ d σ',(∀ n,W S (n + 1) wG [dSs l] σ=some (.ret ⟨false,d⟩,σ'))∧FrA σ σ' ∧
  ((l=[]∧d=.nils)∨(l≠[]∧∃ id,d=.arr k_0 id 0 l.length∧aB σ'.objs id=some (bQ l)∧σ.next≤id∧id < σ'.next)):=by
 by_cases hne:l=[]
 ·subst hne
  refine ⟨.nils,σ,fun n=>?_,FrA.refl,.inl ⟨rfl,rfl⟩⟩
  rw [bC (af:=eH) hs rfl rfl]
  have e:dSs []=.nils:=rfl
  simp only [eH,e,sA,Nat.reduceAdd,Nat.reduceSub,Nat.reduceMul,Nat.reduceBEq,Nat.reduceLeDiff,Int.reduceBEq,Int.reduceBNe,Int.reduceLE,Int.reduceLT,Int.reduceGE,Int.reduceGT,Int.reduceNeg,kn]
 ·have e1:decide (0 * k_0.sz≤([]:List Cell).length)=true:=rfl
  have e2:decide ((0 + l.length) * 16≤bG)=true:=decide_eq_true (show (0 + l.length) * 16≤1099511627776 by omega)
  have e3:decide (0 + l.length≤bG)=true:=decide_eq_true (show 0 + l.length≤1099511627776 by omega)
  have hall:bI k_0.sz (l.map D.str)=true:=mO fun d hd=>by
   obtain ⟨s,_,rfl⟩:=List.mem_map.1 hd
   exact ⟨rfl,rfl⟩
  have hcs:cellsOf (l.map D.str)=bQ l:=by
   have:∀ l:List Tx,cellsOf (l.map D.str)=bQ l:=by
    intro l
    induction l with
    | nil=>rfl
    | cons y r ih=>rw [List.map_cons,cellsOf,ih]; rfl
   exact this _
  refine ⟨.arr k_0 (σ.next + 2) 0 l.length,aN {aN σ k_0 [] with objs:=aY (aN σ k_0 []).objs σ.next} k_0 (bQ l),fun n=>?_,⟨?_,fun j h1=>?_,fun j h1=>?_,fun j h1=>rfl⟩,.inr ⟨hne,_,rfl,agS _ _ _,by omega,by simp [aN]⟩⟩
  ·rw [bC (af:=eH) hs rfl rfl]
   have hnil:(dSs l).isNilS?=some false:=by
    cases l with
    | nil=>exact absurd rfl hne
    | cons x r=>rfl
   have hli:∀ os,eB os (dSs l)=some (l.map D.str):=fun os=>by rw [dSs,nD]
   have hap:bP (aN σ k_0 []) k_0 16 (.arr k_0 σ.next 0 0) (l.map D.str)=some (.arr k_0 (σ.next + 2) 0 l.length,aN {aN σ k_0 [] with objs:=aY (aN σ k_0 []).objs σ.next} k_0 (bQ l)):=by
    have g1:aB (aN σ k_0 []).objs σ.next=some []:=agS _ _ _
    have g2:aB (aN σ k_0 []).tys σ.next=some ⟨k_0.el,k_0.sz⟩:=agS _ _ _
    have ek:k_0.same k_0=true:=rfl
    have hlm:(l.map D.str).length=l.length:=List.length_map ..
    simp only [bP,hall,aE,g1,g2,aC,aF,ek,beq_self_eq_true,hlm,hcs,Nat.zero_mul,List.take_zero,List.map_nil,List.nil_append,Nat.zero_add,Nat.zero_le,decide_true] at e2 e3 ⊢
    simp only [e2,e3,Bool.and_self,aE]
    rfl
   have hc0:cellsOf []=[]:=rfl
   simp only [eH,sA,Nat.reduceAdd,Nat.reduceSub,Nat.reduceMul,Nat.reduceBEq,Nat.reduceLeDiff,Int.reduceBEq,Int.reduceBNe,Int.reduceLE,Int.reduceLT,Int.reduceGE,Int.reduceGT,Int.reduceNeg,kn,hnil,bF,mB,hc0,hli,hap]
  ·simp only [aN]; omega
  ·simp only [aN]
   rw [agC _ _ _ _ (by omega),agD _ _ (by omega),agC _ _ _ _ (by omega)]
  ·simp only [aN]
   rw [agC _ _ _ _ (by omega),agC _ _ _ _ (by omega)]
end Go.Fu
namespace Go.Fu
open Go Go.Mx
set_option maxRecDepth 10000
set_option maxHeartbeats 4000000
theorem za9 {α:Type} (k:Nat) (v w:α):∀ l:List (Nat × α),aU (aU l k v) k w=aU l k w
 | []=>by simp [aU,ifB]
 | (i,x) :: l=>by
  simp only [aU]
  cases h:i == k with
  | true=>simp [aU,ifB,h]
  | false =>
   cases h2:Nat.ble k i with
   | true=>simp [aU,ifB]
   | false=>simp [aU,ifB,h,h2,za9 k v w l]
theorem zmk (σ:Store) (id:Nat) (a b:List Cell):SO (SO σ id a) id b=SO σ id b:=by
 unfold SO
 simp only [za9]
def mS (l:List Tx):Nat→List Tx
 | 0=>l
 | i + 1=>((mS l i).set i ((mS l i).getD (l.length - 1 - i) [])).set (l.length - 1 - i) ((mS l i).getD i [])
theorem zB (l:List Tx):∀ i,(mS l i).length=l.length
 | 0=>rfl
 | i + 1=>by rw [mS,List.length_set,List.length_set,zB l i]
theorem Hn (l:List Tx):∀ i,2 * i≤l.length→∀ k,k < l.length→(mS l i).getD k []=ifB (decide (k < i) || decide (l.length≤k + i)) (l.getD (l.length - 1 - k) []) (l.getD k [])
 | 0,_,k,hk=>by
  have h1:decide (k < 0)=false:=by simp
  have h2:decide (l.length≤k + 0)=false:=by simp; omega
  rw [h1,h2]
  rfl
 | i + 1,hi,k,hk=>by
  have hl:=zB l i
  have hget:∀ (m:List Tx) (a b:Nat) (x y:Tx),a < m.length→b < m.length→a≠b→∀ k,k < m.length→((m.set a x).set b y).getD k []=if k=b then y else if k=a then x else m.getD k []:=by
   intro m a b x y ha hb hab k hk
   rw [cO _ _ _ (by simpa using hk),List.getElem_set,List.getElem_set,cO _ _ _ hk]
   by_cases h1:b=k
   ·subst h1; simp
   ·by_cases h2:a=k
    ·subst h2; simp [h1,hab]
    ·simp [h1,h2,Ne.symm h1,Ne.symm h2]
  rw [mS,hget _ _ _ _ _ (by omega) (by omega) (by omega) k (by omega),Hn l i (by omega) _ (by omega),Hn l i (by omega) _ (by omega),Hn l i (by omega) k hk]
  have q1:(decide (i < i) || decide (l.length≤i + i))=false:=by simp; omega
  have q2:(decide (l.length - 1 - i < i) || decide (l.length≤l.length - 1 - i + i))=false:=by simp; omega
  rw [q1,q2]
  simp only [aG]
  by_cases h1:k=l.length - 1 - i
  ·have q3:(decide (k < i + 1) || decide (l.length≤k + (i + 1)))=true:=by simp; omega
   rw [if_pos h1,q3,aE,show l.length - 1 - k=i by omega]
  ·rw [if_neg h1]
   by_cases h2:k=i
   ·have q3:(decide (k < i + 1) || decide (l.length≤k + (i + 1)))=true:=by simp; omega
    rw [if_pos h2,q3,aE,h2]
   ·rw [if_neg h2]
    have q3:(decide (k < i + 1) || decide (l.length≤k + (i + 1)))=(decide (k < i) || decide (l.length≤k + i)):=by
     have e1:decide (k < i + 1)=decide (k < i):=by congr 1; exact propext (by omega)
     have e2:decide (l.length≤k + (i + 1))=decide (l.length≤k + i):=by congr 1; exact propext (by omega)
     rw [e1,e2]
    rw [q3]
theorem zvf (l:List Tx):mS l (l.length / 2)=l.reverse:=by
 apply List.ext_getElem
 ·rw [zB,List.length_reverse]
 ·intro k h1 h2
  have hk:k < l.length:=by rw [zB] at h1; exact h1
  have h:=Hn l (l.length / 2) (by omega) k hk
  rw [cO _ _ _ h1] at h
  rw [h,List.getElem_reverse]
  rw [cO _ _ _ (show l.length - 1 - k < l.length by omega),cO _ _ _ hk]
  by_cases q:k < l.length / 2∨l.length≤k + l.length / 2
  ·have:(decide (k < l.length / 2) || decide (l.length≤k + l.length / 2))=true:=by simpa using q
   rw [this,aE]
  ·have:(decide (k < l.length / 2) || decide (l.length≤k + l.length / 2))=false:=by simp; omega
   rw [this,aG]
   congr 1
   omega
def ErS (id n i:Nat):Env:={slots:=[(0,⟨false,.arr k_0 id 0 n⟩),(2,⟨false,.int .i64 i⟩),(3,⟨false,.int .i64 ((n:Int) - 1 - i)⟩)],locs:=[],boxes:=[],defers:=[]}
def SrS (σ:Store) (id:Nat) (l:List Tx):Nat→Store
 | 0=>σ
 | i + 1=>SO σ id (bQ (mS l (i + 1)))
theorem zk7 {σ:Store} {id:Nat} {l:List Tx} (h:aB σ.objs id=some (bQ l)) (i:Nat):aB (SrS σ id l i).objs id=some (bQ (mS l i)):=by
 cases i with
 | zero=>exact h
 | succ i=>exact fM
theorem zaub {σ:Store} {id:Nat} {l:List Tx} (i:Nat) (cs:List Cell):SO (SrS σ id l i) id cs=SO σ id cs:=by
 cases i with
 | zero=>rfl
 | succ i=>exact zmk _ _ _ _
theorem Rj:∀ (l:List Tx) (k:Nat) (s:Tx),putCells (bQ l) k [⟨false,.str s⟩]=bQ (l.set k s)
 | [],k,s=>rfl
 | x :: l,0,s=>by simp [bQ,putCells]
 | x :: l,k + 1,s=>by
  have:=Rj l k s
  simp only [bQ,List.map_cons,putCells,List.set_cons_succ] at this ⊢
  rw [this]
theorem zav (l:List Tx) (k:Nat) (h:k < l.length):nth (bQ l) (k * 1)=some ⟨false,.str (l.getD k [])⟩:=by
 rw [Nat.mul_one,zuu l k h,cO _ _ _ h]
theorem zz7 {C:aM} {n:Nat} (σ:Store) (id:Nat) (l:List Tx) (h:aB σ.objs id=some (bQ l)) (hl:l.length < 1000000000) (i:Nat) (hi:i < l.length / 2):exec C n none Rh (ErS id l.length i) (SrS σ id l i)=some (.normal,ErS id l.length (i + 1),SrS σ id l (i + 1)):=by
 have hg:=zk7 h i
 have hlen:=zB l i
 have hj:(l.length:Int) - 1 - i=((l.length - 1 - i:Nat):Int):=by omega
 have hlt:((i:Int) < ((l.length - 1 - i:Nat):Int)):=by omega
 have w1:=aR (i:=i) (by omega)
 have w2:IntKind.i64.wrap (((l.length - 1 - i:Nat):Int) - 1)=(l.length:Int) - 1 - ((i + 1:Nat):Int):=by rw [iQ (by omega) (by omega)]; omega
 have r1:=zav (mS l i) i (by omega)
 have r2:=zav (mS l i) (l.length - 1 - i) (by omega)
 have d1:i < l.length:=by omega
 have d2:l.length - 1 - i < l.length:=by omega
 have es:(k_0.sz == 1)=true:=rfl
 have f1:i * 1 + 1≤(bQ (mS l i)).length:=by rw [nR]; omega
 have f2:∀ s,(l.length - 1 - i) * 1 + 1≤(bQ ((mS l i).set i s)).length:=fun s=>by rw [nR,List.length_set]; omega
 have p1:∀ s,putCells (bQ (mS l i)) (i * 1) [⟨false,.str s⟩]=bQ ((mS l i).set i s):=fun s=>by rw [Nat.mul_one]; exact Rj _ _ _
 have p2:∀ s t,putCells (bQ ((mS l i).set i s)) ((l.length - 1 - i) * 1) [⟨false,.str t⟩]=bQ (((mS l i).set i s).set (l.length - 1 - i) t):=fun s t=>by rw [Nat.mul_one]; exact Rj _ _ _
 have hs2:SO σ id (bQ (((mS l i).set i ((mS l i).getD (l.length - 1 - i) [])).set (l.length - 1 - i) ((mS l i).getD i [])))=SrS σ id l (i + 1):=rfl
 have so:=zaub (σ:=σ) (id:=id) (l:=l) i
 simp only [ErS,hj,Rh,sA,Nat.reduceAdd,Nat.reduceSub,Nat.reduceMul,Nat.reduceBEq,Nat.reduceLeDiff,Int.reduceBEq,Int.reduceBNe,Int.reduceLE,Int.reduceLT,Int.reduceGE,Int.reduceGT,Int.reduceNeg,kn,bF,mB,hlt,cL,jJ,es,d1,d2,Nat.zero_add,hg,r1,r2,f1,p1,fM,f2,p2,so,zmk,hs2,w1,w2]
theorem zcgb {C:aM} {n:Nat} (σ:Store) (id:Nat) (l:List Tx) (hl:l.length < 1000000000):∃ e,exec C n none Rh (ErS id l.length (l.length / 2)) (SrS σ id l (l.length / 2))=some (.exit 0,e,SrS σ id l (l.length / 2))∧e.defers=[]:=by
 have hlt:¬ (((l.length / 2:Nat):Int) < (l.length:Int) - 1 - ((l.length / 2:Nat):Int)):=by omega
 refine ⟨{slots:=[(0,⟨false,.arr k_0 id 0 l.length⟩),(2,⟨false,.int .i64 (l.length / 2:Nat)⟩),(3,⟨false,.int .i64 ((l.length:Int) - 1 - ((l.length / 2:Nat):Int))⟩),(9,⟨false,.bool false⟩)],locs:=[],boxes:=[],defers:=[]},?_,rfl⟩
 unfold ErS
 generalize (l.length:Int) - 1 - ((l.length / 2:Nat):Int)=j at hlt ⊢
 generalize ((l.length / 2:Nat):Int)=h at hlt ⊢
 simp only [Rh,sA,Nat.reduceAdd,Nat.reduceSub,Nat.reduceMul,Nat.reduceBEq,Nat.reduceLeDiff,Int.reduceBEq,Int.reduceBNe,Int.reduceLE,Int.reduceLT,Int.reduceGE,Int.reduceGT,Int.reduceNeg,kn,hlt]
theorem zz5 {S:aV} (hs:has S Oy=false) (σ:Store) (id:Nat) (l:List Tx) (h:aB σ.objs id=some (bQ l)) (hl:l.length < 1000000000):∃ σ',(∀ n,l.length < n→W S (n + 1) Oy [.arr k_0 id 0 l.length] σ=some (.ret ⟨false,.tup []⟩,σ'))∧aB σ'.objs id=some (bQ l.reverse)∧σ'.next=σ.next∧σ'.oth=σ.oth∧σ'.tys=σ.tys∧∀ j,j≠id→aB σ'.objs j=aB σ.objs j:=by
 refine ⟨SrS σ id l (l.length / 2),fun n hn=>?_,?_,?_,?_,?_,fun j hj=>?_⟩
 ·obtain ⟨e,he,hd⟩:=zcgb (C:=W S n) (n:=n) σ id l hl
  have hr:=gI (body:=exec (W S n) n none Rh) (ErS id l.length) (SrS σ id l) (l.length / 2) (r:=_) (fun _ _ h=>by cases h) (fun i hi=>zz7 σ id l h hl i hi) he 0 n (by omega) (by omega)
  rw [bC (af:=Zg) hs rfl rfl]
  have w:IntKind.i64.wrap ((l.length:Int) - 1)=(l.length:Int) - 1 - ((0:Nat):Int):=by rw [iQ (by omega) (by omega)]; omega
  have hS:SrS σ id l 0=σ:=rfl
  simp only [ErS,hS,bV] at hr w
  simp only [Zg,sA,Nat.reduceAdd,Nat.reduceSub,Nat.reduceMul,Nat.reduceBEq,Nat.reduceLeDiff,Int.reduceBEq,Int.reduceBNe,Int.reduceLE,Int.reduceLT,Int.reduceGE,Int.reduceGT,Int.reduceNeg,kn,w,hr,hd]
 ·have:=zk7 h (l.length / 2)
  rw [this,zvf]
 ·cases l.length / 2 <;> rfl
 ·cases l.length / 2 <;> rfl
 ·cases l.length / 2 <;> rfl
 ·cases l.length / 2 with
  | zero=>rfl
  | succ i=>exact eK hj
end Go.Fu
