/-
 Texts that an iterator gives,appended: the round.
-/
import Derived.Test.YtldfbnbckiifeaaGreatDoorFgCm
import Derived.Test.YtldfbnbckiifeaaGreatDoorFgBq
import Derived.Test.YtldfbnbckiifeaaGreatDoorFgE
import Derived.Test.YtldfbnbckiifeaaGreatDoorFgV
import Derived.Test.YtldfbnbckiifeaaGreatDoorFgH
import Derived.Test.YtldfbnbckiifeaaGreatDoorFgCe
import Derived.Test.YtldfbnbckiifeaaGreatDoorFgBo
set_option maxHeartbeats 4000000
set_option linter.unusedSimpArgs false
set_option linter.unusedVariables false
set_option linter.unusedSectionVars false
namespace Go.Fu
open Go Go.Mx
set_option maxRecDepth 10000
set_option maxHeartbeats 4000000
def Γc:FuncId→Option AFun:=fun f=>ifB (f == n_155) (some zc0) (ifB (f == n_136) (some zdh) (ifB (f == n_59 || f == n_58) none (Γa f)))
theorem Γc_holds:Holds Go.Proofs.Tryz.prog Γc:=by
 intro f af h
 unfold Γc at h
 by_cases e:f=n_155
 ·subst e
  simp only [beq_self_eq_true,zac,Option.some.injEq] at h
  subst h
  exact ⟨rfl,_,rfl,zif⟩
 have e':(f == n_155)=false:=by simpa using e
 rw [e',zab] at h
 by_cases e2:f=n_136
 ·subst e2
  simp only [beq_self_eq_true,zac,Option.some.injEq] at h
  subst h
  exact ⟨rfl,_,rfl,zj9⟩
 have e2':(f == n_136)=false:=by simpa using e2
 rw [e2',zab] at h
 obtain ⟨h3,h4⟩:(f == n_59 || f == n_58)=false∧Γa f=some af:=by
  cases hb:(f == n_59 || f == n_58) with
  | true=>rw [hb,zac] at h; cases h
  | false=>rw [hb,zab] at h; exact ⟨rfl,h⟩
 exact Γa_holds f af h4
def Xc:CallF:=fun f ds σ=>ifB (f == n_59) (xSort ds σ) (ifB (f == n_58) (zj4 ds σ) (Xa f ds σ))
theorem zhlb:zc1 Go.Proofs.Tryz.prog κ Xc:=by
 intro f ds σ out σ' h
 unfold Xc at h
 by_cases h1:f=n_59
 ·subst h1
  simp only [beq_self_eq_true,zac] at h
  exact zjxb h
 have e1:(f == n_59)=false:=by simpa using h1
 rw [e1,zab] at h
 by_cases h2:f=n_58
 ·subst h2
  simp only [beq_self_eq_true,zac] at h
  exact zamb h
 have e2:(f == n_58)=false:=by simpa using h2
 rw [e2,zab] at h
 exact zln f ds σ out σ' h
noncomputable def V (n:Nat):CallF:=runS Go.Proofs.Tryz.prog κ Γc Ra Xc [] n
noncomputable def VD (n:Nat):CallF:=runSD Go.Proofs.Tryz.prog κ Γc Ra Xc [] n
theorem zj0b (n:Nat):zc1 Go.Proofs.Tryz.prog κ (V n):=(zml Γc_holds ze5 zhlb n).1
theorem V_fun {n:Nat} {f:FuncId} {af:AFun} {ds:List D} {σ:Store} (h:Γc f=some af) (hl:ds.length=af.nargs):V (n + 1) f ds σ=finX Ra (VD n) af σ.next (exec (V n) n none af.body (zbb ds) σ):=zp5 rfl h hl
theorem V_lib {n:Nat} {f:FuncId} {ds:List D} {σ:Store} (h:Γc f=none) (hY:isY f=false):V (n + 1) f ds σ=Xc f ds σ:=zjbb rfl h hY
theorem zmzb {n:Nat} {ds:List D} {σ:Store}:V (n + 1) (zbl + 3) ds σ=runY (V n) n 3 ds σ:=by
 have h:(fun f=>ifB (has ([]:Specs) f) none (Γc f)) (zbl + 3)=none:=rfl
 have hY:isY (zbl + 3)=true:=rfl
 exact zjab (Γ:=fun f=>ifB (has ([]:Specs) f) none (Γc f)) h hY
def fnV:D:=.fn (.func n_193) [] [.ptr 0 0]
def asg:ACode:=.region [⟨(some 5),.mov (.tmp 7),none⟩] none [6,7]
def RL (s:LSt):LRec:={slots:=[(2,⟨false,.ptr 1 0⟩),(6,⟨false,fnV⟩)],params:=[7],assign:=asg,body:=zbn,st:=s}
structure LK (l:List Tx) (σ:Store) (i:Nat) (d:D):Prop where
 o0:aget σ.objs 0=some [⟨false,dSs l⟩]
 o1:aget σ.objs 1=some [⟨false,d⟩]
 nx:4≤σ.next
 dd:(i=0∧d=.nils)∨(∃ a,d=.arr k_0 a 0 i∧4≤a∧a < σ.next∧aget σ.objs a=some (cStr (l.take i))∧aget σ.tys a=some ⟨k_0.el,k_0.sz⟩)
theorem zjp (l:List Tx):(cStr l).length=l.length:=by simp [cStr]
theorem zj5b (l:List Tx):(cStr l).map (fun c=>Cell.of c.d)=cStr l:=by simp [cStr,Cell.of]
theorem LK.app {l:List Tx} {σ:Store} {i:Nat} {d:D} (h:LK l σ i d) (hi:i < l.length) (hl:l.length < 1000000000):∃ σ2,zbu σ k_0 16 d [.str l[i]]=some (.arr k_0 σ.next 0 (i + 1),σ2)∧σ2.oth=σ.oth∧σ2.next=σ.next + 2∧aget σ2.objs 0=some [⟨false,dSs l⟩]∧aget σ2.objs 1=some [⟨false,d⟩]∧aget σ2.objs σ.next=some (cStr (l.take (i + 1)))∧aget σ2.tys σ.next=some ⟨k_0.el,k_0.sz⟩:=by
 have hnx:=h.nx
 have n0:(σ.next == 0)=false:=beq_false_of_ne (by omega)
 have n1:(σ.next == 1)=false:=beq_false_of_ne (by omega)
 have h1:za3 k_0.sz [.str l[i]]=true:=rfl
 have hce:cellsOf [.str l[i]]=[⟨false,.str l[i]⟩]:=rfl
 have htk:cStr (l.take (i + 1))=cStr (l.take i) ++ [⟨false,.str l[i]⟩]:=by
  show (l.take (i + 1)).map _=_
  rw [← za9 l i hi,List.map_append]
  rfl
 rcases h.dd with ⟨rfl,rfl⟩ | ⟨a,rfl,ha4,han,hao,hat⟩
 ·refine ⟨zbe σ k_0 (cellsOf [.str l[0]]),?_,rfl,rfl,?_,?_,?_,?_⟩
  ·have e1:decide ([D.str l[0]].length * 16≤bound)=true:=rfl
   have e2:decide ([D.str l[0]].length≤bound)=true:=rfl
   simp only [zbu,h1,zac,List.isEmpty_cons,zab]
   rfl
  ·show aget ((σ.next,_) :: σ.objs) 0=_
   rw [aget,n0,zab,h.o0]
  ·show aget ((σ.next,_) :: σ.objs) 1=_
   rw [aget,n1,zab,h.o1]
  ·show aget ((σ.next,_) :: σ.objs) σ.next=_
   rw [aget,beq_self_eq_true,zac,htk,hce]
   rfl
  ·show aget ((σ.next,_) :: σ.tys) σ.next=_
   rw [aget,beq_self_eq_true,zac]
 ·have a0:¬ a=0:=by omega
  have a1:¬ a=1:=by omega
  refine ⟨zbe {σ with objs:=adel1 σ.objs a} k_0 (cStr (l.take (i + 1))),?_,rfl,rfl,?_,?_,?_,?_⟩
  ·have e0:decide (i * k_0.sz≤(cStr (l.take i)).length)=true:=by rw [zjp]; simp [k_0]; omega
   have e1:decide ((i + 1) * 16≤bound)=true:=decide_eq_true (show (i + 1) * 16≤1099511627776 by omega)
   have e2:decide (i + 1≤bound)=true:=decide_eq_true (show i + 1≤1099511627776 by omega)
   have ek:k_0.same k_0=true:=rfl
   have ht:(cStr (l.take i)).take (i * k_0.sz)=cStr (l.take i):=List.take_of_length_le (by rw [zjp]; simp [k_0]; omega)
   simp only [zbu,h1,zac,hao,hat,bindO,zad,ek,beq_self_eq_true,List.length_cons,List.length_nil,Nat.zero_add,e0,e1,e2,Bool.and_self,ht,zj5b,hce,htk]
  ·show aget ((σ.next,_) :: adel1 σ.objs a) 0=_
   rw [aget,n0,zab,zaw,if_neg a0,h.o0]
  ·show aget ((σ.next,_) :: adel1 σ.objs a) 1=_
   rw [aget,n1,zab,zaw,if_neg a1,h.o1]
  ·show aget ((σ.next,_) :: adel1 σ.objs a) σ.next=_
   rw [aget,beq_self_eq_true,zac]
  ·show aget ((σ.next,_) :: σ.tys) σ.next=_
   rw [aget,beq_self_eq_true,zac]
structure WS (l:List Tx) (σ:Store) (i:Nat) (d:D) (s:LSt):Prop where
 k:LK l σ i d
 r:aget σ.oth 3=some (.loop (RL s))
 m:aget σ.oth 2=some .dfr
theorem WS.set {l:List Tx} {σ:Store} {i:Nat} {d:D} {s:LSt} (h:WS l σ i d s) (t:LSt):WS l (zey σ 3 (RL s) t) i d t:=by
 refine ⟨⟨h.k.o0,h.k.o1,h.k.nx,h.k.dd⟩,?_,?_⟩
 ·show aget (aset σ.oth 3 _) 3=_
  rw [zar,if_pos rfl]
  rfl
 ·show aget (aset σ.oth 3 _) 2=_
  rw [zar,if_neg (by decide),h.m]
theorem zhhb {l:List Tx} {σ:Store} {i:Nat} {d:D} (h:WS l σ i d .ready) (hi:i < l.length) (hl:l.length < 1000000000) (N:Nat):∃ σ' d',V (N + 1) (zbl + 3) [.str l[i]] σ=some (.ret ⟨false,.bool true⟩,σ')∧WS l σ' (i + 1) d' .ready:=by
 have hb:=h.set .busy
 obtain ⟨σb,hσb⟩:∃ σb,σb=zey σ 3 (RL .ready) .busy:=⟨_,rfl⟩
 rw [← hσb] at hb
 -- what is appended to: the object is read,its mark taken away
 have hk':LK l {σb with objs:=aset σb.objs 1 [⟨false,d⟩]} i d:=by
  have hk:=hb.k
  refine ⟨?_,?_,hk.nx,?_⟩
  ·show aget (aset σb.objs 1 _) 0=_
   rw [zar,if_neg (by decide),hk.o0]
  ·show aget (aset σb.objs 1 _) 1=_
   rw [zar,if_pos rfl]
  ·rcases hk.dd with h1 | ⟨a,q1,q2,q3,q4,q5⟩
   ·exact .inl h1
   ·refine .inr ⟨a,q1,q2,q3,?_,q5⟩
    show aget (aset σb.objs 1 _) a=_
    rw [zar,if_neg (by omega),q4]
 obtain ⟨σ2,a1,a2,a3,a4,a5,a6,a7⟩:=hk'.app hi hl
 simp only at a1 a2 a3
 obtain ⟨σc,hσc⟩:∃ σc:Store,σc={σ2 with objs:=aset σ2.objs 1 [⟨false,.arr k_0 σb.next 0 (i + 1)⟩]}:=⟨_,rfl⟩
 have hc:WS l σc (i + 1) (.arr k_0 σb.next 0 (i + 1)) .busy:=by
  have hnx:=hb.k.nx
  subst hσc
  refine ⟨⟨?_,?_,?_,.inr ⟨σb.next,rfl,hnx,?_,?_,a7⟩⟩,?_,?_⟩
  ·show aget (aset σ2.objs 1 _) 0=_
   rw [zar,if_neg (by decide),a4]
  ·show aget (aset σ2.objs 1 _) 1=_
   rw [zar,if_pos rfl]
  ·show 4≤σ2.next
   omega
  ·show σb.next < σ2.next
   omega
  ·show aget (aset σ2.objs 1 _) σb.next=_
   rw [zar,if_neg (by omega)]
   exact a6
  ·show aget σ2.oth 3=_
   rw [a2]; exact hb.r
  ·show aget σ2.oth 2=_
   rw [a2]; exact hb.m
 have hbody:exec (V N) N (some 3) zbn {slots:=[(2,⟨false,.ptr 1 0⟩),(5,⟨false,.str l[i]⟩)],locs:=[],boxes:=[],defers:=[]} σb=some (.normal,{slots:=[],locs:=[],boxes:=[],defers:=[]},σc):=by
  have o1:=hb.k.o1
  subst hσc
  have hli:zbq (aset σb.objs 1 [⟨false,d⟩]) (.list k_0 [.str l[i]])=some [.str l[i]]:=rfl
  simp only [zbn,sA,seval,kn,memE,memOp,o1,hli,a1,a5]
 have hasg:exec (V N) N (some 3) asg {slots:=zfr [7] [.str l[i]] (RL .ready).slots,locs:=[],boxes:=[],defers:=[]} σ=some (.normal,{slots:=[(2,⟨false,.ptr 1 0⟩),(5,⟨false,.str l[i]⟩)],locs:=[],boxes:=[],defers:=[]},σ):=by
  simp only [asg,RL,zfr,sA,seval,kn]
 have hf:=hc.set .ready
 refine ⟨_,_,?_,hf⟩
 rw [zmzb]
 have l1:zee σ 3=some (RL .ready):=by simp only [zee,h.r,bindO,zad]
 have l2:zee σc 3=some (RL .busy):=by simp only [zee,hc.r,bindO,zad]
 unfold runY
 simp only [l1,bindO,zad]
 show ifB true (zn4 (V N) N 3 zbn (exec (V N) N (some 3) asg {slots:=zfr [7] [.str l[i]] (RL .ready).slots,locs:=[],boxes:=[],defers:=[]} σ)) none=_
 rw [hasg,zac]
 unfold zn4
 simp only [l1,bindO,zad]
 show ifB true (zn5 (V N) N 3 (exec (V N) N (some 3) zbn {slots:=[(2,⟨false,.ptr 1 0⟩),(5,⟨false,.str l[i]⟩)],locs:=[],boxes:=[],defers:=[]} (zey σ 3 (RL .ready) .busy))) none=_
 rw [← hσb,hbody,zac]
 unfold zn5
 simp only [l2,bindO,zad]
end Go.Fu
namespace Go.Fu
open Go Go.Mx
set_option maxRecDepth 10000
set_option maxHeartbeats 4000000
section
variable {N n:Nat}
def Evl (l:List Tx) (i:Nat):Env:={slots:=[(0,⟨false,.yld 3⟩),(5,⟨false,dSs l⟩),(6,⟨false,.int .i64 l.length⟩),(7,⟨false,.int .i64 i⟩)],locs:=[],boxes:=[],defers:=[]}
theorem zmsb (l:List Tx) (i:Nat) (σ σ':Store) (hi:i < l.length) (hl:l.length < 1000000000) (h1:V N (zbl + 3) [.str l[i]] σ=some (.ret ⟨false,.bool true⟩,σ')):exec (V N) n none a_129 (Evl l i) σ=some (.normal,Evl l (i + 1),σ'):=by
 have hlt:((i:Int) < (l.length:Int)):=by omega
 have w:=zag (i:=i) (by omega)
 have hx:=idx_S l i hi
 have hfn:D.fn? (.yld 3)=some (zbl + 3,[],[]):=rfl
 simp only [a_129,Evl,sA,seval,kn,len_S,hlt,natI,hx,hfn,h1,w]
theorem zozb (l:List Tx) (σ:Store) {C:CallF}:exec C n none a_129 (Evl l l.length) σ=some (.exit 0,{Evl l l.length with slots:=[(0,⟨false,.yld 3⟩),(5,⟨false,dSs l⟩),(6,⟨false,.int .i64 l.length⟩),(7,⟨false,.int .i64 l.length⟩),(8,⟨false,.bool false⟩)]},σ):=by
 have hlt:¬ ((l.length:Int) < (l.length:Int)):=by omega
 simp only [a_129,Evl,sA,seval,kn,hlt]
end
theorem zehb (l:List Tx) (σ:Store) (d:D) (hl:l.length < 1000000000) (h:WS l σ 0 d .ready) (N:Nat) (hN:l.length < N + 1):∃ σ' d',V (N + 2) n_193 [.yld 3,.ptr 0 0] σ=some (.ret ⟨false,.tup []⟩,σ')∧WS l σ' l.length d' .ready:=by
 obtain ⟨r,hr,σ',d',rfl,hw⟩:=zdd (body:=exec (V (N + 1)) (N + 1) none a_129)
  (fun i e σ=>∃ d,e=Evl l i∧WS l σ i d .ready)
  (fun r=>∃ σ' d',r=(.exit 0,{Evl l l.length with slots:=[(0,⟨false,.yld 3⟩),(5,⟨false,dSs l⟩),(6,⟨false,.int .i64 l.length⟩),(7,⟨false,.int .i64 l.length⟩),(8,⟨false,.bool false⟩)]},σ')∧WS l σ' l.length d' .ready) l.length
  (fun i e σ hi ⟨d,he,hw⟩=>by
   subst he
   obtain ⟨σ',d',h1,h2⟩:=zhhb hw hi (by omega) N
   exact ⟨_,_,zmsb l i σ σ' hi (by omega) h1,d',rfl,h2⟩)
  (fun e σ ⟨d,he,hw⟩=>by
   subst he
   exact ⟨_,zozb l σ,fun _ _ h=>(by cases h),σ,d,rfl,hw⟩) 0 (N + 1) (Evl l 0) σ (by omega) (by omega) ⟨d,rfl,h⟩
 refine ⟨σ',d',?_,hw⟩
 rw [V_fun (af:=a_184) rfl rfl]
 have o0:=h.k.o0
 simp only [Evl,zeroI] at hr
 simp only [a_184,sA,seval,kn,len_S,o0,hr]
theorem zr3 {r:LRec} {e:Env} {σ:Store}:enterLoop none r e σ=some (σ.next + 1,{e with defers:=(zbl + σ.next,[]) :: e.defers},{σ with oth:=(σ.next + 1,.loop r) :: (σ.next,.dfr) :: σ.oth,next:=σ.next + 2}):=rfl
def S1 (l:List Tx):Store:={objs:=[(0,[⟨false,dSs l⟩])],tys:=[(0,⟨t_48,0⟩)],oth:=[],next:=1}
theorem ztz (l:List Tx) (hl:l.length < 1000000000) (hne:l≠[]) (N:Nat) (hN:l.length < N + 1):∃ σ4 a,V (N + 3) n_155 [.nils,fnV] (S1 l)=some (.ret ⟨false,.arr k_0 a 0 l.length⟩,σ4)∧aget σ4.objs a=some (cStr l)∧a < σ4.next:=by
 obtain ⟨σ2,hσ2⟩:∃ σ2:Store,σ2={objs:=[(1,[⟨false,.nils⟩]),(0,[⟨false,dSs l⟩])],tys:=[(1,⟨t_48,0⟩),(0,⟨t_48,0⟩)],oth:=[(3,.loop (RL .ready)),(2,.dfr)],next:=4}:=⟨_,rfl⟩
 have hw:WS l σ2 0 .nils .ready:=by
  subst hσ2
  exact ⟨⟨rfl,rfl,Nat.le_refl _,.inl ⟨rfl,rfl⟩⟩,rfl,rfl⟩
 obtain ⟨σ3,d',hv,h3⟩:=zehb l σ2 .nils hl hw N hN
 have hpos:l.length≠0:=fun h=>hne (List.length_eq_zero_iff.1 h)
 obtain ⟨a,rfl,ha4,han,hao,hat⟩:∃ a,d'=.arr k_0 a 0 l.length∧4≤a∧a < σ3.next∧aget σ3.objs a=some (cStr (l.take l.length))∧aget σ3.tys a=some ⟨k_0.el,k_0.sz⟩:=by
  rcases h3.k.dd with h | h
  ·exact absurd h.1 hpos
  ·exact h
 rw [List.take_length] at hao
 refine ⟨{objs:=aset σ3.objs 1 [⟨false,.arr k_0 a 0 l.length⟩],tys:=σ3.tys,oth:=adel1 (adel1 σ3.oth 3) 2,next:=σ3.next},a,?_,?_,han⟩
 ·rw [V_fun (af:=zc0) rfl rfl]
  have hfn:D.fnF? fnV=some (n_193,[],[.ptr 0 0]):=rfl
  have l3:zee σ3 3=some (RL .ready):=by simp only [zee,h3.r,bindO,zad]
  have he:∀ e:Env,endLoop 3 e σ3=some (.normal,e,{σ3 with oth:=adel1 σ3.oth 3}):=fun e=>by
   simp only [endLoop,l3,bindO,zad]
   rfl
  have o1:=h3.k.o1
  have hY:isY (zbl + 2)=true:=rfl
  have hsub:zbl + 2 - zbl=2:=rfl
  have hm:aget (adel1 σ3.oth 3) 2=some .dfr:=by rw [zaw,if_neg (by decide),h3.m]
  rw [hσ2] at hv
  simp only [RL,asg] at hv
  simp only [S1,zc0,sA,seval,kn,memE,memOp,snap,zoz,zrh,zr3,hfn,hv,he,o1,hY,hsub,hm]
 ·show aget (aset σ3.objs 1 _) a=_
  rw [zar,if_neg (by omega),hao]
end Go.Fu
namespace Go.Fu
open Go Go.Mx
set_option maxRecDepth 10000
set_option maxHeartbeats 4000000
theorem ztr (l:List Tx):(sortS l).length=l.length:=by simp [sortS]
theorem zjkb (k:RowK) (hk:k.sz=1) (l:List Tx) (hne:l≠[]) (hl:l.length < 1000000000) (a:Nat) (σ:Store) (h:aget σ.objs a=some (cStr l)) (n:Nat):V (n + 1) n_59 [.arr k a 0 l.length] σ=some (.ret ⟨false,.tup []⟩,{σ with objs:=aset σ.objs a (cStr (sortS l))}):=by
 rw [V_lib rfl rfl]
 have hx:Xc n_59 [.arr k a 0 l.length] σ=xSort [.arr k a 0 l.length] σ:=rfl
 have hpos:l.length≠0:=fun h=>hne (List.length_eq_zero_iff.1 h)
 have e1:decide (0 < l.length)=true:=decide_eq_true (by omega)
 have e2:decide (l.length≤bound)=true:=decide_eq_true (show l.length≤1099511627776 by omega)
 have e3:(k.sz == 1)=true:=by rw [hk]; rfl
 rw [hx]
 simp only [xSort,h,bindO,zad,zjp,beq_self_eq_true,e1,e2,e3,Bool.and_self,zac,zmp]
theorem zyd (k:RowK) (hk:k.sz=1) (l:List Tx) (hne:l≠[]) (hl:l.length < 1000000000) (a:Nat) (σ:Store) (h:aget σ.objs a=some (cStr l)) (n:Nat):∃ σ',V (n + 1) n_58 [.arr k a 0 l.length] σ=some (.ret ⟨false,.arr k a 0 (Lib.compact l).length⟩,σ'):=by
 rw [V_lib rfl rfl]
 have hx:Xc n_58 [.arr k a 0 l.length] σ=zj4 [.arr k a 0 l.length] σ:=rfl
 have hpos:l.length≠0:=fun h=>hne (List.length_eq_zero_iff.1 h)
 have e1:decide (0 < l.length)=true:=decide_eq_true (by omega)
 have e2:decide (l.length≤bound)=true:=decide_eq_true (show l.length≤1099511627776 by omega)
 have e3:(k.sz == 1)=true:=by rw [hk]; rfl
 rw [hx]
 exact ⟨_,by simp only [zj4,h,bindO,zad,zjp,beq_self_eq_true,e1,e2,e3,Bool.and_self,zac,zmp]; rfl⟩
theorem zdsb (l:List Tx) (hl:l.length < 1000000000) (hne:l≠[]) (N:Nat) (hN:l.length < N + 1):∃ σ5 a,V (N + 5) n_260 [fnV] (S1 l)=some (.ret ⟨false,.arr k_0 a 0 l.length⟩,σ5)∧aget σ5.objs a=some (cStr (sortS l))∧a < σ5.next:=by
 obtain ⟨σ4,a,h1,h2,h3⟩:=ztz l hl hne N hN
 have hc:V (N + 4) n_258 [fnV] (S1 l)=some (.ret ⟨false,.arr k_0 a 0 l.length⟩,σ4):=by
  rw [V_fun (af:=a_181) rfl rfl]
  simp only [a_181,sA,seval,kn,h1]
 have hs:=zjkb k_0 rfl l hne hl a σ4 h2 (N + 3)
 refine ⟨{σ4 with objs:=aset σ4.objs a (cStr (sortS l))},a,?_,?_,h3⟩
 ·rw [V_fun (af:=a_182) rfl rfl]
  simp only [a_182,sA,seval,kn,hc,hs]
 ·show aget (aset σ4.objs a _) a=_
  rw [zar,if_pos rfl]
theorem zql (l:List Tx):cStr l=cellsOf (l.map D.str):=by
 induction l with
 | nil=>rfl
 | cons x r ih =>
  simp only [cStr,List.map_cons,cellsOf] at ih ⊢
  rw [ih]
  rfl
theorem zu2:∀ l:List Tx,za3 k_0.sz (l.map D.str)=true
 | []=>rfl
 | x :: r=>by simp only [List.map_cons,za3,zu2 r]; rfl
theorem ze6b (l:List Tx) (hl:l.length < 1000000000) (a:Nat) (σ:Store) (h:aget σ.objs a=some (cStr l)) (ha:a < σ.next) (n:Nat):∃ σ' b,V (n + 1) n_136 [.arr k_0 a 0 l.length] σ=some (.ret ⟨false,.arr k_0 b 0 l.length⟩,σ')∧aget σ'.objs b=some (cStr l):=by
 have e:∀ d∈l.map D.str,d.cells.length=k_0.sz∧packD k_0 d.cells=d:=fun d hd=>by
  obtain ⟨x,_,rfl⟩:=List.mem_map.1 hd
  exact ⟨rfl,rfl⟩
 have he:=zh3 e
 rw [List.length_map,← zql] at he
 obtain ⟨σx,hσx⟩:∃ σx,σx=zbe σ k_0 []:=⟨_,rfl⟩
 have n1:(σ.next == a)=false:=beq_false_of_ne (by omega)
 have hli:zbq σx.objs (.arr k_0 a 0 l.length)=some (l.map D.str):=by
  have hg:aget σx.objs a=some (cStr l):=by
   subst hσx
   show aget ((σ.next,[]) :: σ.objs) a=_
   rw [aget,n1,zab,h]
  have e0:decide ((0 + l.length) * k_0.sz≤(cStr l).length)=true:=by rw [zjp]; simp [k_0]
  have ek:(k_0.ag || k_0.sz == 1)=true:=rfl
  simp only [zbq,hg,bindO,zad,ek,e0,Bool.and_self,zac,he]
 have hap:zbu σx k_0 16 (.arr k_0 σ.next 0 0) (l.map D.str)=some (.arr k_0 σx.next 0 (0 + l.length),zbe {σx with objs:=adel1 σx.objs σ.next} k_0 (cStr l)):=by
  have hg:aget σx.objs σ.next=some []:=by
   subst hσx
   show aget ((σ.next,[]) :: σ.objs) σ.next=_
   rw [aget,beq_self_eq_true,zac]
  have ht:aget σx.tys σ.next=some ⟨k_0.el,k_0.sz⟩:=by
   subst hσx
   show aget ((σ.next,_) :: σ.tys) σ.next=_
   rw [aget,beq_self_eq_true,zac]
  have ek:k_0.same k_0=true:=rfl
  have e0:decide (0 * k_0.sz≤([]:List Cell).length)=true:=rfl
  have e1:decide ((0 + l.length) * 16≤bound)=true:=decide_eq_true (show (0 + l.length) * 16≤1099511627776 by omega)
  have e2:decide (0 + l.length≤bound)=true:=decide_eq_true (show 0 + l.length≤1099511627776 by omega)
  simp only [zbu,zu2,zac,hg,ht,bindO,zad,ek,beq_self_eq_true,List.length_map,e0,e1,e2,Bool.and_self,List.take_nil,List.map_nil,List.nil_append,zql]
 rw [Nat.zero_add] at hap
 refine ⟨zbe {σx with objs:=adel1 σx.objs σ.next} k_0 (cStr l),σx.next,?_,?_⟩
 ·rw [V_fun (af:=zdh) rfl rfl]
  have hbu:zbe σ k_0 (cellsOf [])=σx:=by rw [hσx]; rfl
  simp only [zdh,sA,seval,kn,memE,memOp,hbu,hli,hap]
 ·show aget ((σx.next,cStr l) :: _) σx.next=_
  rw [aget,beq_self_eq_true,zac]
theorem zvu (l:List Tx) (hl:l.length < 1000000000) (hne:l≠[]):OkP n_42 [dSs l] ⟨false,.bool (decide ((Lib.compact (sortS l)).length < l.length))⟩:=by
 obtain ⟨σ5,a,h1,h2,h3⟩:=zdsb l hl hne l.length (by omega)
 have hsl:=ztr l
 have hs0:sortS l≠[]:=fun h=>by
  rw [h] at hsl
  exact hne (List.length_eq_zero_iff.1 hsl.symm)
 obtain ⟨σ6,b,h4,h5⟩:=ze6b (sortS l) (by omega) a σ5 h2 h3 (l.length + 4)
 obtain ⟨σ7,h6⟩:=zyd k_0 rfl (sortS l) hs0 (by omega) b σ6 h5 (l.length + 4)
 rw [hsl] at h4 h6
 have hv:V (l.length + 5) n_261 [dSs l] σ0=some (.ret ⟨false,fnV⟩,S1 l):=by
  rw [V_fun (af:=a_183) rfl rfl]
  have hok:(dSs l).ok=true:=by cases l <;> rfl
  have hce:(dSs l).cells=[dSs l]:=by cases l <;> rfl
  simp only [a_183,sA,seval,kn,memE,memOp,σ0,fnV,S1,hok,hce]
 have hlen:∀ (m:Nat),decide ((m:Int) < (l.length:Int))=decide (m < l.length):=fun m=>by
  by_cases h:m < l.length
  ·rw [decide_eq_true h,decide_eq_true (by omega)]
  ·rw [decide_eq_false h,decide_eq_false (by omega)]
 have hok:=Γa_holds n_42 a_96 rfl
 obtain ⟨hY,fn,hfn,hok⟩:=hok
 refine zgn (zj0b (l.length + 5)) ze5 hY hfn hok rfl (by simp [zal,zau]) rfl (n:=1) (σ':=σ7) ?_
 have hr:finX Ra (fun _ _ _=>none) a_96 0 (exec (V (l.length + 5)) 1 none a_96.body (zbb [dSs l]) σ0)=some (.ret ⟨false,.bool (decide ((Lib.compact (sortS l)).length < l.length))⟩,σ7):=by
  rw [← hlen]
  simp only [a_96,sA,seval,kn,hv,h1,h4,h6]
 unfold finX at hr
 exact hr
end Go.Fu
namespace Go.Fu
open Go Go.Mx
set_option maxRecDepth 10000
theorem zxr (l:List Tx):zce l=true↔¬ l.Nodup:=by
 constructor
 ·intro h hn
  unfold zce at h
  obtain ⟨i,hi,h⟩:=List.any_eq_true.1 h
  obtain ⟨k,hk,h⟩:=List.any_eq_true.1 h
  have hi:=List.mem_range.1 hi
  have hk:=List.mem_range.1 hk
  rw [zaq _ _ _ hi,zaq _ _ _ (by omega)] at h
  have he:l[i]=l[k]:=by simpa using h
  have:=(List.getElem_inj hn).1 he
  omega
 ·intro h
  refine Classical.byContradiction fun hf=>h ?_
  rw [List.nodup_iff_pairwise_ne,List.pairwise_iff_getElem]
  intro k i hk hi hki he
  apply hf
  refine List.any_eq_true.2 ⟨i,List.mem_range.2 hi,List.any_eq_true.2 ⟨k,List.mem_range.2 hki,?_⟩⟩
  rw [zaq _ _ _ hi,zaq _ _ _ hk,he]
  simp
theorem zb6b (z:List Tx):(Lib.compact z).length < z.length↔∃ j,0 < j∧j < z.length∧z.toArray[j]! =z.toArray[j - 1]!:=by
 have hlen:(Lib.compact z).length=((List.range z.length).filter (Lib.keeps z.toArray)).length:=by
  unfold Lib.compact Lib.compactUpTo
  rw [List.length_map]
 rw [hlen]
 constructor
 ·intro h
  refine Classical.byContradiction fun hn=>?_
  have hall:(List.range z.length).filter (Lib.keeps z.toArray)=List.range z.length:=by
   rw [List.filter_eq_self]
   intro j hj
   have hj:=List.mem_range.1 hj
   refine Classical.byContradiction fun hk=>hn ?_
   by_cases h0:0 < j
   ·refine ⟨j,h0,hj,Classical.byContradiction fun hne=>hk (Lib.keeps_pos hne)⟩
   ·exact absurd (Lib.keeps_lt_one z.toArray j (by omega)) hk
  rw [hall,List.length_range] at h
  omega
 ·rintro ⟨j,h0,hj,he⟩
  have hk:=Lib.keeps_neg h0 he
  refine Nat.lt_of_le_of_ne (Nat.le_trans (List.length_filter_le _ _) (by simp)) fun hc=>?_
  have hall:=List.length_filter_eq_length_iff.1 (hc.trans (List.length_range).symm)
  have:=hall j (List.mem_range.2 hj)
  rw [hk] at this
  cases this
theorem le_tr (a b c:Tx):decide (a≤b)=true→decide (b≤c)=true→decide (a≤c)=true:=fun h1 h2=>decide_eq_true (List.le_trans (of_decide_eq_true h1) (of_decide_eq_true h2))
theorem zn6b (a b:Tx):(decide (a≤b) || decide (b≤a))=true:=by
 rcases List.le_total a b with h | h
 ·rw [decide_eq_true h]; rfl
 ·rw [decide_eq_true h,Bool.or_true]
theorem zjjb (l:List Tx):(sortS l).Pairwise fun a b=>a≤b:=by
 have h:=List.pairwise_mergeSort (le:=fun x y:Tx=>decide (x≤y)) le_tr zn6b l
 exact h.imp fun h=>of_decide_eq_true h
theorem zemb (z:List Tx) (hp:z.Pairwise fun a b=>a≤b):(∃ j,0 < j∧j < z.length∧z.toArray[j]! =z.toArray[j - 1]!)↔¬ z.Nodup:=by
 have hget:∀ j (hj:j < z.length),z.toArray[j]! =z[j]:=fun j hj=>by simp [hj]
 constructor
 ·rintro ⟨j,h0,hj,he⟩ hn
  rw [hget j hj,hget (j - 1) (by omega)] at he
  have:=(List.getElem_inj hn).1 he
  omega
 ·intro h
  refine Classical.byContradiction fun hf=>h ?_
  rw [List.nodup_iff_pairwise_ne,List.pairwise_iff_getElem]
  intro i k hi hk hik he
  -- between them all are the same
  apply hf
  refine ⟨i + 1,by omega,by omega,?_⟩
  rw [hget (i + 1) (by omega),hget (i + 1 - 1) (by omega)]
  have hpw:=List.pairwise_iff_getElem.1 hp
  have h1:z[i]≤z[i + 1]'(by omega):=hpw i (i + 1) hi (by omega) (by omega)
  have h2:z[i + 1]'(by omega)≤z[k]:=by
   by_cases hk1:i + 1=k
   ·subst hk1; exact List.le_refl _
   ·exact hpw (i + 1) k (by omega) hk (by omega)
  rw [← he] at h2
  exact List.le_antisymm h2 h1
theorem zjpb (l:List Tx):decide ((Lib.compact (sortS l)).length < l.length)=zce l:=by
 have hperm:(sortS l).Perm l:=List.mergeSort_perm l _
 have hl:=ztr l
 rw [Bool.eq_iff_iff,decide_eq_true_eq,zxr,← hperm.nodup_iff,← zemb _ (zjjb l),← zb6b,hl]
theorem zyu (l:List Tx) (hl:l.length < 1000000000) (hne:l≠[]):OkP n_42 [dSs l] ⟨false,.bool (zce l)⟩:=by
 rw [← zjpb]
 exact zvu l hl hne
def ztv:List D→Cell→Prop:=fun ds c=>∀ l,ds=[dSs l]→l≠[]→c=⟨false,.bool (zce l)⟩
theorem zx8 {S:Specs} (hS:aget S n_42=some ztv) (l:List Tx) (hl:l.length < 1000000000) (hne:l≠[]) (n:Nat) (σ:Store):T S (n + 1) n_42 [dSs l] σ=some (.ret ⟨false,.bool (zce l)⟩,σ):=by
 obtain ⟨c,h1,h2⟩:=T_orc (S:=S) hS rfl (c:=⟨false,.bool (zce l)⟩) (fun l' e _=>by
  simp only [List.cons.injEq,and_true] at e
  rw [zba e]) (zyu l hl hne)
 rw [h2,h1 l rfl hne]
end Go.Fu
namespace Go.Fu
open Go Go.Mx
set_option maxRecDepth 10000
set_option maxHeartbeats 8000000
def nmM (cs:List Cd):List Tx:=cs.map fun c=>c.name
theorem zv7 (cs:List Cd) (i:Nat) (h:i < cs.length):nmM (cs.take i) ++ [cs[i].name]=nmM (cs.take (i + 1)):=by
 rw [nmM,nmM,← za9 cs i h,List.map_append]
 rfl
def zfy (fs:List Fd) (cs:List Cd):Bool:=ifB (zce (nmM cs)) false (ifB (fs.any fun f=>!((nmM cs).any (· == f.name))) false (!(cs.any fun c=>!(zb6 fs (nmM cs) c))))
section
variable {C:CallF} {n:Nat} {σ:Store}
def Ech0 (fs:List Fd) (cs:List Cd) (i:Nat):Env:={slots:=[(0,⟨false,dFs fs⟩),(1,⟨false,dDs cs⟩),(5,⟨ow i,dSs (nmM (cs.take i))⟩),(6,⟨false,.int .i64 i⟩)],locs:=[],boxes:=[],defers:=[]}
theorem zhyb (fs:List Fd) (cs:List Cd) (i:Nat) (h:i < cs.length) (hl:cs.length < 1000000000):exec C n none a_97 (Ech0 fs cs i) σ=some (.normal,Ech0 fs cs (i + 1),σ):=by
 have hlt:((i:Int) < (cs.length:Int)):=by omega
 have w:=zag (i:=i) (by omega)
 have hx:=idx_D cs i h
 have ha:=ze6 (nmM (cs.take i)) cs[i].name (ow i) (fun hne=>by
  cases i with
  | zero=>exact absurd rfl hne
  | succ i=>rfl) (by simp [nmM]; omega)
 rw [zv7 cs i h] at ha
 generalize cs[i]=c at hx ha
 obtain ⟨nm,ar,b⟩:=c
 simp only [dD] at hx
 simp only at ha
 have hp0:∀ (a b c:D),Mx.part none [a,b,c] 0=some a:=fun _ _ _=>rfl
 simp only [a_97,Ech0,sA,seval,kn,len_D,hlt,natI,hx,hp0,ha,w,zco]
theorem zkdb (fs:List Fd) (cs:List Cd):exec C n none a_97 (Ech0 fs cs cs.length) σ=some (.exit 0,{Ech0 fs cs cs.length with slots:=[(0,⟨false,dFs fs⟩),(1,⟨false,dDs cs⟩),(5,⟨ow cs.length,dSs (nmM (cs.take cs.length))⟩),(6,⟨false,.int .i64 cs.length⟩),(15,⟨false,.bool false⟩)]},σ):=by
 have hlt:¬ ((cs.length:Int) < (cs.length:Int)):=by omega
 simp only [a_97,Ech0,sA,seval,kn,len_D,hlt]
def Ech1 (o:Bool) (fs:List Fd) (cs:List Cd) (ns:List Tx) (i:Nat):Env:={slots:=[(0,⟨false,dFs fs⟩),(1,⟨false,dDs cs⟩),(5,⟨o,dSs ns⟩),(8,⟨false,.int .i64 i⟩)],locs:=[],boxes:=[],defers:=[]}
def ch4:Env:={slots:=[(4,⟨false,.bool false⟩)],locs:=[],boxes:=[],defers:=[]}
theorem zhzb (o:Bool) (fs:List Fd) (cs:List Cd) (ns:List Tx) (i:Nat) (h:i < fs.length) (hl:fs.length < 1000000000) (h1:∀ s σ,C n_18 [dSs ns,.str s] σ=some (.ret ⟨false,.bool (ns.any (· == s))⟩,σ)) (hq:(!(ns.any (· == (fs.getD i f0).name)))=false):exec C n none a_61 (Ech1 o fs cs ns i) σ=some (.normal,Ech1 o fs cs ns (i + 1),σ):=by
 rw [zaq _ _ _ h] at hq
 have hlt:((i:Int) < (fs.length:Int)):=by omega
 have w:=zag (i:=i) (by omega)
 have hx:=idx_F fs i h
 generalize fs[i]=f at hx hq
 have h2:=h1 f.name σ
 rw [show ns.any (· == f.name)=true by simpa using hq] at h2
 simp only [dF] at hx
 simp only [a_61,Ech1,sA,seval,kn,Mx.part,len_F,hlt,natI,hx,h2,w]
theorem zh0b (o:Bool) (fs:List Fd) (cs:List Cd) (ns:List Tx) (i:Nat) (h:i < fs.length) (h1:∀ s σ,C n_18 [dSs ns,.str s] σ=some (.ret ⟨false,.bool (ns.any (· == s))⟩,σ)) (hq:(!(ns.any (· == (fs.getD i f0).name)))=true):exec C n none a_61 (Ech1 o fs cs ns i) σ=some (.ret,ch4,σ):=by
 rw [zaq _ _ _ h] at hq
 have hlt:((i:Int) < (fs.length:Int)):=by omega
 have hx:=idx_F fs i h
 generalize fs[i]=f at hx hq
 have h2:=h1 f.name σ
 rw [show ns.any (· == f.name)=false by simpa using hq] at h2
 simp only [dF] at hx
 simp only [a_61,Ech1,ch4,sA,seval,kn,Mx.part,len_F,hlt,natI,hx,h2]
theorem zkeb (o:Bool) (fs:List Fd) (cs:List Cd) (ns:List Tx):exec C n none a_61 (Ech1 o fs cs ns fs.length) σ=some (.exit 2,{Ech1 o fs cs ns fs.length with slots:=[(0,⟨false,dFs fs⟩),(1,⟨false,dDs cs⟩),(5,⟨o,dSs ns⟩),(8,⟨false,.int .i64 fs.length⟩),(32,⟨false,.bool false⟩)]},σ):=by
 have hlt:¬ ((fs.length:Int) < (fs.length:Int)):=by omega
 simp only [a_61,Ech1,sA,seval,kn,len_F,hlt]
def Ech2 (o:Bool) (fs:List Fd) (cs:List Cd) (ns:List Tx) (i:Nat):Env:={slots:=[(0,⟨false,dFs fs⟩),(1,⟨false,dDs cs⟩),(5,⟨o,dSs ns⟩),(10,⟨false,.int .i64 i⟩)],locs:=[],boxes:=[],defers:=[]}
def cC0:Cd:=⟨[],0,[]⟩
theorem zh1b (o:Bool) (fs:List Fd) (cs:List Cd) (ns:List Tx) (i:Nat) (h:i < cs.length) (hl:cs.length < 1000000000) (h1:∀ σ,C n_45 [dFs fs,dSs ns,dD (cs.getD i cC0)] σ=some (.ret ⟨false,.bool (zb6 fs ns (cs.getD i cC0))⟩,σ)) (hq:(!(zb6 fs ns (cs.getD i cC0)))=false):exec C n none a_62 (Ech2 o fs cs ns i) σ=some (.normal,Ech2 o fs cs ns (i + 1),σ):=by
 have hlt:((i:Int) < (cs.length:Int)):=by omega
 have w:=zag (i:=i) (by omega)
 have hx:=idx_D cs i h
 rw [← zaq cs i cC0 h] at hx
 have h2:=h1 σ
 rw [show zb6 fs ns (cs.getD i cC0)=true by simpa using hq] at h2
 generalize cs.getD i cC0=c at hx h2
 simp only [dD] at hx h2
 simp only [a_62,Ech2,sA,seval,kn,len_D,hlt,natI,hx,h2,w]
theorem zh2b (o:Bool) (fs:List Fd) (cs:List Cd) (ns:List Tx) (i:Nat) (h:i < cs.length) (h1:∀ σ,C n_45 [dFs fs,dSs ns,dD (cs.getD i cC0)] σ=some (.ret ⟨false,.bool (zb6 fs ns (cs.getD i cC0))⟩,σ)) (hq:(!(zb6 fs ns (cs.getD i cC0)))=true):exec C n none a_62 (Ech2 o fs cs ns i) σ=some (.ret,ch4,σ):=by
 have hlt:((i:Int) < (cs.length:Int)):=by omega
 have hx:=idx_D cs i h
 rw [← zaq cs i cC0 h] at hx
 have h2:=h1 σ
 rw [show zb6 fs ns (cs.getD i cC0)=false by simpa using hq] at h2
 generalize cs.getD i cC0=c at hx h2
 simp only [dD] at hx h2
 simp only [a_62,Ech2,ch4,sA,seval,kn,len_D,hlt,natI,hx,h2]
theorem zkfb (o:Bool) (fs:List Fd) (cs:List Cd) (ns:List Tx):exec C n none a_62 (Ech2 o fs cs ns cs.length) σ=some (.exit 4,{Ech2 o fs cs ns cs.length with slots:=[(0,⟨false,dFs fs⟩),(1,⟨false,dDs cs⟩),(5,⟨o,dSs ns⟩),(10,⟨false,.int .i64 cs.length⟩),(47,⟨false,.bool false⟩)]},σ):=by
 have hlt:¬ ((cs.length:Int) < (cs.length:Int)):=by omega
 simp only [a_62,Ech2,sA,seval,kn,len_D,hlt]
end
def SCk:Specs:=[(n_26,zmo),(n_18,sp_in),(n_45,zw9)]
theorem zzo (fs:List Fd) (cs:List Cd) (hf:fs.length < 100000000) (hc:cs.length < 300000000) (hb:∀ c∈cs,c.body.length < 300000000):OkP n_88 [dFs fs,dDs cs] ⟨false,.bool (zfy fs cs)⟩:=by
 refine zas (af:=a_83) (n:=1000000000) (σ':=σ0) (zav SCk 1) rfl rfl (by simp [zal,zde,ze3]) rfl ?_
 have hl:(nmM cs).length=cs.length:=by simp [nmM]
 have h0:=za6 (body:=exec (T SCk 1) 1000000000 none a_97) (fun i=>Ech0 fs cs i) (fun _=>σ0) cs.length (r:=_) (fun _ _ h=>by cases h) (fun i hi=>zhyb fs cs i hi (by omega)) (zkdb fs cs) 0 1000000000 (by omega) (by omega)
 have ht:=zhc (S:=SCk) rfl (nmM cs) (by omega) 0 σ0
 have hI:∀ s σ,T SCk 1 n_18 [dSs (nmM cs),.str s] σ=some (.ret ⟨false,.bool ((nmM cs).any (· == s))⟩,σ):=fun s σ=>zji (S:=SCk) rfl (nmM cs) s (by omega) 0 σ
 have h1:=ze8 (body:=exec (T SCk 1) 1000000000 none a_61) (Ech1 (ow cs.length) fs cs (nmM cs)) σ0 fs.length (fun i=>!((nmM cs).any (· == (fs.getD i f0).name))) (fun _ _ h=>by cases h) (fun _ _ h=>by cases h) (fun i hi hq=>zhzb _ fs cs _ i hi (by omega) hI hq) (fun i hi hq=>zh0b _ fs cs _ i hi hI hq) (zkeb _ fs cs _) 1000000000 (by omega)
 rw [zh9 fs f0 (fun f=>!((nmM cs).any (· == f.name)))] at h1
 have hK:∀ i,i < cs.length→∀ σ,T SCk 1 n_45 [dFs fs,dSs (nmM cs),dD (cs.getD i cC0)] σ=some (.ret ⟨false,.bool (zb6 fs (nmM cs) (cs.getD i cC0))⟩,σ):=fun i hi σ=>zbsb (S:=SCk) rfl fs _ _ (by omega) (by omega) (by rw [zaq _ _ _ hi]; exact hb _ (List.getElem_mem hi)) 0 σ
 have h2:=ze8 (body:=exec (T SCk 1) 1000000000 none a_62) (Ech2 (ow cs.length) fs cs (nmM cs)) σ0 cs.length (fun i=>!(zb6 fs (nmM cs) (cs.getD i cC0))) (fun _ _ h=>by cases h) (fun _ _ h=>by cases h) (fun i hi hq=>zh1b _ fs cs _ i hi (by omega) (hK i hi) hq) (fun i hi hq=>zh2b _ fs cs _ i hi (hK i hi) hq) (zkfb _ fs cs _) 1000000000 (by omega)
 rw [zh9 cs cC0 (fun c=>!(zb6 fs (nmM cs) c))] at h2
 unfold zfy
 rw [List.take_length] at h0
 have e0:nmM (cs.take 0)=[]:=rfl
 have e1:dSs []=.nils:=rfl
 simp only [Ech0,zeroI,e0,e1,zfo] at h0
 simp only [Ech1,ch4,zeroI] at h1
 simp only [Ech2,ch4,zeroI] at h2
 generalize nmM cs=ns at *
 cases b1:zce ns with
 | true =>
  rw [b1] at ht
  simp only [zac,a_83,sA,seval,kn,h0,ht]
 | false =>
  rw [b1] at ht
  cases b2:(fs.any fun f=>!(ns.any (· == f.name))) with
  | true =>
   rw [b2] at h1
   simp only [zac] at h1
   simp only [zac,zab,a_83,sA,seval,kn,h0,ht,h1]
  | false =>
   rw [b2] at h1
   simp only [zab] at h1
   cases b3:(cs.any fun c=>!(zb6 fs ns c)) with
   | true =>
    rw [b3] at h2
    simp only [zac] at h2
    simp only [zab,a_83,sA,seval,kn,h0,ht,h1,h2]
   | false =>
    rw [b3] at h2
    simp only [zab] at h2
    simp only [zab,a_83,sA,seval,kn,h0,ht,h1,h2]
end Go.Fu
namespace Go.Fu
open Go Go.Mx
set_option maxRecDepth 10000
set_option maxHeartbeats 8000000
theorem zyc (c:Cd):OkP n_41 [dD c] ⟨false,.str c.name⟩:=by
 refine zas (af:=a_160) (n:=1) (σ':=σ0) (zav [] 1) rfl rfl (by simp [zal,zmb]) rfl ?_
 simp only [a_160,dD,sA,seval,kn]
def zko:List D→Cell→Prop:=fun ds c=>∀ x,ds=[dD x]→c=⟨false,.str x.name⟩
theorem zx5 {S:Specs} (hS:aget S n_41=some zko) (x:Cd) (n:Nat) (σ:Store):T S (n + 1) n_41 [dD x] σ=some (.ret ⟨false,.str x.name⟩,σ):=by
 obtain ⟨c,h1,h2⟩:=T_orc (S:=S) hS rfl (c:=⟨false,.str x.name⟩) (fun a h=>by
  simp only [List.cons.injEq,and_true] at h
  rw [zqr h]) (zyc x)
 rw [h2,h1 x rfl]
def nmF:D:=.fn (.func n_41) [] []
section
variable {C:CallF} {n:Nat} {σ:Store}
def Enc (cs:List Cd) (i:Nat):Env:={slots:=[(1,⟨false,nmF⟩),(5,⟨ow i,dSs (nmM (cs.take i))⟩),(8,⟨false,dDs cs⟩),(9,⟨false,.int .i64 cs.length⟩),(10,⟨false,.int .i64 i⟩)],locs:=[],boxes:=[],defers:=[]}
theorem zlob (cs:List Cd) (i:Nat) (h:i < cs.length) (hl:cs.length < 1000000000) (h1:∀ x σ,C n_41 [dD x] σ=some (.ret ⟨false,.str x.name⟩,σ)):exec C n none a_95 (Enc cs i) σ=some (.normal,Enc cs (i + 1),σ):=by
 have hlt:((i:Int) < (cs.length:Int)):=by omega
 have w:=zag (i:=i) (by omega)
 have hx:=idx_D cs i h
 have ha:=ze6 (nmM (cs.take i)) cs[i].name (ow i) (fun hne=>by
  cases i with
  | zero=>exact absurd rfl hne
  | succ i=>rfl) (by simp [nmM]; omega)
 rw [zv7 cs i h] at ha
 have h2:=h1 cs[i] σ
 have hfn:D.fn? nmF=some (n_41,[],[]):=rfl
 generalize cs[i]=c at hx ha h2
 obtain ⟨nm,ar,b⟩:=c
 simp only [dD] at hx h2
 simp only at ha
 simp only [a_95,Enc,sA,seval,kn,hlt,natI,hx,hfn,h2,ha,w,zco]
theorem zocb (cs:List Cd):exec C n none a_95 (Enc cs cs.length) σ=some (.exit 0,{Enc cs cs.length with slots:=[(1,⟨false,nmF⟩),(5,⟨ow cs.length,dSs (nmM (cs.take cs.length))⟩),(8,⟨false,dDs cs⟩),(9,⟨false,.int .i64 cs.length⟩),(10,⟨false,.int .i64 cs.length⟩),(11,⟨false,.bool false⟩)]},σ):=by
 have hlt:¬ ((cs.length:Int) < (cs.length:Int)):=by omega
 simp only [a_95,Enc,sA,seval,kn,hlt]
end
theorem zyt (cs:List Cd) (hl:cs.length < 300000000):OkP n_147 [dDs cs,nmF] ⟨false,dSs (nmM cs)⟩:=by
 refine OkP.weak (o:=ow cs.length) rfl (zas (af:=a_164) (n:=1000000000) (σ':=σ0) (zav [(n_41,zko)] 1) rfl rfl (by simp [zal,ze3,nmF,noPtr]) (zau _) ?_)
 have h0:=za6 (body:=exec (T [(n_41,zko)] 1) 1000000000 none a_95) (fun i=>Enc cs i) (fun _=>σ0) cs.length (r:=_) (fun _ _ h=>by cases h) (fun i hi=>zlob cs i hi (by omega) (fun x σ=>zx5 (S:=[(n_41,zko)]) rfl x 0 σ)) (zocb cs) 0 1000000000 (by omega) (by omega)
 rw [List.take_length] at h0
 have e0:nmM (cs.take 0)=[]:=rfl
 have e1:dSs []=.nils:=rfl
 simp only [Enc,zeroI,e0,e1,zfo] at h0
 simp only [a_164,sA,seval,kn,len_D,h0]
theorem zatb {a b:List Cd} (h:dDs a=dDs b):a=b:=zhq zqr (ze2 h)
def ztu:List D→Cell→Prop:=fun ds c=>∀ cs,ds=[dDs cs,nmF]→c=⟨false,dSs (nmM cs)⟩
theorem zx7 {S:Specs} (hS:aget S n_147=some ztu) (cs:List Cd) (hl:cs.length < 300000000) (n:Nat) (σ:Store):T S (n + 1) n_147 [dDs cs,nmF] σ=some (.ret ⟨false,dSs (nmM cs)⟩,σ):=by
 obtain ⟨c,h1,h2⟩:=T_orc (S:=S) hS rfl (c:=⟨false,dSs (nmM cs)⟩) (fun a h=>by
  simp only [List.cons.injEq,and_true] at h
  rw [zatb h]) (zyt cs hl)
 rw [h2,h1 cs rfl]
def SGc:Specs:=[(n_147,ztu),(n_42,ztv),(n_16,zk1),(n_87,ztt)]
theorem zm2b (n:Nat) (ns:List Tx) (hn:ns.length < 1000000000) (f:Fd) (σ:Store) (h:aget σ.objs 1=some [⟨false,dSs ns⟩]):T SGc (n + 2) n_186 [dF f,.ptr 1 0] σ=some (.ret ⟨false,.bool (!(ns.any (· == f.name)))⟩,σ):=by
 rw [T_fun (af:=a_161) rfl rfl rfl]
 have hc:=zmr (S:=SGc) rfl ns f.name hn n σ
 generalize ns.any (· == f.name)=b at hc ⊢
 simp only [a_161,dF,sA,seval,kn,h,hc]
theorem zm3b (n:Nat) (fs:List Fd) (ns:List Tx) (hf:fs.length < 100000000) (hn:ns.length < 1000000000) (c:Cd) (hb:c.body.length < 300000000) (σ:Store) (h0:aget σ.objs 0=some [⟨false,dFs fs⟩]) (h:aget σ.objs 1=some [⟨false,dSs ns⟩]):T SGc (n + 2) n_187 [dD c,.ptr 0 0,.ptr 1 0] σ=some (.ret ⟨false,.bool (!(zb6 fs ns c))⟩,σ):=by
 rw [T_fun (af:=a_162) rfl rfl rfl]
 have hc:=zx6 (S:=SGc) rfl fs ns c hf hn hb n σ
 generalize zb6 fs ns c=b at hc ⊢
 simp only [dD] at hc
 simp only [a_162,dD,sA,seval,kn,h0,h,hc]
theorem zyq (fs:List Fd) (cs:List Cd) (hf:fs.length < 100000) (hc:cs.length < 300000000) (hne:cs≠[]) (hb:∀ c∈cs,c.body.length < 300000000):OkP n_56 [dFs fs,dDs cs] ⟨false,.bool (zfy fs cs)⟩:=by
 have hl:(nmM cs).length=cs.length:=by simp [nmM]
 have hnn:nmM cs≠[]:=fun h=>by
  rw [h] at hl
  exact hne (List.length_eq_zero_iff.1 hl.symm)
 obtain ⟨N,hN⟩:∃ N,N=fs.length + cs.length + 2:=⟨_,rfl⟩
 obtain ⟨σ1,hσ1⟩:∃ σ1:Store,σ1={objs:=[(1,[⟨false,dSs (nmM cs)⟩]),(0,[⟨false,dFs fs⟩])],tys:=[(1,⟨t_48,0⟩),(0,⟨t_202,0⟩)],oth:=[],next:=2}:=⟨_,rfl⟩
 have o0:aget σ1.objs 0=some [⟨false,dFs fs⟩]:=by rw [hσ1]; rfl
 have o1:aget σ1.objs 1=some [⟨false,dSs (nmM cs)⟩]:=by rw [hσ1]; rfl
 have k1:=zx7 (S:=SGc) rfl cs (by omega) (N + 3)
 have k2:=zx8 (S:=SGc) rfl (nmM cs) (by omega) hnn (N + 3) σ1
 have k3:=zm8 (S:=SGc) rfl rfl (N + 2) fs (.fn (.func n_186) [] [.ptr 1 0]) n_186 [.ptr 1 0] (fun f=>!((nmM cs).any (· == f.name))) rfl (by omega) (by omega) σ1 (fun i _=>zm2b N (nmM cs) (by omega) _ σ1 o1)
 have k4:=zyb (S:=SGc) rfl rfl (N + 2) cs (.fn (.func n_187) [] [.ptr 0 0,.ptr 1 0]) n_187 [.ptr 0 0,.ptr 1 0] (fun c=>!(zb6 fs (nmM cs) c)) rfl (by omega) (by omega) σ1 (fun i hi=>zm3b N fs (nmM cs) (by omega) (by omega) _ (by rw [zaq _ _ _ hi]; exact hb _ (List.getElem_mem hi)) σ1 o0 o1)
 refine zas (af:=a_80) (n:=1) (σ':=σ1) (zav SGc (N + 4)) rfl rfl (by simp [zal,zde,ze3]) rfl ?_
 have okF:(dFs fs).ok=true:=by cases fs <;> rfl
 have ceF:(dFs fs).cells=[dFs fs]:=by cases fs <;> rfl
 have okS:(dSs (nmM cs)).ok=true:=by cases nmM cs <;> rfl
 have ceS:(dSs (nmM cs)).cells=[dSs (nmM cs)]:=by cases nmM cs <;> rfl
 have onS:(dSs (nmM cs)).one=true:=by cases nmM cs <;> rfl
 unfold zfy
 simp only [nmF] at k1
 generalize zce (nmM cs)=b1 at k2 ⊢
 generalize (fs.any fun f=>!((nmM cs).any (· == f.name)))=b2 at k3 ⊢
 generalize (cs.any fun c=>!(zb6 fs (nmM cs) c))=b3 at k4 ⊢
 generalize nmM cs=ns at *
 subst hσ1
 cases b1 with
 | true=>simp only [zac,a_80,sA,seval,kn,memE,memOp,σ0,k1,okF,ceF,okS,ceS,onS,k2]
 | false =>
  cases b2 with
  | true=>simp only [zac,zab,a_80,sA,seval,kn,memE,memOp,σ0,k1,okF,ceF,okS,ceS,onS,k2,k3]
  | false =>
   cases b3 with
   | true=>simp only [zac,zab,a_80,sA,seval,kn,memE,memOp,σ0,k1,okF,ceF,okS,ceS,onS,k2,k3,k4]
   | false=>simp only [zac,zab,a_80,sA,seval,kn,memE,memOp,σ0,k1,okF,ceF,okS,ceS,onS,k2,k3,k4]
end Go.Fu
namespace Go.Fu
open Go Go.Mx
set_option maxRecDepth 10000
set_option maxHeartbeats 4000000
section
variable {C:CallF} {n:Nat} {σ:Store}
end
end Go.Fu
