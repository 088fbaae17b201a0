/-
 Numbers that are picked; the document's constructors; leaves.
-/
import Derived.Test.YtldfbnbckiifeaaGreatDoorFgDb
set_option maxHeartbeats 4000000
set_option linter.unusedSimpArgs false
set_option linter.unusedVariables false
set_option linter.unusedSectionVars false
namespace Go.Fu
open Go Go.Mx
set_option maxRecDepth 10000
structure IR (d:D) (xs:List Int):Prop where
 len:lenOf d=some xs.length
 idx:∀ i (h:i < xs.length),dC 1 d i=some (.eptr (.int .i64 xs[i]))
 np:bS d=true
 small:∀ x∈xs,Small x
def Ah (x:Int):Nat:=(if x < 0 then -(x + 1) else x).toNat
def dO (xs:List Int) (at':Nat):Nat:=if h:at' < xs.length then Ah xs[at'] else 0
theorem zu8 {x:Int} (h:Small x):Ah x < 9223372036854775808:=by
 unfold Ah Small at *
 split <;> omega
theorem qB {xs:List Int} (h:∀ x∈xs,Small x) (i:Nat):dO xs i < 9223372036854775808:=by
 unfold dO
 split
 ·exact zu8 (h _ (List.getElem_mem _))
 ·omega
theorem zsa {d:D} {xs:List Int} (hR:IR d xs) (i:Nat) (hi:i < 1099511627776):OkP rP [d,.int .i64 i] ⟨false,.int .i64 (dO xs i:Nat)⟩:=by
 refine eD (af:=Zb) (n:=1) (σ':=σ0) (eR [] 0) rfl rfl (by simp [aX,hR.np,bS]) rfl ?_
 by_cases h:i < xs.length
 ·have h1:¬ ((xs.length:Int)≤(i:Int)):=by omega
  have hx:=hR.idx i h
  have hs:=hR.small _ (List.getElem_mem h)
  have hp:dO xs i=Ah xs[i]:=by simp [dO,h]
  rw [hp]
  generalize xs[i]=x at hx hs
  unfold Small at hs
  by_cases h2:x < 0
  ·have e1:IntKind.i64.wrap (x + 1)=x + 1:=iQ (by omega) (by omega)
   have e2:IntKind.i64.wrap (0 - (x + 1))=(Ah x:Int):=by
    rw [iQ (by omega) (by omega)]
    simp only [Ah,if_pos h2]
    omega
   simp only [Zb,sA,Nat.reduceAdd,Nat.reduceSub,Nat.reduceMul,Nat.reduceBEq,Nat.reduceLeDiff,Int.reduceBEq,Int.reduceBNe,Int.reduceLE,Int.reduceLT,Int.reduceGE,Int.reduceGT,Int.reduceNeg,kn,hR.len,h1,cL,hx,h2,e1,e2]
  ·have e2:x=(Ah x:Int):=by
    simp only [Ah,if_neg h2]
    omega
   simp only [Zb,sA,Nat.reduceAdd,Nat.reduceSub,Nat.reduceMul,Nat.reduceBEq,Nat.reduceLeDiff,Int.reduceBEq,Int.reduceBNe,Int.reduceLE,Int.reduceLT,Int.reduceGE,Int.reduceGT,Int.reduceNeg,kn,hR.len,h1,cL,hx,h2]
   rw [← e2]
 ·have h1:((xs.length:Int)≤(i:Int)):=by omega
  have hp:dO xs i=0:=by simp [dO,h]
  rw [hp]
  simp only [Zb,sA,Nat.reduceAdd,Nat.reduceSub,Nat.reduceMul,Nat.reduceBEq,Nat.reduceLeDiff,Int.reduceBEq,Int.reduceBNe,Int.reduceLE,Int.reduceLT,Int.reduceGE,Int.reduceGT,Int.reduceNeg,kn,hR.len,h1]
  rfl
theorem zi6:OkP uF [] ⟨false,dFs FL⟩:=by
 refine OkP.weak (o:=true) rfl (eD (af:=zd3) (n:=1) (σ':=σ0) (eR [] 0) rfl rfl rfl (by simp [Lp]) ?_)
 simp only [zd3,sA,Nat.reduceAdd,Nat.reduceSub,Nat.reduceMul,Nat.reduceBEq,Nat.reduceLeDiff,Int.reduceBEq,Int.reduceBNe,Int.reduceLE,Int.reduceLT,Int.reduceGE,Int.reduceGT,Int.reduceNeg,kn]
 rfl
def sL:List D→Cell→Prop:=fun ds c=>ds=[]→c=⟨false,dFs FL⟩
theorem Ba {S:aV} (hS:aB S uF=some sL) (n:Nat) (σ:Store):T S (n + 1) uF [] σ=some (.ret ⟨false,dFs FL⟩,σ):=by
 obtain ⟨c,h1,h2⟩:=kZ (S:=S) hS rfl (c:=⟨false,dFs FL⟩) (fun _=>rfl) zi6
 rw [h2,h1 rfl]
theorem jQ (a b:Nat):((a:Int)).tmod (b:Int)=((a % b:Nat):Int):=by rw [Int.tmod_eq_emod_of_nonneg (by omega)]; omega
theorem Ph (a b:Nat):((a:Int)).tdiv (b:Int)=((a / b:Nat):Int):=by rw [Int.tdiv_eq_ediv_of_nonneg (by omega)]; omega
def nqB (s:Tx):Bool:=!s.isEmpty && s.all fun b=>b != 37 && b != 39
def nvB (s:Tx):Bool:=decide (s.length≤5) && nqB s
def Nq (s:Tx):Prop:=nqB s=true
def Nv (s:Tx):Prop:=nvB s=true
theorem Nv.len {s:Tx} (h:Nv s):s.length≤5:=by
 simp only [Nv,nvB,Bool.and_eq_true,decide_eq_true_eq] at h
 exact h.1
theorem Nv.q {s:Tx} (h:Nv s):Nq s:=by
 simp only [Nv,nvB,Bool.and_eq_true] at h
 exact h.2
theorem Nq.no {s:Tx} (h:Nq s):∀ b∈s,b≠37∧b≠39:=fun b hb=>by
 have h1:(!s.isEmpty && s.all fun b=>b != 37 && b != 39)=true:=h
 rw [Bool.and_eq_true] at h1
 have:=List.all_eq_true.1 h1.2 b hb
 simpa using this
theorem Nq.ne {s:Tx} (h:Nq s):s≠[]:=fun e=>by
 subst e
 cases h
inductive Pl:Co→Prop
 | mk {c}:(c.f=1→c.s≠[]∧∀ b∈c.s,b≠39)→(∀ p∈c.bs,Nq p.1)→(∀ a∈c.al,∀ v∈a.1.vars,Nq v)→(∀ b∈c.bs,Pl b.2)→(∀ x∈c.ks,Pl x)→(∀ a∈c.al,Pl a.2)→Pl c
theorem Pl.out {c:Co} (h:Pl c):(c.f=1→c.s≠[]∧∀ b∈c.s,b≠39)∧(∀ p∈c.bs,Nq p.1)∧(∀ a∈c.al,∀ v∈a.1.vars,Nq v)∧(∀ b∈c.bs,Pl b.2)∧(∀ x∈c.ks,Pl x)∧∀ a∈c.al,Pl a.2:=by
 cases h with
 | mk a b c d e f=>exact ⟨a,b,c,d,e,f⟩
def jT (c:Co):Prop:=Shp 5 c∧Pl c
theorem jT.leaf {f n:Int} {s:Tx} (h1:f=1∨f=2∨f=3∨f=11) (h2:Small n) (h3:s.length≤5) (h4:f=1→Nv s):jT (.mk f n s [] [] []) :=
 ⟨.leaf h1 h2 h3,Pl.mk (c:=.mk f n s [] [] []) (fun e=>⟨(h4 e).q.ne,fun b hb=>((h4 e).q.no b hb).2⟩) (fun b hb=>by cases hb) (fun b hb=>by cases hb) (fun b hb=>by cases hb) (fun b hb=>by cases hb) (fun b hb=>by cases hb)⟩
theorem jT.app {s:Tx} {a b:Co} (h:s.length≤5) (ha:jT a) (hb:jT b):jT (.mk 4 0 s [a,b] [] []) :=
 ⟨.app h ha.1 hb.1,Pl.mk (c:=.mk 4 0 s [a,b] [] []) (fun h=>absurd h (by simp [Co.f])) (fun b hb=>by cases hb) (fun b hb=>by cases hb) (fun b hb=>by cases hb) (fun x hx=>by
  simp only [Co.ks,List.mem_cons,List.not_mem_nil,or_false] at hx
  rcases hx with rfl | rfl
  ·exact ha.2
  ·exact hb.2) (fun b hb=>by cases hb)⟩
theorem jT.prim {s:Tx} {a b:Co} (h:s.length≤5) (ha:jT a) (hb:jT b):jT (.mk 10 0 s [a,b] [] []) :=
 ⟨.prim h ha.1 hb.1,Pl.mk (c:=.mk 10 0 s [a,b] [] []) (fun h=>absurd h (by simp [Co.f])) (fun b hb=>by cases hb) (fun b hb=>by cases hb) (fun b hb=>by cases hb) (fun x hx=>by
  simp only [Co.ks,List.mem_cons,List.not_mem_nil,or_false] at hx
  rcases hx with rfl | rfl
  ·exact ha.2
  ·exact hb.2) (fun b hb=>by cases hb)⟩
theorem jT.lt {s:Tx} {b:Co} {bs:List (Tx × Co)} (h:s.length≤5) (h1:∀ p∈bs,Nv p.1) (h2:∀ p∈bs,jT p.2) (hb:jT b):jT (.mk 8 0 s [b] bs []) :=
 ⟨.lt h (fun p hp=>(h1 p hp).len) (fun p hp=>(h2 p hp).1) hb.1,Pl.mk (c:=.mk 8 0 s [b] bs []) (fun h=>absurd h (by simp [Co.f])) (fun p hp=>(h1 p hp).q) (fun b hb=>by cases hb) (fun p hp=>(h2 p hp).2) (fun x hx=>by
  simp only [Co.ks,List.mem_cons,List.not_mem_nil,or_false] at hx
  subst hx
  exact hb.2) (fun b hb=>by cases hb)⟩
theorem jT.cas {s:Tx} {x:Co} {al:List (Hd × Co)} (h:s.length≤5) (h1:∀ a∈al,Small a.1.num∧a.1.name.length≤5∧∀ v∈a.1.vars,Nv v) (hb:jT x) (h2:∀ a∈al,jT a.2):jT (.mk 9 0 s [x] [] al) :=
 ⟨.cas h (fun a ha=>⟨(h1 a ha).1,(h1 a ha).2.1,fun v hv=>((h1 a ha).2.2 v hv).len⟩) hb.1 (fun a ha=>(h2 a ha).1),Pl.mk (c:=.mk 9 0 s [x] [] al) (fun h=>absurd h (by simp [Co.f])) (fun b hb=>by cases hb) (fun a ha v hv=>((h1 a ha).2.2 v hv).q) (fun b hb=>by cases hb) (fun y hy=>by
  simp only [Co.ks,List.mem_cons,List.not_mem_nil,or_false] at hy
  subst hy
  exact hb.2) (fun a ha=>(h2 a ha).2)⟩
theorem zfp:∀ f∈FL,sV FL f.name (-1)=true∧sV FL f.name f.arity=true∧f.name.length≤5∧(f.arity=0∨f.arity=1∨f.arity=2):=by decide
def Zp (f n:Int) (s:Tx):Co:=.mk f n s [] [] []
theorem zza (v:Nat) (hv:v < 9223372036854775808) (ns:List Tx) (h0:ns≠[]) (hn:ns.length < 1000) (h5:∀ s∈ns,Nv s) :
  ∃ c,OkP Ov [.int .i64 v,dSs ns] ⟨false,dCo c⟩∧Good ns c∧jT c∧c.size=1∧hgt c=1:=by
 have mk:∀ {c:Co} {o:Bool} {σ'},lP Ra (fun _ _ _=>none) Ji 0 (exec (T [(uF,sL)] 1) 1 none Ji.body (eT [.int .i64 v,dSs ns]) σ0)=some (.ret ⟨o,dCo c⟩,σ')→OkP Ov [.int .i64 v,dSs ns] ⟨false,dCo c⟩:=fun {c o σ'} hr =>
  OkP.weak (o:=o) rfl (eD (af:=Ji) (n:=1) (σ':=σ') (eR [(uF,sL)] 1) rfl rfl (by simp [aX,bS,cQ]) (iE _) hr)
 have hF:=Ba (S:=[(uF,sL)]) rfl 0 σ0
 have t4:((v:Int)).tmod 4=((v % 4:Nat):Int):=jQ v 4
 have d4:((v:Int)).tdiv 4=((v / 4:Nat):Int):=Ph v 4
 have w4:IntKind.i64.wrap ((v / 4:Nat):Int)=((v / 4:Nat):Int):=iQ (by omega) (by omega)
 by_cases c0:v % 4=0
 ·have t7:(((v / 4:Nat):Int)).tmod 7=((v / 4 % 7:Nat):Int):=jQ _ 7
  have w7:IntKind.i64.wrap (((v / 4 % 7:Nat):Int) - 3)=((v / 4 % 7:Nat):Int) - 3:=iQ (by omega) (by omega)
  have hsm:Small (((v / 4 % 7:Nat):Int) - 3):=by unfold Small; omega
  refine ⟨Zp 3 (((v / 4 % 7:Nat):Int) - 3) [],mk (o:=false) (σ':=σ0) ?_,.int hsm,.leaf (.inr (.inr (.inl rfl))) hsm (by simp) (fun h=>absurd h (by decide)),rfl,rfl⟩
  simp only [Ji,sA,Nat.reduceAdd,Nat.reduceSub,Nat.reduceMul,Nat.reduceBEq,Nat.reduceLeDiff,Int.reduceBEq,Int.reduceBNe,Int.reduceLE,Int.reduceLT,Int.reduceGE,Int.reduceGT,Int.reduceNeg,kn,Zp,cH,jF,co,hF,t4,c0,d4,w4,t7,w7]
  rfl
 ·have ne0:(((v % 4:Nat):Int) == 0)=false:=by simp; omega
  by_cases c1:v % 4=1
  ·have t5:(((v / 4:Nat):Int)).tmod 5=((v / 4 % 5:Nat):Int):=jQ _ 5
   have hj:v / 4 % 5 < FL.length:=Nat.mod_lt _ (by decide)
   have hx:=Oi FL (v / 4 % 5) hj
   have hl:((FL.length:Nat):Int)=5:=rfl
   have hnm:=zfp _ (List.getElem_mem hj)
   generalize FL[v / 4 % 5]=f at hx hnm
   simp only [dF] at hx
   refine ⟨Zp 2 0 f.name,mk (o:=false) (σ':=σ0) ?_,.con hnm.1,.leaf (.inr (.inl rfl)) zS hnm.2.2.1 (fun h=>absurd h (by decide)),rfl,rfl⟩
   simp only [Ji,sA,Nat.reduceAdd,Nat.reduceSub,Nat.reduceMul,Nat.reduceBEq,Nat.reduceLeDiff,Int.reduceBEq,Int.reduceBNe,Int.reduceLE,Int.reduceLT,Int.reduceGE,Int.reduceGT,Int.reduceNeg,kn,Zp,cH,jF,co,hF,t4,c1,d4,w4,rB,hl,t5,cL,hx]
   rfl
  ·have ne1:(((v % 4:Nat):Int) == 1)=false:=by simp; omega
   have hnl:0 < ns.length:=List.length_pos_iff.2 h0
   have tn:(((v / 4:Nat):Int)).tmod (ns.length:Int)=((v / 4 % ns.length:Nat):Int):=jQ _ _
   have hj:v / 4 % ns.length < ns.length:=Nat.mod_lt _ hnl
   have hx:=uV ns (v / 4 % ns.length) hj
   have hz:((ns.length:Int) == 0)=false:=by simp; omega
   have hm:=List.getElem_mem hj
   generalize ns[v / 4 % ns.length]=s at hx hm
   have hany:ns.any (· == s)=true:=List.any_eq_true.2 ⟨s,hm,by simp⟩
   refine ⟨Zp 1 0 s,mk (o:=false) (σ':=σ0) ?_,.var hany,.leaf (.inl rfl) zS (h5 s hm).len (fun _=>h5 s hm),rfl,rfl⟩
   simp only [Ji,sA,Nat.reduceAdd,Nat.reduceSub,Nat.reduceMul,Nat.reduceBEq,Nat.reduceLeDiff,Int.reduceBEq,Int.reduceBNe,Int.reduceLE,Int.reduceLT,Int.reduceGE,Int.reduceGT,Int.reduceNeg,kn,Zp,cH,jF,co,hF,t4,ne0,ne1,d4,w4,nW,hz,tn,cL,hx]
   rfl
end Go.Fu
namespace Go.Fu
open Go Go.Mx
set_option maxRecDepth 10000
def szT:Nat→Nat
 | 0=>1
 | d + 1=>4 * szT d + 10
def szN:Nat→Nat
 | 0=>1
 | d + 1=>4 * szN d + 5
def PT (ns:List Tx) (deep i:Nat):Prop:=ns≠[]∧ns.length + 2 * deep≤100∧(∀ s∈ns,Nv s)∧i + szN deep≤1000000
def Eh (ns:List Tx) (deep i:Nat) (c:Co) (j:Nat):Prop:=Good ns c∧jT c∧c.size≤szT deep∧hgt c≤deep + 1∧j≤i + szN deep
def Xu (d:D) (xs:List Int):List D→Cell→Prop:=fun ds c=>∀ i:Nat,ds=[d,.int .i64 i]→c=⟨false,.int .i64 (dO xs i:Nat)⟩
theorem lF {S:aV} {d:D} {xs:List Int} (hS:aB S rP=some (Xu d xs)) (hR:IR d xs) (i:Nat) (hi:i < 1099511627776) (n:Nat) (σ:Store):T S (n + 1) rP [d,.int .i64 i] σ=some (.ret ⟨false,.int .i64 (dO xs i:Nat)⟩,σ):=by
 obtain ⟨c,h1,h2⟩:=kZ (S:=S) hS rfl (c:=⟨false,.int .i64 (dO xs i:Nat)⟩) (fun j e=>by
  simp only [List.cons.injEq,D.int.injEq,true_and,and_true] at e
  rw [show j=i by omega]) (zsa hR i hi)
 rw [h2,h1 i rfl]
def lS (b:List Tx):D:=.list k_0 (b.map D.str)
theorem zmx (a b:List Tx) (hl:a.length + b.length < 1000000000):OkP qR [dSs a,lS b] ⟨false,dSs (a ++ b)⟩:=by
 have hn:bS (lS b)=true:=by rw [lS,bS]; exact iR (fun _=>rfl) b
 refine OkP.weak (o:=true) rfl (eD (af:=Za) (n:=1) (σ':=σ0) (eR [] 0) rfl rfl (by simp [aX,cQ,hn]) (cQ _) ?_)
 simp only [Za,lS,sA,seval,kn,zfz,mP,Oe a false (by omega),ztk a b true (fun _=>rfl) hl]
theorem zro {a b:List Tx} (h:lS a=lS b):a=b:=by
 simp only [lS,D.list.injEq,true_and] at h
 exact qL (fun h=>by simpa using h) h
theorem zrn {a b:List Tx} (h:lS a=dSs b):a=b:=by
 cases b with
 | nil=>cases h
 | cons x r=>exact zro (b:=x :: r) h
def Nu:List D→Cell→Prop:=fun ds c=>∀ a b,(ds=[dSs a,dSs b]∨ds=[dSs a,lS b])→c=⟨false,dSs (a ++ b)⟩
theorem zm0 {S:aV} (hS:aB S qR=some Nu) (a b:List Tx) (hl:a.length + b.length < 1000000000) (n:Nat) (σ:Store):T S (n + 1) qR [dSs a,dSs b] σ=some (.ret ⟨false,dSs (a ++ b)⟩,σ):=by
 obtain ⟨c,h1,h2⟩:=kZ (S:=S) hS rfl (c:=⟨false,dSs (a ++ b)⟩) (fun a' b' e=>by
  rcases e with e | e
  ·simp only [List.cons.injEq,and_true] at e
   rw [iH e.1,iH e.2]
  ·simp only [List.cons.injEq,and_true] at e
   rw [iH e.1,zrn e.2.symm]) (zqe a b hl)
 rw [h2,h1 a b (.inl rfl)]
theorem Ve {S:aV} (hS:aB S qR=some Nu) (a b:List Tx) (hl:a.length + b.length < 1000000000) (n:Nat) (σ:Store):T S (n + 1) qR [dSs a,lS b] σ=some (.ret ⟨false,dSs (a ++ b)⟩,σ):=by
 obtain ⟨c,h1,h2⟩:=kZ (S:=S) hS rfl (c:=⟨false,dSs (a ++ b)⟩) (fun a' b' e=>by
  rcases e with e | e
  ·simp only [List.cons.injEq,and_true] at e
   rw [iH e.1,zrn e.2]
  ·simp only [List.cons.injEq,and_true] at e
   rw [iH e.1,zro e.2]) (zmx a b hl)
 rw [h2,h1 a b (.inr rfl)]
def zo6 (d:D) (deep:Nat):List D→Cell→Prop:=fun ds c=>∀ (i:Nat) ns,ds=[d,.int .i64 i,dSs ns,.int .i64 deep]→PT ns deep i→∃ co j,c=⟨false,.tup [dCo co,.int .i64 (j:Nat)]⟩∧Eh ns deep i co j
def zU (d:D) (deep:Nat):Prop:=∀ (i:Nat) ns,PT ns deep i→∃ co j,OkP n_7 [d,.int .i64 i,dSs ns,.int .i64 deep] ⟨false,.tup [dCo co,.int .i64 (j:Nat)]⟩∧Eh ns deep i co j
theorem qG {S:aV} {d:D} {deep:Nat} (hS:aB S n_7=some (zo6 d deep)) (hT:zU d deep) (i:Nat) (ns:List Tx) (hp:PT ns deep i):∃ co j,Eh ns deep i co j∧∀ n σ,T S (n + 1) n_7 [d,.int .i64 i,dSs ns,.int .i64 deep] σ=some (.ret ⟨false,.tup [dCo co,.int .i64 (j:Nat)]⟩,σ):=by
 obtain ⟨co,j,h1,h2⟩:=hT i ns hp
 obtain ⟨c,h3,h4⟩:=kZ (S:=S) hS rfl (c:=⟨false,.tup [dCo co,.int .i64 (j:Nat)]⟩) (fun i' ns' e _=>by
  simp only [List.cons.injEq,D.int.injEq,true_and,and_true] at e
  obtain rfl:i=i':=by omega
  obtain rfl:=iH e.2
  exact ⟨co,j,rfl,h2⟩) h1
 obtain ⟨co',j',rfl,h5⟩:=h3 i ns rfl hp
 exact ⟨co',j',h5,h4⟩
def pG (v:Nat):Hd:=if v / 8 % 3=1 then ⟨2,((v / 24 % 5:Nat):Int) - 2,[],[]⟩ else if v / 8 % 3=2∧v / 24 % 2=1 then ⟨3,0,[],[]⟩ else ⟨1,0,(FL.getD (v % 5) f0).name,[[117],[118]].take (FL.getD (v % 5) f0).arity.toNat⟩
theorem ztb:∀ f∈FL,sV FL f.name (([[117],[118]]:List Tx).take f.arity.toNat).length=true:=by decide
theorem zuc (v:Nat):zfr (pG v)∧(pG v).name.length≤5∧(∀ s∈(pG v).vars,Nv s)∧(pG v).vars.length≤2:=by
 unfold pG
 by_cases h1:v / 8 % 3=1
 ·rw [if_pos h1]
  exact ⟨⟨by unfold Small; simp only; omega,rfl,.inr (.inl ⟨rfl,rfl⟩)⟩,by simp,by simp,by simp⟩
 ·rw [if_neg h1]
  by_cases h2:v / 8 % 3=2∧v / 24 % 2=1
  ·rw [if_pos h2]
   exact ⟨⟨zS,rfl,.inr (.inr ⟨rfl,rfl⟩)⟩,by simp,by simp,by simp⟩
  ·rw [if_neg h2]
   have hj:v % 5 < FL.length:=Nat.mod_lt _ (by decide)
   rw [cO FL _ _ hj]
   have hm:=List.getElem_mem hj
   generalize FL[v % 5]=f at hm
   have h3:=zfp f hm
   have h4:=ztb f hm
   refine ⟨⟨zS,?_,.inl ⟨rfl,h4⟩⟩,h3.2.2.1,?_,?_⟩
   ·rcases h3.2.2.2 with e | e | e <;> rw [e] <;> rfl
   ·intro s hs
    have:=List.mem_of_mem_take hs
    simp only [List.mem_cons,List.not_mem_nil,or_false] at this
    rcases this with rfl | rfl <;> rfl
   ·simp only [List.length_take]; simp; omega
section
variable {C:aM} {n:Nat} {σ:Store}
def Ecs (d:D) (ns:List Tx) (deep N0:Nat) (al:List (Hd × Co)) (j k:Nat):Env:={slots:=[(0,⟨false,d⟩),(1,⟨false,.int .i64 j⟩),(2,⟨false,dSs ns⟩),(3,⟨false,.int .i64 (deep + 1:Nat)⟩),(10,⟨false,.int .i64 N0⟩),(11,⟨false,dFs FL⟩),(12,⟨ow k,dAl al⟩),(13,⟨false,.int .i64 k⟩)],locs:=[],boxes:=[],defers:=[]}
end
end Go.Fu
namespace Go.Fu
open Go Go.Mx
set_option maxRecDepth 10000
section
variable {C:aM} {n:Nat} {σ:Store}
set_option maxHeartbeats 8000000 in
theorem zyf (d:D) (ns:List Tx) (deep N0:Nat) (al:List (Hd × Co)) (j k v j':Nat) (c:Co) (hk:k < N0 % 4) (hN:N0 < 9223372036854775808) (hv:v < 9223372036854775808) (hj:j < 1000000) (hd:deep < 1000) (hal:al.length < 100) (hne:al≠[]→ow k=true)
  (h1:C rP [d,.int .i64 j] σ=some (.ret ⟨false,.int .i64 v⟩,σ))
  (h2:C qR [dSs ns,dSs (pG v).vars] σ=some (.ret ⟨false,dSs (ns ++ (pG v).vars)⟩,σ))
  (h3:C n_7 [d,.int .i64 (j + 1:Nat),dSs (ns ++ (pG v).vars),.int .i64 deep] σ=some (.ret ⟨false,.tup [dCo c,.int .i64 j']⟩,σ)) :
  exec C n none Em (Ecs d ns deep N0 al j k) σ=some (.normal,Ecs d ns deep N0 (al ++ [(pG v,c)]) j' (k + 1),σ):=by
 have tN:((N0:Int)).tmod 4=((N0 % 4:Nat):Int):=jQ N0 4
 have hlt:((k:Int) < ((N0 % 4:Nat):Int)):=by omega
 have hl5:((FL.length:Nat):Int)=5:=rfl
 have t5:((v:Int)).tmod 5=((v % 5:Nat):Int):=jQ v 5
 have d8:((v:Int)).tdiv 8=((v / 8:Nat):Int):=Ph v 8
 have w8:IntKind.i64.wrap ((v / 8:Nat):Int)=((v / 8:Nat):Int):=iQ (by omega) (by omega)
 have t3:(((v / 8:Nat):Int)).tmod 3=((v / 8 % 3:Nat):Int):=jQ _ 3
 have d24:((v:Int)).tdiv 24=((v / 24:Nat):Int):=Ph v 24
 have w24:IntKind.i64.wrap ((v / 24:Nat):Int)=((v / 24:Nat):Int):=iQ (by omega) (by omega)
 have t2:(((v / 24:Nat):Int)).tmod 2=((v / 24 % 2:Nat):Int):=jQ _ 2
 have t25:(((v / 24:Nat):Int)).tmod 5=((v / 24 % 5:Nat):Int):=jQ _ 5
 have w25:IntKind.i64.wrap (((v / 24 % 5:Nat):Int) - 2)=((v / 24 % 5:Nat):Int) - 2:=iQ (by omega) (by omega)
 have wj:=aR (i:=j) (by omega)
 have wk:=aR (i:=k) (by omega)
 have wd:IntKind.i64.wrap (((deep + 1:Nat):Int) - 1)=(deep:Int):=by rw [iQ (by omega) (by omega)]; omega
 have hj5:v % 5 < FL.length:=Nat.mod_lt _ (by decide)
 have hx:=Oi FL (v % 5) hj5
 have hFm:=zfp _ (List.getElem_mem hj5)
 have hgd:=cO FL (v % 5) f0 hj5
 have ha:=zdrb al (pG v,c) (ow k) hne (by omega)
 have hdA:=zem (pG v,c)
 rw [hdA] at ha
 unfold pG at h2 h3 ha ⊢
 rw [hgd] at h2 h3 ha ⊢
 generalize FL[v % 5]=f at hx hFm h2 h3 ha
 have hq:v / 8 % 3=0∨v / 8 % 3=1∨v / 8 % 3=2:=by omega
 have hp:v / 24 % 2=0∨v / 24 % 2=1:=by omega
 have ap0:cK k_0 16 ⟨false,.nils⟩ []=some ⟨true,.nils⟩:=Oe [] false (by decide)
 have ap1:cK k_0 16 ⟨false,.nils⟩ [.str [117]]=some ⟨true,.list k_0 [.str [117]]⟩:=Oe [[117]] false (by decide)
 have ap2:cK k_0 16 ⟨false,.nils⟩ [.str [117],.str [118]]=some ⟨true,.list k_0 [.str [117],.str [118]]⟩:=Oe [[117],[118]] false (by decide)
 simp only [dF] at hx
 have p0:Mx.part none [.str f.name,.int .i64 f.tag,.int .i64 f.many,.int .i64 f.arity,.int .i64 0,.int .i64 0,.str [],.nils] 0=some (.str f.name):=rfl
 have p3:Mx.part none [.str f.name,.int .i64 f.tag,.int .i64 f.many,.int .i64 f.arity,.int .i64 0,.int .i64 0,.str [],.nils] 3=some (.int .i64 f.arity):=rfl
 simp only [cH,jF] at h3 ha
 have s0:jS 1 (.list k_0 [.str [117],.str [118]]) 0 (some 0)=some (.list k_0 []):=rfl
 have s1:jS 1 (.list k_0 [.str [117],.str [118]]) 0 (some 1)=some (.list k_0 [.str [117]]):=rfl
 have s2:jS 1 (.list k_0 [.str [117],.str [118]]) 0 (some 2)=some (.list k_0 [.str [117],.str [118]]):=rfl
 have tk1:([[117],[118]]:List Tx).take (1:Int).toNat=[[117]]:=rfl
 have tk2:([[117],[118]]:List Tx).take (2:Int).toNat=[[117],[118]]:=rfl
 have tk0:([[117],[118]]:List Tx).take (0:Int).toNat=[]:=rfl
 have en0:dSs []=.nils:=rfl
 have en1:dSs [[117]]=.list k_0 [.str [117]]:=rfl
 have en2:dSs [[117],[118]]=.list k_0 [.str [117],.str [118]]:=rfl
 have b01:(((0:Nat):Int) == 1)=false:=rfl
 have b02:(((0:Nat):Int) == 2)=false:=rfl
 have b11:(((1:Nat):Int) == 1)=true:=rfl
 have b12:(((1:Nat):Int) == 2)=false:=rfl
 have b21:(((2:Nat):Int) == 1)=false:=rfl
 have b22:(((2:Nat):Int) == 2)=true:=rfl
 rcases hq with q | q | q
 ·rw [if_neg (by omega),if_neg (by omega)] at h2 h3 ha ⊢
  simp only at h2 h3 ha ⊢
  rcases hFm.2.2.2 with e | e | e
  all_goals
   rw [e] at hx p0 p3 h2 h3 ha
   simp only [e,tk0,tk1,tk2,en0,en1,en2,List.append_nil] at h2 h3 ha ⊢
   simp only [Em,Ecs,sA,seval,kn,tN,hlt,h1,rB,hl5,t5,cL,zoj,zhd,zhe,hx,p0,p3,s0,s1,s2,ap0,ap1,ap2,d8,w8,t3,q,b01,b02,wj,wd,h2,h3,ha,wk,qS,okl,mT,gV,mP,kP]
 ·rw [if_pos q] at h2 h3 ha ⊢
  simp only at h2 h3 ha ⊢
  rcases hFm.2.2.2 with e | e | e
  all_goals
   rw [e] at hx p0 p3
   simp only [en0,bV,List.append_nil] at h2 h3 ha ⊢
   simp only [Em,Ecs,sA,seval,kn,tN,hlt,h1,rB,hl5,t5,cL,zoj,zhd,zhe,hx,p0,p3,s0,s1,s2,ap0,ap1,ap2,d8,w8,t3,d24,w24,t25,w25,t2,q,b11,b12,wj,wd,h2,h3,ha,wk,qS,okl,mT,gV,mP,kP]
 ·rw [if_neg (by omega)] at h2 h3 ha ⊢
  rcases hp with p | p
  ·rw [if_neg (by omega)] at h2 h3 ha ⊢
   simp only at h2 h3 ha ⊢
   rcases hFm.2.2.2 with e | e | e
   all_goals
    rw [e] at hx p0 p3 h2 h3 ha
    simp only [e,tk0,tk1,tk2,en0,en1,en2,List.append_nil] at h2 h3 ha ⊢
    simp only [Em,Ecs,sA,seval,kn,tN,hlt,h1,rB,hl5,t5,cL,zoj,zhd,zhe,hx,p0,p3,s0,s1,s2,ap0,ap1,ap2,d8,w8,t3,d24,w24,t2,q,p,b21,b22,b01,wj,wd,h2,h3,ha,wk,qS,okl,mT,gV,mP,kP]
  ·rw [if_pos ⟨q,p⟩] at h2 h3 ha ⊢
   simp only at h2 h3 ha ⊢
   rcases hFm.2.2.2 with e | e | e
   all_goals
    rw [e] at hx p0 p3
    simp only [en0,bV,List.append_nil] at h2 h3 ha ⊢
    simp only [Em,Ecs,sA,seval,kn,tN,hlt,h1,rB,hl5,t5,cL,zoj,zhd,zhe,hx,p0,p3,s0,s1,s2,ap0,ap1,ap2,d8,w8,t3,d24,w24,t25,w25,t2,q,p,b11,b21,b22,wj,wd,h2,h3,ha,wk,qS,okl,mT,gV,mP,kP]
end
end Go.Fu
namespace Go.Fu
open Go Go.Mx
set_option maxRecDepth 10000
section
variable {C:aM} {n:Nat} {σ:Store}
theorem za6b (d:D) (ns:List Tx) (deep N0:Nat) (al:List (Hd × Co)) (j:Nat):exec C n none Em (Ecs d ns deep N0 al j (N0 % 4)) σ=some (.exit 0,{Ecs d ns deep N0 al j (N0 % 4) with slots:=[(0,⟨false,d⟩),(1,⟨false,.int .i64 j⟩),(2,⟨false,dSs ns⟩),(3,⟨false,.int .i64 (deep + 1:Nat)⟩),(10,⟨false,.int .i64 N0⟩),(11,⟨false,dFs FL⟩),(12,⟨ow (N0 % 4),dAl al⟩),(13,⟨false,.int .i64 (N0 % 4:Nat)⟩),(28,⟨false,.bool false⟩)]},σ):=by
 have tN:((N0:Int)).tmod 4=((N0 % 4:Nat):Int):=jQ N0 4
 have hlt:¬ (((N0 % 4:Nat):Int) < ((N0 % 4:Nat):Int)):=by omega
 simp only [Em,Ecs,sA,seval,kn,tN,hlt]
end
theorem zrz (l:List (Hd × Co)):bS (dAl l)=true:=by rw [dAl,jE]; exact iR zut l
def AlP (ns:List Tx) (deep:Nat) (al:List (Hd × Co)):Prop:=∀ a∈al,zfr a.1∧a.1.name.length≤5∧(∀ s∈a.1.vars,Nv s)∧Good (ns ++ a.1.vars) a.2∧jT a.2∧hgt a.2≤deep + 1
def zs9 (ns:List Tx) (deep i:Nat) (al:List (Hd × Co)) (j:Nat):Prop:=AlP ns deep al∧szA al≤3 * (szT deep + 3)∧j≤i + 1 + 3 * (1 + szN deep)
def SCa (d:D) (xs:List Int) (deep:Nat):aV:=[(rP,Xu d xs),(uF,sL),(qR,Nu),(n_7,zo6 d deep)]
theorem zW {d:D} {xs:List Int} (hR:IR d xs) {deep:Nat} (hT:zU d deep) (hd:deep < 1000) (i:Nat) (ns:List Tx) (h0:ns≠[]) (hl:ns.length + 2 * (deep + 1)≤100) (h5:∀ s∈ns,Nv s) (hi:i + 1 + 3 * (1 + szN deep)≤1000000) :
  ∃ al j,OkP Wj [d,.int .i64 i,dSs ns,.int .i64 (deep + 1:Nat)] ⟨false,.tup [dAl al,.int .i64 (j:Nat)]⟩∧zs9 ns deep i al j:=by
 have hp:=lF (S:=SCa d xs deep) rfl hR i (by omega) 0 σ0
 have hF:=Ba (S:=SCa d xs deep) rfl 0 σ0
 have hv:=qB hR.small i
 generalize dO xs i=N0 at hp hv
 have hN4:N0 % 4 < 4:=Nat.mod_lt _ (by decide)
 obtain ⟨r,hr,al,j,rfl,q1,q2,q3,q4⟩:=sD (body:=exec (T (SCa d xs deep) 1) 5 none Em)
  (fun k e σ=>σ=σ0∧∃ al j,e=Ecs d ns deep N0 al j k∧AlP ns deep al∧al.length=k∧szA al≤k * (szT deep + 3)∧j≤i + 1 + k * (1 + szN deep))
  (fun r=>∃ al j,r=(.exit 0,{Ecs d ns deep N0 al j (N0 % 4) with slots:=[(0,⟨false,d⟩),(1,⟨false,.int .i64 j⟩),(2,⟨false,dSs ns⟩),(3,⟨false,.int .i64 (deep + 1:Nat)⟩),(10,⟨false,.int .i64 N0⟩),(11,⟨false,dFs FL⟩),(12,⟨ow (N0 % 4),dAl al⟩),(13,⟨false,.int .i64 (N0 % 4:Nat)⟩),(28,⟨false,.bool false⟩)]},σ0)∧AlP ns deep al∧al.length=N0 % 4∧szA al≤(N0 % 4) * (szT deep + 3)∧j≤i + 1 + (N0 % 4) * (1 + szN deep)) (N0 % 4)
  (fun k e σ hk ⟨hσ,al,j,he,p1,p2,p3,p4⟩=>by
   subst hσ he
   have hkm:(k + 1) * (1 + szN deep)≤3 * (1 + szN deep):=Nat.mul_le_mul_right _ (by omega)
   rw [Nat.succ_mul] at hkm
   have h1:=lF (S:=SCa d xs deep) rfl hR j (by omega) 0 σ0
   have hv1:=qB hR.small j
   generalize dO xs j=v at h1 hv1
   obtain ⟨g1,g2,g3,g4⟩:=zuc v
   have h2:=zm0 (S:=SCa d xs deep) rfl ns (pG v).vars (by omega) 0 σ0
   obtain ⟨c,j',⟨t1,t2,t3,t4,t5⟩,h3⟩:=qG (S:=SCa d xs deep) rfl hT (j + 1) (ns ++ (pG v).vars) ⟨by simp [h0],by rw [List.length_append]; omega,fun s hs=>by
    rcases List.mem_append.1 hs with h | h
    ·exact h5 s h
    ·exact g3 s h,by omega⟩
   refine ⟨_,_,zyf d ns deep N0 al j k v j' c hk hv hv1 (by omega) hd (by omega) (fun h=>?_) h1 h2 (h3 0 σ0),rfl,_,_,rfl,fun a ha=>?_,by simp; omega,?_,?_⟩
   ·cases k with
    | zero=>exact absurd (List.length_eq_zero_iff.1 p2) h
    | succ k=>rfl
   ·rcases List.mem_append.1 ha with h | h
    ·exact p1 a h
    ·rw [List.mem_singleton.1 h]
     exact ⟨g1,g2,g3,t1,t2,t4⟩
   ·rw [zph,Nat.succ_mul]
    simp only [szA]
    omega
   ·rw [Nat.succ_mul]; omega)
  (fun e σ ⟨hσ,al,j,he,p1,p2,p3,p4⟩=>by
   subst hσ he
   exact ⟨_,za6b d ns deep N0 al j,fun _ _ h=>(by cases h),al,j,rfl,p1,p2,p3,p4⟩) 0 5 (Ecs d ns deep N0 [] (i + 1) 0) σ0 (by omega) (by omega)
  ⟨rfl,_,_,rfl,(fun a h=>by cases h),rfl,by simp [szA],by omega⟩
 have hm1:(N0 % 4) * (szT deep + 3)≤3 * (szT deep + 3):=Nat.mul_le_mul_right _ (by omega)
 have hm2:(N0 % 4) * (1 + szN deep)≤3 * (1 + szN deep):=Nat.mul_le_mul_right _ (by omega)
 refine ⟨al,j,eD (af:=zd6) (n:=5) (σ':=σ0) (eR (SCa d xs deep) 1) rfl rfl (by simp [aX,hR.np,bS,cQ]) (by simp [bS,aX,zrz]) ?_,q1,by omega,by omega⟩
 have wi:=aR (i:=i) (by omega)
 have e0:ow 0=false:=rfl
 have e1:dAl []=.nils:=rfl
 simp only [Ecs,bV,e0,e1] at hr
 simp only [zd6,sA,seval,kn,hp,hF,wi,hr]
end Go.Fu
namespace Go.Fu
open Go Go.Mx
set_option maxRecDepth 10000
def spLf:List D→Cell→Prop:=fun ds c=>∀ (v:Nat) ns,ds=[.int .i64 v,dSs ns]→∃ co,c=⟨false,dCo co⟩∧Good ns co∧jT co∧co.size=1∧hgt co=1
theorem zx7 {S:aV} (hS:aB S Ov=some spLf) (v:Nat) (hv:v < 9223372036854775808) (ns:List Tx) (h0:ns≠[]) (hn:ns.length < 1000) (h5:∀ s∈ns,Nv s):∃ co,(Good ns co∧jT co∧co.size=1∧hgt co=1)∧∀ n σ,T S (n + 1) Ov [.int .i64 v,dSs ns] σ=some (.ret ⟨false,dCo co⟩,σ):=by
 obtain ⟨co,h1,h2⟩:=zza v hv ns h0 hn h5
 obtain ⟨c,h3,h4⟩:=kZ (S:=S) hS rfl (c:=⟨false,dCo co⟩) (fun v' ns' e=>by
  simp only [List.cons.injEq,D.int.injEq,true_and,and_true] at e
  obtain rfl:=iH e.2
  exact ⟨co,rfl,h2⟩) h1
 obtain ⟨co',rfl,h5⟩:=h3 v ns rfl
 exact ⟨co',h5,h4⟩
def spCa (d:D) (deep:Nat):List D→Cell→Prop:=fun ds c=>∀ (i:Nat) ns,ds=[d,.int .i64 i,dSs ns,.int .i64 (deep + 1:Nat)]→∃ al j,c=⟨false,.tup [dAl al,.int .i64 (j:Nat)]⟩∧zs9 ns deep i al j
theorem zx6 {S:aV} {d:D} {xs:List Int} {deep:Nat} (hS:aB S Wj=some (spCa d deep)) (hR:IR d xs) (hT:zU d deep) (hd:deep < 1000) (i:Nat) (ns:List Tx) (h0:ns≠[]) (hl:ns.length + 2 * (deep + 1)≤100) (h5:∀ s∈ns,Nv s) (hi:i + 1 + 3 * (1 + szN deep)≤1000000) :
  ∃ al j,zs9 ns deep i al j∧∀ n σ,T S (n + 1) Wj [d,.int .i64 i,dSs ns,.int .i64 (deep + 1:Nat)] σ=some (.ret ⟨false,.tup [dAl al,.int .i64 (j:Nat)]⟩,σ):=by
 obtain ⟨al,j,h1,h2⟩:=zW hR hT hd i ns h0 hl h5 hi
 obtain ⟨c,h3,h4⟩:=kZ (S:=S) hS rfl (c:=⟨false,.tup [dAl al,.int .i64 (j:Nat)]⟩) (fun i' ns' e=>by
  simp only [List.cons.injEq,D.int.injEq,true_and,and_true] at e
  obtain rfl:i=i':=by omega
  obtain rfl:=iH e.2
  exact ⟨al,j,rfl,h2⟩) h1
 obtain ⟨al',j',rfl,h5⟩:=h3 i ns rfl
 exact ⟨al',j',h5,h4⟩
def STm (d:D) (xs:List Int) (deep:Nat):aV:=[(rP,Xu d xs),(Ov,spLf),(qR,Nu),(n_7,zo6 d deep),(Wj,spCa d deep)]
theorem zagb:∀ d,1≤szT d
 | 0=>by simp [szT]
 | d + 1=>by simp only [szT]; omega
theorem zafb:∀ d,1≤szN d
 | 0=>by simp [szN]
 | d + 1=>by simp only [szN]; omega
theorem zme {d:D} {xs:List Int} (hR:IR d xs) (deep i:Nat) (ns:List Tx) (hp:PT ns deep i) (hc:deep=0∨dO xs i % 8 < 2) (hd:deep < 1000) :
  ∃ co j,OkP n_7 [d,.int .i64 i,dSs ns,.int .i64 deep] ⟨false,.tup [dCo co,.int .i64 (j:Nat)]⟩∧Eh ns deep i co j:=by
 obtain ⟨h0,hl,h5,hi⟩:=hp
 have h1:=lF (S:=STm d xs 0) rfl hR i (by omega) 0 σ0
 have hv:=qB hR.small i
 generalize dO xs i=v at h1 hv hc
 obtain ⟨co,⟨g1,g2,g3,g4⟩,h2⟩:=zx7 (S:=STm d xs 0) rfl (v / 8) (by omega) ns h0 (by omega) h5
 have h2:=h2 0 σ0
 have d8:((v:Int)).tdiv 8=((v / 8:Nat):Int):=Ph v 8
 have w8:IntKind.i64.wrap ((v / 8:Nat):Int)=((v / 8:Nat):Int):=iQ (by omega) (by omega)
 have t8:((v:Int)).tmod 8=((v % 8:Nat):Int):=jQ v 8
 have wi:=aR (i:=i) (by omega)
 have hN:=zafb deep
 have hT:=zagb deep
 refine ⟨co,i + 1,eD (af:=sQ) (n:=1) (σ':=σ0) (eR (STm d xs 0) 1) rfl rfl (by simp [aX,hR.np,bS,cQ]) (by simp [bS,aX,iE]) ?_,g1,g2,by omega,by omega,by omega⟩
 simp only [cH,jF] at h2 ⊢
 by_cases hd0:deep=0
 ·subst hd0
  have hle:(((0:Nat):Int)≤0):=by omega
  simp only [sQ,sA,seval,kn,h1,wi,hle,d8,w8,h2,qS,okl,mT]
 ·have hle:¬ ((deep:Int)≤0):=by omega
  have hlt:(((v % 8:Nat):Int) < 2):=by omega
  simp only [sQ,sA,seval,kn,h1,wi,hle,t8,hlt,d8,w8,h2,qS,okl,mT]
end Go.Fu
namespace Go.Fu
open Go Go.Mx
set_option maxRecDepth 10000
set_option maxHeartbeats 4000000
theorem zrh {m:Nat}:∀ l:List (Tx × Co),(∀ x∈l,hgt x.2≤m)→hgB l≤m
 | [],_=>by simp [hgB]
 | (s,y) :: r,h=>by
  have h1:=h (s,y) (by simp)
  have h2:=zrh r fun x hx=>h x (List.mem_cons_of_mem _ hx)
  simp only [hgB] at h1 ⊢
  omega
theorem zrg {m:Nat}:∀ l:List (Hd × Co),(∀ x∈l,hgt x.2≤m)→hgA l≤m
 | [],_=>by simp [hgA]
 | (s,y) :: r,h=>by
  have h1:=h (s,y) (by simp)
  have h2:=zrg r fun x hx=>h x (List.mem_cons_of_mem _ hx)
  simp only [hgA] at h1 ⊢
  omega
theorem vT {D:Nat} (h:D < 1000):IntKind.i64.wrap (((D + 1:Nat):Int) - 1)=(D:Int):=by rw [iQ (by omega) (by omega)]; omega
theorem Yf {d:D} {xs:List Int} (hR:IR d xs) {D i j:Nat} {ns:List Tx} {co:Co} {o:Bool} (hr:lP Ra (fun _ _ _=>none) sQ 0 (exec (T (STm d xs D) 1) 5 none sQ.body (eT [d,.int .i64 i,dSs ns,.int .i64 (D + 1:Nat)]) σ0)=some (.ret ⟨o,.tup [dCo co,.int .i64 j]⟩,σ0)) :
  OkP n_7 [d,.int .i64 i,dSs ns,.int .i64 (D + 1:Nat)] ⟨false,.tup [dCo co,.int .i64 (j:Nat)]⟩ :=
 OkP.weak (o:=o) rfl (eD (af:=sQ) (n:=5) (σ':=σ0) (eR (STm d xs D) 1) rfl rfl (by simp [aX,hR.np,bS,cQ]) (by simp [bS,aX,iE]) hr)
theorem zaib {d:D} {xs:List Int} (hR:IR d xs) (D i:Nat) (ns:List Tx) (hp:PT ns (D + 1) i) (hc:dO xs i % 8=5) (hd:D < 1000) :
  ∃ co j,OkP n_7 [d,.int .i64 i,dSs ns,.int .i64 (D + 1:Nat)] ⟨false,.tup [dCo co,.int .i64 (j:Nat)]⟩∧Eh ns (D + 1) i co j:=by
 obtain ⟨h0,hl,h5,hi⟩:=hp
 have h1:=lF (S:=STm d xs D) rfl hR i (by omega) 0 σ0
 have hv:=qB hR.small i
 generalize dO xs i=v at h1 hv hc
 have t8:((v:Int)).tmod 8=5:=by rw [show ((v:Int)).tmod 8=((v % 8:Nat):Int) from jQ v 8,hc]; rfl
 have wi:=aR (i:=i) (by omega)
 have hle:¬ (((D + 1:Nat):Int)≤0):=by omega
 refine ⟨.mk 11 0 [] [] [] [],i + 1,Yf hR (o:=false) ?_,.fail,.leaf (.inr (.inr (.inr rfl))) zS (by simp) (fun h=>absurd h (by decide)),by simp only [Co.size,szK,szB,szA,szT]; omega,by simp [hgt,hgK,hgB,hgA],by simp only [szN]; omega⟩
 simp only [sQ,sA,seval,kn,h1,wi,hle,t8,cH,jF,co]
 rfl
theorem zcsb {d:D} {xs:List Int} (hR:IR d xs) (D i:Nat) (hT:zU d D) (ns:List Tx) (hp:PT ns (D + 1) i) (hc:dO xs i % 8=6∨dO xs i % 8=7) (hd:D < 1000) :
  ∃ co j,OkP n_7 [d,.int .i64 i,dSs ns,.int .i64 (D + 1:Nat)] ⟨false,.tup [dCo co,.int .i64 (j:Nat)]⟩∧Eh ns (D + 1) i co j:=by
 obtain ⟨h0,hl,h5,hi⟩:=hp
 simp only [szN] at hi
 have h1:=lF (S:=STm d xs D) rfl hR i (by omega) 0 σ0
 have hv:=qB hR.small i
 generalize dO xs i=v at h1 hv hc
 have wi:=aR (i:=i) (by omega)
 have wd:=vT hd
 have hle:¬ (((D + 1:Nat):Int)≤0):=by omega
 obtain ⟨a,j1,⟨a1,a2,a3,a4,a5⟩,h2⟩:=qG (S:=STm d xs D) rfl hT (i + 1) ns ⟨h0,by omega,h5,by omega⟩
 obtain ⟨b,j2,⟨b1,b2,b3,b4,b5⟩,h3⟩:=qG (S:=STm d xs D) rfl hT j1 ns ⟨h0,by omega,h5,by omega⟩
 have h2:=h2 0 σ0
 have h3:=h3 0 σ0
 have hsz:(Co.mk 4 0 [] [a,b] [] []).size=1 + a.size + b.size:=by simp only [Co.size,szK,szB,szA]; omega
 refine ⟨.mk 4 0 [] [a,b] [] [],j2,Yf hR (o:=false) ?_,.app a1 b1,.app (by simp) a2 b2,by rw [hsz]; simp only [szT]; omega,by simp only [hgt,hgK,hgB,hgA]; omega,by simp only [szN]; omega⟩
 have eC:dCs [a,b]=.list k_2 [dCo a,dCo b]:=rfl
 rcases hc with hc | hc
 ·have t8:((v:Int)).tmod 8=6:=by rw [show ((v:Int)).tmod 8=((v % 8:Nat):Int) from jQ v 8,hc]; rfl
  rw [cH (.mk 4 0 [] [a,b] [] []),jF]
  simp only [co,eC]
  simp only [cH,jF] at h2 h3 ⊢
  simp only [sQ,sA,seval,kn,h1,wi,wd,hle,t8,h2,h3,qS,okl,mT]
  rfl
 ·have t8:((v:Int)).tmod 8=7:=by rw [show ((v:Int)).tmod 8=((v % 8:Nat):Int) from jQ v 8,hc]; rfl
  rw [cH (.mk 4 0 [] [a,b] [] []),jF]
  simp only [co,eC]
  simp only [cH,jF] at h2 h3 ⊢
  simp only [sQ,sA,seval,kn,h1,wi,wd,hle,t8,h2,h3,qS,okl,mT]
  rfl
end Go.Fu
namespace Go.Fu
open Go Go.Mx
set_option maxRecDepth 10000
set_option maxHeartbeats 4000000
def zms:List Tx:=[[97,100,100],[115,117,98],[109,117,108],[100,105,118],[101,113],[108,116]]
theorem zx1:∀ s∈zms,(xF s == [])=false∧s.length≤5:=by decide
theorem zajb {d:D} {xs:List Int} (hR:IR d xs) (D i:Nat) (hT:zU d D) (ns:List Tx) (hp:PT ns (D + 1) i) (hc:dO xs i % 8=3) (hd:D < 1000) :
  ∃ co j,OkP n_7 [d,.int .i64 i,dSs ns,.int .i64 (D + 1:Nat)] ⟨false,.tup [dCo co,.int .i64 (j:Nat)]⟩∧Eh ns (D + 1) i co j:=by
 obtain ⟨h0,hl,h5,hi⟩:=hp
 simp only [szN] at hi
 have h1:=lF (S:=STm d xs D) rfl hR i (by omega) 0 σ0
 have hv:=qB hR.small i
 generalize dO xs i=v at h1 hv hc
 have wi:=aR (i:=i) (by omega)
 have wd:=vT hd
 have hle:¬ (((D + 1:Nat):Int)≤0):=by omega
 obtain ⟨a,j1,⟨a1,a2,a3,a4,a5⟩,h2⟩:=qG (S:=STm d xs D) rfl hT (i + 1) ns ⟨h0,by omega,h5,by omega⟩
 obtain ⟨b,j2,⟨b1,b2,b3,b4,b5⟩,h3⟩:=qG (S:=STm d xs D) rfl hT j1 ns ⟨h0,by omega,h5,by omega⟩
 have h2:=h2 0 σ0
 have h3:=h3 0 σ0
 have d8:((v:Int)).tdiv 8=((v / 8:Nat):Int):=Ph v 8
 have w8:IntKind.i64.wrap ((v / 8:Nat):Int)=((v / 8:Nat):Int):=iQ (by omega) (by omega)
 have t6:(((v / 8:Nat):Int)).tmod 6=((v / 8 % 6:Nat):Int):=jQ _ 6
 have hj:v / 8 % 6 < zms.length:=Nat.mod_lt _ (by decide)
 have hx:=uV zms _ hj
 have hs:=zx1 _ (List.getElem_mem hj)
 generalize zms[v / 8 % 6]=s at hx hs
 have hx:dC 1 (.list k_0 [.str [97,100,100],.str [115,117,98],.str [109,117,108],.str [100,105,118],.str [101,113],.str [108,116]]) (v / 8 % 6)=some (.eptr (.str s)):=hx
 have hsz:(Co.mk 10 0 s [a,b] [] []).size=1 + a.size + b.size:=by simp only [Co.size,szK,szB,szA]; omega
 refine ⟨.mk 10 0 s [a,b] [] [],j2,Yf hR (o:=false) ?_,.prim hs.1 a1 b1,.prim hs.2 a2 b2,by rw [hsz]; simp only [szT]; omega,by simp only [hgt,hgK,hgB,hgA]; omega,by simp only [szN]; omega⟩
 have eC:dCs [a,b]=.list k_2 [dCo a,dCo b]:=rfl
 have t8:((v:Int)).tmod 8=3:=by rw [show ((v:Int)).tmod 8=((v % 8:Nat):Int) from jQ v 8,hc]; rfl
 rw [cH (.mk 10 0 s [a,b] [] []),jF]
 simp only [co,eC]
 simp only [cH,jF] at h2 h3 ⊢
 simp only [sQ,sA,seval,kn,h1,wi,wd,hle,t8,h2,h3,qS,okl,mT,d8,w8,t6,cL,hx]
 rfl
theorem zahb {d:D} {xs:List Int} (hR:IR d xs) (D i:Nat) (hT:zU d D) (ns:List Tx) (hp:PT ns (D + 1) i) (hc:dO xs i % 8=2) (hd:D < 1000) :
  ∃ co j,OkP n_7 [d,.int .i64 i,dSs ns,.int .i64 (D + 1:Nat)] ⟨false,.tup [dCo co,.int .i64 (j:Nat)]⟩∧Eh ns (D + 1) i co j:=by
 obtain ⟨h0,hl,h5,hi⟩:=hp
 simp only [szN] at hi
 have h1:=lF (S:=STm d xs D) rfl hR i (by omega) 0 σ0
 have hv:=qB hR.small i
 generalize dO xs i=v at h1 hv hc
 have wi:=aR (i:=i) (by omega)
 have wd:=vT hd
 have hle:¬ (((D + 1:Nat):Int)≤0):=by omega
 obtain ⟨a,j1,⟨a1,a2,a3,a4,a5⟩,h2⟩:=qG (S:=STm d xs D) rfl hT (i + 1) ns ⟨h0,by omega,h5,by omega⟩
 obtain ⟨al,j2,⟨b1,b2,b3⟩,h3⟩:=zx6 (S:=STm d xs D) rfl hR hT hd j1 ns h0 hl h5 (by omega)
 have h2:=h2 0 σ0
 have h3:=h3 0 σ0
 have hsz:(Co.mk 9 0 [] [a] [] al).size=1 + a.size + szA al:=by simp only [Co.size,szK,szB]; omega
 have hh:=zrg al fun x hx=>(b1 x hx).2.2.2.2.2
 refine ⟨.mk 9 0 [] [a] [] al,j2,Yf hR (o:=false) ?_,.cas a1 (fun x hx=>(b1 x hx).1) (fun x hx=>(b1 x hx).2.2.2.1),.cas (by simp) (fun x hx=>⟨(b1 x hx).1.1,(b1 x hx).2.1,(b1 x hx).2.2.1⟩) a2 (fun x hx=>(b1 x hx).2.2.2.2.1),by rw [hsz]; simp only [szT]; omega,by simp only [hgt,hgK,hgB]; omega,by simp only [szN]; omega⟩
 have eC:dCs [a]=.list k_2 [dCo a]:=rfl
 have t8:((v:Int)).tmod 8=2:=by rw [show ((v:Int)).tmod 8=((v % 8:Nat):Int) from jQ v 8,hc]; rfl
 rw [cH (.mk 9 0 [] [a] [] al),jF]
 simp only [co,eC]
 simp only [cH,jF] at h2 h3 ⊢
 simp only [sQ,sA,seval,kn,h1,wi,wd,hle,t8,h2,h3,qS,okl,mT]
 rfl
end Go.Fu
