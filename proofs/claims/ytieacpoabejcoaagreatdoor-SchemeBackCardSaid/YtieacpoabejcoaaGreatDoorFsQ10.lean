/-
 The program's variables in the place of numbers,run: what it lays in the store it gives up again.
-/
import Derived.Test.YtieacpoabejcoaaGreatDoorFsQ1
import Derived.Test.YtieacpoabejcoaaGreatDoorFsX0
set_option maxHeartbeats 4000000
set_option linter.unusedSimpArgs false
set_option linter.unusedVariables false
set_option linter.unusedSectionVars false
namespace Go.Fu
open Go Go.Mx
set_option maxRecDepth 10000
def arrS (σ:Store) (t u:Tp) (k:Nat):Store:={objs:=(σ.next + 2,bT t ++ bT u) :: σ.objs,tys:=(σ.next + 2,⟨k_2.el,4⟩) :: (σ.next,⟨k_2.el,4⟩) :: σ.tys,oth:=σ.oth,next:=σ.next + 4 + k}
theorem zckb {σ:Store} (h:WF σ) (t u:Tp) (k:Nat):WF (arrS σ t u k):=by
 refine ⟨fun p hp=>?_,fun p hp=>?_,fun p hp=>?_⟩
 ·simp only [arrS,List.mem_cons] at hp ⊢
  rcases hp with rfl | hp
  ·simp only; omega
  ·have:=h.objs p hp; omega
 ·simp only [arrS,List.mem_cons] at hp ⊢
  rcases hp with rfl | rfl | hp
  ·simp only; omega
  ·simp only; omega
  ·have:=h.tys p hp; omega
 ·have:=h.oth p hp
  simp only [arrS]; omega
theorem zc2b (t u:Tp):Evly fun n=>∀ σ,WF σ→T n n_21 [.list k_2 [dT t,dT u]] σ=some (.ret ⟨false,.arr k_2 (σ.next + 2) 0 2⟩,arrS σ t u 0):=any _ fun n σ hw=>by
 rw [T_fun (af:=zcf) rfl rfl]
 have h1:=zll σ.objs σ.next hw.objs
 have b1:(decide (112≤bound))=true:=by decide
 have b2:(decide (2≤bound))=true:=by decide
 simp only [zcf,sA,Nat.reduceAdd,Nat.reduceSub,Nat.reduceMul,Nat.reduceBEq,Nat.reduceLeDiff,Int.reduceBEq,Int.reduceBNe,Int.reduceLE,Int.reduceLT,Int.reduceGE,Int.reduceGT,Int.reduceNeg,kn,memE,memOp,zzs,dT_eq,cT,zav,cellsOf,zbr,zdp,rowOf,h1,b1,b2,List.take_nil]
 rfl
theorem zls:Evly fun n=>∀ σ,T n n_21 [.nils] σ=some (.ret ⟨false,.nils⟩,σ):=any _ fun n σ=>by
 rw [T_fun (af:=zcf) rfl rfl]
 simp only [zcf,sA,Nat.reduceAdd,Nat.reduceSub,Nat.reduceMul,Nat.reduceBEq,Nat.reduceLeDiff,Int.reduceBEq,Int.reduceBNe,Int.reduceLE,Int.reduceLT,Int.reduceGE,Int.reduceGT,Int.reduceNeg,kn]
section
variable {C:CallF} {n:Nat}
def Esv (ms:List Nat) (f a:Tp) (id i:Nat):Env:={slots:=[(1,⟨false,dNs ms⟩),(2,⟨false,dSs (ms.map tn)⟩),(29,⟨false,.arr k_2 id 0 2⟩),(30,⟨false,.int .i64 2⟩),(31,⟨false,.int .i64 i⟩)],locs:=[(3,3,0),(6,6,0)],boxes:=[(3,[⟨false,.int .i64 4⟩,⟨false,.int .i64 0⟩,⟨false,.str []⟩,⟨false,.arr k_2 id 0 2⟩]),(6,z4)],defers:=[]}
theorem zgyb (σ:Store) (ms:List Nat) (f a:Tp) (k1:Nat) (hc:C n_31 [dT f,dNs ms,dSs (ms.map tn)] (arrS σ f a 0)=some (.ret ⟨false,dT (varT ms f)⟩,bump (arrS σ f a 0) k1)) :
  exec C n none za4 (Esv ms f a (σ.next + 2) 0) (arrS σ f a 0)=some (.normal,Esv ms f a (σ.next + 2) 1,arrS σ (varT ms f) a k1):=by
 rw [dT_eq f,dT_eq (varT ms f)] at hc
 have h02:(0:Nat) < 2:=by decide
 have h12:(1:Nat) < 2:=by decide
 have w01:IntKind.i64.wrap (0 + 1)=1:=by decide
 have w12:IntKind.i64.wrap (1 + 1)=2:=by decide
 simp only [cT,arrS,bT,bump,List.cons_append,List.nil_append,Nat.add_zero] at hc
 simp only [za4,Esv,z4,sA,Nat.reduceAdd,Nat.reduceSub,Nat.reduceMul,Nat.reduceBEq,Nat.reduceLeDiff,Int.reduceBEq,Int.reduceBNe,Int.reduceLE,Int.reduceLT,Int.reduceGE,Int.reduceGT,Int.reduceNeg,kn,zeroI,lit1,lit2,lit3,lit4,lit5,lit6,lit7,lit8,memE,memOp,arrS,bT,zbw,h02,h12,w01,w12,hc]
theorem zgzb (σ:Store) (ms:List Nat) (f a:Tp) (k1 k2:Nat) (hc:C n_31 [dT a,dNs ms,dSs (ms.map tn)] (arrS σ f a k1)=some (.ret ⟨false,dT (varT ms a)⟩,bump (arrS σ f a k1) k2)) :
  exec C n none za4 (Esv ms f a (σ.next + 2) 1) (arrS σ f a k1)=some (.normal,Esv ms f a (σ.next + 2) 2,bump (arrS σ f (varT ms a) k1) k2):=by
 rw [dT_eq a,dT_eq (varT ms a)] at hc
 have h02:(0:Nat) < 2:=by decide
 have h12:(1:Nat) < 2:=by decide
 have w01:IntKind.i64.wrap (0 + 1)=1:=by decide
 have w12:IntKind.i64.wrap (1 + 1)=2:=by decide
 simp only [cT,arrS,bT,bump,List.cons_append,List.nil_append,Nat.add_zero] at hc
 simp only [za4,Esv,z4,sA,Nat.reduceAdd,Nat.reduceSub,Nat.reduceMul,Nat.reduceBEq,Nat.reduceLeDiff,Int.reduceBEq,Int.reduceBNe,Int.reduceLE,Int.reduceLT,Int.reduceGE,Int.reduceGT,Int.reduceNeg,kn,zeroI,lit1,lit2,lit3,lit4,lit5,lit6,lit7,lit8,memE,memOp,arrS,bT,bump,zbw,h02,h12,w01,w12,hc]
def Ese (ms:List Nat) (id:Nat):Env:={slots:=[(1,⟨false,dNs ms⟩),(2,⟨false,dSs (ms.map tn)⟩),(29,⟨false,.arr k_2 id 0 2⟩),(30,⟨false,.int .i64 2⟩),(31,⟨false,.int .i64 2⟩),(32,⟨false,.bool false⟩)],locs:=[(3,3,0),(6,6,0)],boxes:=[(3,[⟨false,.int .i64 4⟩,⟨false,.int .i64 0⟩,⟨false,.str []⟩,⟨false,.arr k_2 id 0 2⟩]),(6,z4)],defers:=[]}
theorem znrb (σ:Store) (ms:List Nat) (f a:Tp) (id:Nat):exec C n none za4 (Esv ms f a id 2) σ=some (.exit 0,Ese ms id,σ):=by
 simp only [za4,Esv,Ese,z4,sA,Nat.reduceAdd,Nat.reduceSub,Nat.reduceMul,Nat.reduceBEq,Nat.reduceLeDiff,Int.reduceBEq,Int.reduceBNe,Int.reduceLE,Int.reduceLT,Int.reduceGE,Int.reduceGT,Int.reduceNeg,kn,zeroI,lit1,lit2,lit3,lit4,lit5,lit6,lit7,lit8]
end
theorem zfwb (t u:Tp):elems k_2 (bT t ++ bT u) 0 2=[.agg (cT t),.agg (cT u)]:=rfl
theorem zmqb (ms:List Nat) (t u:Tp) (id:Nat) (σ σ1:Store) (ho:σ1.objs=(id,bT t ++ bT u) :: σ.objs) (hn:adel1 σ.objs id=σ.objs) :
  zbo [.box 3] (Ese ms id) σ1=some ({Ese ms id with boxes:=[(3,[⟨false,.int .i64 4⟩,⟨false,.int .i64 0⟩,⟨false,.str []⟩,⟨false,.list k_2 [dT t,dT u]⟩]),(6,z4)]},{objs:=σ.objs,tys:=σ1.tys,oth:=σ1.oth,next:=σ1.next}):=by
 have hk:(k_2.ag || k_2.sz == 1)=true:=rfl
 have hz:k_2.sz=4:=rfl
 have hlen:(decide ((0 + 2) * 4≤(bT t ++ bT u).length))=true:=rfl
 have hg:aget ((id,bT t ++ bT u) :: σ.objs) id=some (bT t ++ bT u):=by simp [aget,ifB]
 have hd:adel1 ((id,bT t ++ bT u) :: σ.objs) id=σ.objs:=by
  simp only [adel1,beq_self_eq_true,hn]
  rfl
 have hf:zax 40 (.arr k_2 id 0 2) ((id,bT t ++ bT u) :: σ.objs)=some (.list k_2 [.agg (cT t),.agg (cT u)],σ.objs):=by
  simp only [zhm,hg,hd,k_217,Bool.true_or,hz,hlen,zfwb,bindO,zab,Bool.and_self,zac,zdg,zkg,cT,zc4,zc5,zdi]
 simp only [zbo,zdf,Ese,sA,Nat.reduceAdd,Nat.reduceSub,Nat.reduceMul,Nat.reduceBEq,Nat.reduceLeDiff,Int.reduceBEq,Int.reduceBNe,Int.reduceLE,Int.reduceLT,Int.reduceGE,Int.reduceGT,Int.reduceNeg,kn,zcg,zc4,zc5,ho,hf,dT_eq,Cell.keeps]
def cnt:Tp→Nat
 | .app f a=>4 + cnt f + cnt a
 | _=>0
theorem zlub (m:Nat) (hm:8≤m) (σ:Store) (hw:WF σ) (ms:List Nat) (f a:Tp) (k1 k2:Nat) (h0:T m n_21 [.list k_2 [dT f,dT a]] σ=some (.ret ⟨false,.arr k_2 (σ.next + 2) 0 2⟩,arrS σ f a 0))
  (h1:T m n_31 [dT f,dNs ms,dSs (ms.map tn)] (arrS σ f a 0)=some (.ret ⟨false,dT (varT ms f)⟩,bump (arrS σ f a 0) k1))
  (h2:T m n_31 [dT a,dNs ms,dSs (ms.map tn)] (arrS σ (varT ms f) a k1)=some (.ret ⟨false,dT (varT ms a)⟩,bump (arrS σ (varT ms f) a k1) k2)) :
  T (m + 1) n_31 [dT (.app f a),dNs ms,dSs (ms.map tn)] σ=some (.ret ⟨false,dT (.app (varT ms f) (varT ms a))⟩,bump σ (4 + k1 + k2)):=by
 have hloop:loopN (exec (T m) m none za4) m (Esv ms f a (σ.next + 2) 0) (arrS σ f a 0)=some (.exit 0,Ese ms (σ.next + 2),bump (arrS σ (varT ms f) (varT ms a) k1) k2):=by
  obtain ⟨j,rfl⟩:∃ j,m=j + 3:=⟨m - 3,by omega⟩
  rw [zb2 (zgyb σ ms f a k1 h1)]
  have e1:Esv ms f a (σ.next + 2) 1=Esv ms (varT ms f) a (σ.next + 2) 1:=rfl
  rw [e1,zb2 (zgzb σ ms (varT ms f) a k1 k2 h2)]
  exact za6 (znrb _ ms _ a (σ.next + 2))
 rw [T_fun (af:=zbn) rfl rfl]
 have x1:=zll σ.objs (σ.next + 2) (fun p hp=>by have:=hw.objs p hp; omega)
 have f1:=zeq σ.objs σ.next hw.objs
 have f2:=zeq σ.tys σ.next hw.tys
 have f3:=zeq σ.oth σ.next hw.oth
 simp only [Esv,Ese,z4,zeroI,arrS,bump,bT,List.cons_append,List.nil_append,Nat.add_zero] at hloop h0
 have hz:=zmqb ms (varT ms f) (varT ms a) (σ.next + 2) σ (bump (arrS σ (varT ms f) (varT ms a) k1) k2) rfl x1
 simp only [Ese,z4,arrS,bump,bT,List.cons_append,List.nil_append,Nat.add_zero] at hz
 simp only [zbn,sA,Nat.reduceAdd,Nat.reduceSub,Nat.reduceMul,Nat.reduceBEq,Nat.reduceLeDiff,Int.reduceBEq,Int.reduceBNe,Int.reduceLE,Int.reduceLT,Int.reduceGE,Int.reduceGT,Int.reduceNeg,kn,zeroI,lit1,lit2,lit3,lit4,lit5,lit6,lit7,lit8,dT,h0,hloop,zee,hz]
 have g1:decide (σ.next + 2 < σ.next)=false:=by simp
 have g2:decide (σ.next < σ.next)=false:=by simp
 simp only [Store.trunc,List.filter_cons,g1,g2,f1,f2,f3,bump,Bool.false_eq_true,if_false,Nat.add_assoc]
end Go.Fu
namespace Go.Fu
open Go Go.Mx
set_option maxRecDepth 10000
section
variable {C:CallF} {n:Nat} {σ:Store}
def Eix (l:List Nat) (x:Int) (i:Nat):Env:={slots:=[(0,⟨false,dlist k_int (l.map dN)⟩),(1,⟨false,.int .i64 x⟩),(7,⟨false,.int .i64 l.length⟩),(8,⟨false,.int .i64 i⟩)],locs:=[],boxes:=[],defers:=[]}
theorem zkkb (l:List Nat) (x:Int) (i:Nat) (h:i < l.length) (hl:l.length < 1048576) (hp:(x == (l[i]:Int))=false):exec C n none a_57 (Eix l x i) σ=some (.normal,Eix l x (i + 1),σ):=by
 have hi:((i:Int) < (l.length:Int)):=by omega
 simp only [a_57,Eix,sA,seval,kn,hi,idx_N _ _ h,hp,zaj (i:=i) (by omega)]
theorem zklb (l:List Nat) (x:Int) (i:Nat) (h:i < l.length) (hl:l.length < 1048576) (hp:(x == (l[i]:Int))=true):exec C n none a_57 (Eix l x i) σ=some (.ret,{slots:=[(4,⟨false,.int .i64 i⟩)],locs:=[],boxes:=[],defers:=[]},σ):=by
 have hi:((i:Int) < (l.length:Int)):=by omega
 simp only [a_57,Eix,sA,seval,kn,hi,idx_N _ _ h,hp]
theorem znmb (l:List Nat) (x:Int):exec C n none a_57 (Eix l x l.length) σ=some (.exit 0,{Eix l x l.length with slots:=[(0,⟨false,dlist k_int (l.map dN)⟩),(1,⟨false,.int .i64 x⟩),(7,⟨false,.int .i64 l.length⟩),(8,⟨false,.int .i64 l.length⟩),(9,⟨false,.bool false⟩)]},σ):=by
 have hi:¬ ((l.length:Int) < (l.length:Int)):=by omega
 simp only [a_57,Eix,sA,seval,kn,hi]
end
theorem zjab (m:Nat) (l:List Nat) (x:Int) (hl:l.length < 1048576) (hm:l.length + 2≤m) (σ:Store):(∃ i,∃ h:i < l.length,x=(l[i]:Int)∧T (m + 1) n_121 [dNs l,.int .i64 x] σ=some (.ret ⟨false,.int .i64 i⟩,σ)) ∨
  ((l.any fun m=>x == (m:Int))=false∧T (m + 1) n_121 [dNs l,.int .i64 x] σ=some (.ret ⟨false,.int .i64 (-1)⟩,σ)):=by
 rw [T_fun (af:=a_113) rfl rfl]
 have hloop:=zfb (body:=exec (T m) m none a_57) (Eix l x) (fun _=>σ) l.length (nF l x) (stop:=fun i=>(.ret,{slots:=[(4,⟨false,.int .i64 i⟩)],locs:=[],boxes:=[],defers:=[]},σ)) (fun _ _ h=>by cases h) (fun _ _ _ h=>by cases h)
  (fun i hi hp=>zkkb l x i hi hl (by rw [zrb hi] at hp; simpa using hp)) (fun i hi hp=>zklb l x i hi hl (by rw [zrb hi] at hp; simpa using hp)) (znmb l x) m 0 (by omega) (by omega)
 simp only [Eix,zeroI] at hloop
 rcases hloop with ⟨i,_,hi,hp,hb,hrest⟩ | ⟨hp,hrest⟩
 ·rw [zrb hi] at hp
  refine .inl ⟨i,hi,by simpa using hp,?_⟩
  simp only [a_113,sA,seval,kn,dNs,List.length_map,hrest]
 ·refine .inr ⟨?_,?_⟩
  ·rw [List.any_eq_false]
   intro y hy
   obtain ⟨i,hi,rfl⟩:=List.getElem_of_mem hy
   have:=hp i (Nat.zero_le _) hi
   rw [zrb hi] at this
   simpa using this
  ·simp only [a_113,sA,seval,kn,dNs,List.length_map,hrest]
theorem zl3b:Evly fun n=>∀ (s:List UInt8) σ,T n n_32 [.str s] σ=some (.ret ⟨false,dT (.var s)⟩,σ):=any _ fun n s σ=>by
 rw [T_fun (af:=a_91) rfl rfl]
 simp only [a_91,sA,seval,kn,dT]
theorem znsb {C:CallF} {n:Nat} {σ:Store} (ms:List Nat) (f:Int) (x:Int) (s:List UInt8):exec C n none za4 {slots:=[(1,⟨false,dNs ms⟩),(2,⟨false,dSs (ms.map tn)⟩),(29,⟨false,.nils⟩),(30,⟨false,.int .i64 0⟩),(31,⟨false,.int .i64 0⟩)],locs:=[(3,3,0),(6,6,0)],boxes:=[(3,[⟨false,.int .i64 f⟩,⟨false,.int .i64 x⟩,⟨false,.str s⟩,⟨false,.nils⟩]),(6,z4)],defers:=[]} σ =
  some (.exit 0,{slots:=[(1,⟨false,dNs ms⟩),(2,⟨false,dSs (ms.map tn)⟩),(29,⟨false,.nils⟩),(30,⟨false,.int .i64 0⟩),(31,⟨false,.int .i64 0⟩),(32,⟨false,.bool false⟩)],locs:=[(3,3,0),(6,6,0)],boxes:=[(3,[⟨false,.int .i64 f⟩,⟨false,.int .i64 x⟩,⟨false,.str s⟩,⟨false,.nils⟩]),(6,z4)],defers:=[]},σ):=by
 simp only [za4,z4,sA,seval,kn]
theorem zbqb (e:Env) (σ:Store) (f x:Int) (s:List UInt8) (h:e.boxes=[(3,[⟨false,.int .i64 f⟩,⟨false,.int .i64 x⟩,⟨false,.str s⟩,⟨false,.nils⟩]),(6,z4)]):zbo [.box 3] e σ=some (e,σ):=by
 obtain ⟨a,b,c,d⟩:=e
 simp only at h
 subst h
 rfl
theorem zr9 {σ:Store} (hw:WF σ):σ.trunc σ.next=bump σ 0:=by
 simp only [Store.trunc,zeq σ.objs σ.next hw.objs,zeq σ.tys σ.next hw.tys,zeq σ.oth σ.next hw.oth,bump,Nat.add_zero]
theorem zok (m:Nat) (hm:4≤m) (σ:Store) (hw:WF σ) (ms:List Nat) (f x:Int) (s:List UInt8) (h0:T m n_21 [.nils] σ=some (.ret ⟨false,.nils⟩,σ))
  (hx:(f == 1)=false∨((f == 1)=true∧T m n_121 [dNs ms,.int .i64 x] σ=some (.ret ⟨false,.int .i64 (-1)⟩,σ))) :
  T (m + 1) n_31 [.agg [.int .i64 f,.int .i64 x,.str s,.nils],dNs ms,dSs (ms.map tn)] σ=some (.ret ⟨false,.agg [.int .i64 f,.int .i64 x,.str s,.nils]⟩,bump σ 0):=by
 obtain ⟨j,rfl⟩:∃ j,m=j + 1:=⟨m - 1,by omega⟩
 have hloop:=za6 (k:=j) (znsb (C:=T (j + 1)) (n:=j + 1) (σ:=σ) ms f x s)
 rw [T_fun (af:=zbn) rfl rfl]
 simp only [z4] at hloop
 have ht:=zr9 hw
 rcases hx with hx | ⟨hx,h1⟩
 ·have hz:=fun sl=>zbqb {slots:=sl,locs:=[(3,3,0),(6,6,0)],boxes:=[(3,[⟨false,.int .i64 f⟩,⟨false,.int .i64 x⟩,⟨false,.str s⟩,⟨false,.nils⟩]),(6,z4)],defers:=[]} σ f x s rfl
  simp only [z4] at hz
  simp only [zbn,sA,seval,kn,zeroI,lit1,lit2,lit3,lit4,lit5,lit6,lit7,lit8,fnq,hx,h0,hloop,zee,hz,ht]
 ·have hz:=fun sl=>zbqb {slots:=sl,locs:=[(3,3,0),(6,6,0)],boxes:=[(3,[⟨false,.int .i64 f⟩,⟨false,.int .i64 x⟩,⟨false,.str s⟩,⟨false,.nils⟩]),(6,z4)],defers:=[]} σ f x s rfl
  simp only [z4] at hz
  simp only [zbn,sA,seval,kn,zeroI,lit1,lit2,lit3,lit4,lit5,lit6,lit7,lit8,fnq,hx,h1,h0,hloop,zee,hz,ht]
end Go.Fu
namespace Go.Fu
open Go Go.Mx
set_option maxRecDepth 10000
theorem zeub (m:Nat) (σ:Store) (hw:WF σ) (ms:List Nat) (x:Int) (i:Nat) (hi:i < ms.length) (h1:T m n_121 [dNs ms,.int .i64 x] σ=some (.ret ⟨false,.int .i64 i⟩,σ))
  (h2:T m n_32 [.str (tn ms[i])] σ=some (.ret ⟨false,dT (.var (tn ms[i]))⟩,σ)) :
  T (m + 1) n_31 [dT (.hole x),dNs ms,dSs (ms.map tn)] σ=some (.ret ⟨false,dT (.var (tn ms[i]))⟩,bump σ 0):=by
 have hx:=idx_S (ms.map tn) i (by simpa using hi)
 simp only [List.getElem_map] at hx
 have h0:(0:Int)≤(i:Int):=by omega
 have ht:=zr9 hw
 rw [T_fun (af:=zbn) rfl rfl]
 simp only [dT] at h2 ⊢
 have hxx:zaw 1 (dSs (ms.map tn)) i=some (.eptr (.str (tn ms[i]))):=hx
 simp only [zbn,sA,seval,kn,zeroI,lit1,lit2,lit3,lit4,lit5,lit6,lit7,lit8,fnq,h1,h2,h0,hxx,ht]
theorem zqp (ms:List Nat) (hl:ms.length < 100):∀ t:Tp,Evly fun n=>∀ σ,WF σ→T n n_31 [dT t,dNs ms,dSs (ms.map tn)] σ=some (.ret ⟨false,dT (varT ms t)⟩,bump σ (cnt t))
 | .var s=>zls.step 4 fun m hm h σ hw=>zok m hm σ hw ms 2 0 s (h σ) (.inl rfl)
 | .con s=>zls.step 4 fun m hm h σ hw=>zok m hm σ hw ms 3 0 s (h σ) (.inl rfl)
 | .hole x=>(zls.and zl3b).step (ms.length + 6) fun m hm h σ hw=>by
   obtain ⟨hc,hv⟩:=h
   obtain ⟨j,rfl⟩:∃ j,m=j + 1:=⟨m - 1,by omega⟩
   rcases zjab j ms x (by omega) (by omega) σ with ⟨i,hi,he,h1⟩ | ⟨hn,h1⟩
   ·have hvt:varT ms (.hole x)=.var (tn ms[i]):=by
     have:(ms.any fun m=>x == (m:Int))=true:=List.any_eq_true.2 ⟨ms[i],List.getElem_mem hi,by simp [he]⟩
     simp only [varT,this,if_true]
     rw [he]
     rfl
    rw [hvt]
    exact zeub (j + 1) σ hw ms x i hi h1 (hv _ σ)
   ·have hvt:varT ms (.hole x)=.hole x:=by
     simp only [varT,hn]
     rfl
    rw [hvt]
    exact zok (j + 1) (by omega) σ hw ms 1 x [] (hc σ) (.inr ⟨rfl,h1⟩)
 | .app f a=>((zqp ms hl f).and ((zqp ms hl a).and (zc2b f a))).step 8 fun m hm h σ hw=>by
   have h0:=h.2.2 σ hw
   have h1:=h.1 (arrS σ f a 0) (zckb hw f a 0)
   have h2:=h.2.1 (arrS σ (varT ms f) a (cnt f)) (zckb hw _ a _)
   exact zlub m hm σ hw ms f a (cnt f) (cnt a) h0 h1 h2
end Go.Fu
namespace Go.Fu
open Go Go.Mx
set_option maxRecDepth 10000
theorem zug (σ:Store) (k:Nat) (ws:List Nat) (e:Env):ws.all (sameW e σ (bump σ k))=true:=by
 rw [List.all_eq_true]
 intro s _
 unfold sameW
 cases h:aget e.slots s with
 | none=>rfl
 | some c =>
  rw [zab]
  split
  ·rename_i id _ _
   cases h2:aget σ.objs id with
   | none=>rfl
   | some cs =>
    rw [zab]
    show sameO (some cs) (aget σ.objs id)=true
    rw [h2]
    exact zr0 cs
  ·rename_i id _
   cases h2:aget σ.oth id with
   | none=>rfl
   | some x =>
    rw [zab]
    show sameM (some x) (aget σ.oth id)=true
    rw [h2]
    exact zrz x
  ·rfl
def xB (v p:D):List Cell:=[⟨false,v⟩,⟨false,.nils⟩,⟨false,p⟩,⟨false,.int .i64 0⟩,⟨false,.int .i64 0⟩,⟨false,.str []⟩,⟨false,.nils⟩]
def jkA (ms:List Nat):Nat→Objs
 | 0=>[(1,xB .nils .nils),(0,[⟨false,dNs ms⟩])]
 | i + 1=>(1,xB (.arr k_0 (2 * i + 2) 0 (i + 1)) .nils) :: jkA ms i
def tyA:Nat→List (Nat × Ty)
 | 0=>[(1,⟨t_52,0⟩),(0,⟨t_204,0⟩)]
 | i + 1=>(2 * i + 2,⟨k_0.el,k_0.sz⟩) :: tyA i
def stA (ms:List Nat):Nat→Store
 | 0=>{objs:=[(1,xB .nils .nils),(0,[⟨false,dNs ms⟩])],tys:=[(1,⟨t_52,0⟩),(0,⟨t_204,0⟩)],oth:=[],next:=2}
 | i + 1=>{objs:=(1,xB (.arr k_0 (2 * i + 2) 0 (i + 1)) .nils) :: (2 * i + 2,cellsOf (((ms.map tn).take (i + 1)).map D.str)) :: jkA ms i,tys:=(2 * i + 2,⟨k_0.el,k_0.sz⟩) :: tyA i,oth:=[],next:=2 * i + 4}
theorem zwl (ms:List Nat) (n:Nat) (h:2≤n):∀ i,adel1 (jkA ms i) n=jkA ms i
 | 0=>by
  have h0:((0:Nat) == n)=false:=by simp; omega
  have h1:((1:Nat) == n)=false:=by simp; omega
  simp only [jkA,adel1,h0,h1,ifB]
 | i + 1=>by
  have h1:((1:Nat) == n)=false:=by simp; omega
  simp only [jkA,adel1,h1,ifB,zwl ms n h i]
theorem zbxb (ms:List Nat):∀ i,adel1 (jkA ms i) 1=[(0,[⟨false,dNs ms⟩])]
 | 0=>rfl
 | i + 1=>by simp only [jkA,adel1,ifB,beq_self_eq_true,zbxb ms i]
section
variable {C:CallF} {n:Nat}
def EA (ms:List Nat) (ps:List Pr) (t:Tp) (i:Nat):Env:={slots:=[(1,⟨false,dPs ps⟩),(3,⟨false,.ptr 0 0⟩),(7,⟨false,.ptr 1 0⟩),(13,⟨false,dNs ms⟩),(14,⟨false,.int .i64 ms.length⟩),(15,⟨false,.int .i64 i⟩)],locs:=[(5,5,0),(6,6,0)],boxes:=[(5,bT t),(6,xB .nils .nils)],defers:=[]}
theorem zwk (n:Nat):1 + (it n).length≤281474976710656:=by
 unfold it
 split <;> simp
theorem zjgb (ms:List Nat) (ps:List Pr) (t:Tp) (h:0 < ms.length) (hl:ms.length < 100) (hc:C n_23 [.int .i64 (ms[0]:Int)] (stA ms 0)=some (.ret ⟨false,.str (it ms[0])⟩,stA ms 0)):exec C n none zbl (EA ms ps t 0) (stA ms 0)=some (.normal,EA ms ps t 1,stA ms 1):=by
 have hi:((0:Int) < (ms.length:Int)):=by omega
 have hx:zaw 1 (dNs ms) 0=some (.eptr (.int .i64 (ms[0]:Int))):=idx_N ms 0 h
 have w1:IntKind.i64.wrap (0 + 1)=1:=by decide
 have ha:∀ σ,zbr σ k_0 16 .nils [.str (tn ms[0])]=_:=fun σ=>zje (σ:=σ) (k:=k_0) (by_:=16) (y:=.str (tn ms[0])) rfl rfl (by decide)
 have hy:(((ms.map tn).take 1).map D.str)=[.str (tn ms[0])]:=by
  cases ms with
  | nil=>simp at h
  | cons a r=>rfl
 simp only [tn,k_47] at ha hy
 simp only [stA,xB,k_47] at hc
 simp only [zbl,EA,stA,jkA,tyA,xB,bT,sA,Nat.reduceAdd,Nat.reduceSub,Nat.reduceMul,Nat.reduceBEq,Nat.reduceLeDiff,Int.reduceBEq,Int.reduceBNe,Int.reduceLE,Int.reduceLT,Int.reduceGE,Int.reduceGT,Int.reduceNeg,kn,zeroI,lit1,lit2,lit3,lit4,lit5,lit6,lit7,lit8,fnq,memE,memOp,zdp,hi,hx,hc,zwk,ha,hy,w1]
theorem zjhb (ms:List Nat) (ps:List Pr) (t:Tp) (i:Nat) (h:i + 1 < ms.length) (hl:ms.length < 100) (hc:C n_23 [.int .i64 (ms[i + 1]:Int)] (stA ms (i + 1))=some (.ret ⟨false,.str (it ms[i + 1])⟩,stA ms (i + 1))):exec C n none zbl (EA ms ps t (i + 1)) (stA ms (i + 1))=some (.normal,EA ms ps t (i + 2),stA ms (i + 2)):=by
 have hi:((((i + 1:Nat)):Int) < (ms.length:Int)):=by omega
 have hx:zaw 1 (dNs ms) (i + 1)=some (.eptr (.int .i64 (ms[i + 1]:Int))):=idx_N ms (i + 1) h
 have w1:=zaj (i:=i + 1) (by omega)
 have hlen:(((ms.map tn).take (i + 1)).map D.str).length=i + 1:=by simp; omega
 have h':i + 1 < (ms.map tn).length:=by simpa using h
 have hq:((((ms.map tn).take (i + 1)).map D.str) ++ [D.str (tn ms[i + 1])])=(((ms.map tn).take (i + 2)).map D.str):=by
  rw [← zba _ _ h']
  simp
 have g0:((2 * i + 2:Nat) == 0)=false:=by simp
 have g1:((1:Nat) == 2 * i + 2)=false:=by simp
 have ha:=zjd (σ:={objs:=(1,xB (.arr k_0 (2 * i + 2) 0 (i + 1)) .nils) :: (2 * i + 2,cellsOf (((ms.map tn).take (i + 1)).map D.str)) :: jkA ms i,tys:=(2 * i + 2,⟨k_0.el,k_0.sz⟩) :: tyA i,oth:=[],next:=2 * i + 4})
  (k:=k_0) (by_:=16) (id:=2 * i + 2) (ds:=((ms.map tn).take (i + 1)).map D.str) (y:=.str (tn ms[i + 1])) (os:=(1,xB (.arr k_0 (2 * i + 2) 0 (i + 1)) .nils) :: jkA ms i)
  (by simp only [aget,g1,zad,beq_self_eq_true,zac]) (by simp only [aget,beq_self_eq_true,zac]) (by simp only [adel1,g1,zad,beq_self_eq_true,zac,zwl ms (2 * i + 2) (by omega) i])
  (fun d hd=>by obtain ⟨x,_,rfl⟩:=List.mem_map.1 hd; rfl) rfl rfl (by rw [hlen]; simp [bound]; omega) (by rw [hlen]; simp [bound]; omega)
 rw [hq,hlen] at ha
 have g4:((2 * i + 4:Nat) == 1)=false:=by simp
 have g5:Nat.ble 1 (2 * i + 4)=true:=by rw [Nat.ble_eq]; omega
 have e2:2 * (i + 1) + 2=2 * i + 4:=by omega
 have e3:2 * (i + 1) + 4=2 * i + 4 + 2:=by omega
 simp only [tn,xB,k_47] at ha
 simp only [stA,xB,k_47] at hc
 simp only [zbl,EA,stA,jkA,tyA,xB,bT,sA,Nat.reduceAdd,Nat.reduceSub,Nat.reduceMul,Nat.reduceBEq,Nat.reduceLeDiff,Int.reduceBEq,Int.reduceBNe,Int.reduceLE,Int.reduceLT,Int.reduceGE,Int.reduceGT,Int.reduceNeg,kn,zeroI,lit1,lit2,lit3,lit4,lit5,lit6,lit7,lit8,fnq,memE,memOp,zdp,hi,hx,hc,zwk,ha,w1,g4,g5,e2,e3]
end
end Go.Fu
namespace Go.Fu
open Go Go.Mx
set_option maxRecDepth 10000
theorem zhrb (ms:List Nat) (hl:ms.length < 100) (t:Tp):Evly fun n=>∀ σ p,WF σ→aget σ.objs 0=some [⟨false,dNs ms⟩]→aget σ.objs 1=some (xB (dSs (ms.map tn)) p) →
  T n n_48 [dT t,.ptr 0 0,.ptr 1 0] σ=some (.ret ⟨false,dT (varT ms t)⟩,bump σ (cnt t)) :=
 (zqp ms hl t).step 4 fun m hm h σ p hw h0 h1=>by
 have hv:=h σ hw
 rw [T_fun (af:=a_146) rfl rfl]
 rw [dT_eq t,dT_eq (varT ms t)] at hv
 rw [dT_eq t,dT_eq (varT ms t)]
 simp only [cT,bump,xB] at hv h1 ⊢
 simp only [a_146,sA,Nat.reduceAdd,Nat.reduceSub,Nat.reduceMul,Nat.reduceBEq,Nat.reduceLeDiff,Int.reduceBEq,Int.reduceBNe,Int.reduceLE,Int.reduceLT,Int.reduceGE,Int.reduceGT,Int.reduceNeg,kn,zeroI,lit1,lit2,lit3,lit4,lit5,lit6,lit7,lit8,fnq,memE,memOp,h0,h1,hv]
def idB (N0:Nat) (c:Nat→Nat):Nat→Nat
 | 0=>N0 + c 0
 | i + 1=>idB N0 c i + 2 + c (i + 1)
theorem zkw (N0:Nat) (c:Nat→Nat):∀ i,N0≤idB N0 c i
 | 0=>Nat.le_add_right _ _
 | i + 1=>by have:=zkw N0 c i; simp only [idB]; omega
def tyBq (ty0:List (Nat × Ty)) (N0:Nat) (c:Nat→Nat):Nat→List (Nat × Ty)
 | 0=>ty0
 | i + 1=>(idB N0 c i,⟨k_1.el,k_1.sz⟩) :: tyBq ty0 N0 c i
def jkB (v:D) (ms:List Nat) (N0:Nat) (c:Nat→Nat):Nat→Objs
 | 0=>[(0,[⟨false,dNs ms⟩]),(1,xB v .nils)]
 | i + 1=>(1,xB v (.arr k_1 (idB N0 c i) 0 (i + 1))) :: jkB v ms N0 c i
def stB (v:D) (ms:List Nat) (ps:List Pr) (ty0:List (Nat × Ty)) (N0:Nat) (c:Nat→Nat):Nat→Store
 | 0=>{objs:=[(0,[⟨false,dNs ms⟩]),(1,xB v .nils)],tys:=ty0,oth:=[],next:=N0}
 | i + 1=>{objs:=(1,xB v (.arr k_1 (idB N0 c i) 0 (i + 1))) :: (idB N0 c i,cellsOf ((ps.take (i + 1)).map dP)) :: jkB v ms N0 c i,tys:=(idB N0 c i,⟨k_1.el,k_1.sz⟩) :: tyBq ty0 N0 c i,oth:=[],next:=idB N0 c i + 2}
theorem zwm (v:D) (ms:List Nat) (N0:Nat) (c:Nat→Nat) (n:Nat) (h:2≤n):∀ i,adel1 (jkB v ms N0 c i) n=jkB v ms N0 c i
 | 0=>by
  have h0:((0:Nat) == n)=false:=beq_false_of_ne (by omega)
  have h1:((1:Nat) == n)=false:=beq_false_of_ne (by omega)
  simp only [jkB,adel1,h0,h1,ifB]
 | i + 1=>by
  have h1:((1:Nat) == n)=false:=beq_false_of_ne (by omega)
  simp only [jkB,adel1,h1,ifB,zwm v ms N0 c n h i]
theorem zbyb (v:D) (ms:List Nat) (N0:Nat) (c:Nat→Nat):∀ i,adel1 (jkB v ms N0 c i) 1=[(0,[⟨false,dNs ms⟩])]
 | 0=>rfl
 | i + 1=>by simp only [jkB,adel1,ifB,beq_self_eq_true,zbyb v ms N0 c i]
theorem zwo (v:D) (ms:List Nat) (N0:Nat) (c:Nat→Nat):∀ i,aget (jkB v ms N0 c i) 0=some [⟨false,dNs ms⟩]
 | 0=>rfl
 | i + 1=>by
  have h1:((1:Nat) == 0)=false:=rfl
  simp only [jkB,aget,h1,ifB,zwo v ms N0 c i]
theorem zwn (v:D) (ms:List Nat) (N0:Nat) (c:Nat→Nat):∀ i,∀ p∈jkB v ms N0 c i,p.1 < 2
 | 0,p,h=>by
  simp only [jkB,List.mem_cons,List.not_mem_nil,or_false] at h
  rcases h with rfl | rfl <;> simp only <;> omega
 | i + 1,p,h=>by
  simp only [jkB,List.mem_cons] at h
  rcases h with rfl | h
  ·simp only; omega
  ·exact zwn v ms N0 c i p h
theorem zi8b (N0:Nat) (c:Nat→Nat) (i:Nat):idB N0 c i < idB N0 c (i + 1):=by
 simp only [idB]; omega
theorem zcjb (ty0:List (Nat × Ty)) (N0:Nat) (c:Nat→Nat) (h:∀ p∈ty0,p.1 < N0):∀ i,∀ p∈tyBq ty0 N0 c i,p.1 < idB N0 c i
 | 0,p,hp=>by have:=h p hp; have:=zkw N0 c 0; omega
 | i + 1,p,hp=>by
  simp only [tyBq,List.mem_cons] at hp
  have:=zi8b N0 c i
  rcases hp with rfl | hp
  ·exact this
  ·have:=zcjb ty0 N0 c h i p hp; omega
theorem zqcb (v:D) (ms:List Nat) (ps:List Pr) (ty0:List (Nat × Ty)) (N0:Nat) (c:Nat→Nat) (hN:2≤N0) (h:∀ p∈ty0,p.1 < N0):∀ i,WF (stB v ms ps ty0 N0 c i)
 | 0=>by
  refine ⟨fun p hp=>?_,fun p hp=>h p hp,fun p hp=>?_⟩
  ·have:=zwn v ms N0 c 0 p hp
   show p.1 < N0
   omega
  ·simp [stB] at hp
 | i + 1=>by
  have hi:=zkw N0 c i
  refine ⟨fun p hp=>?_,fun p hp=>?_,fun p hp=>?_⟩
  ·simp only [stB,List.mem_cons] at hp ⊢
   rcases hp with rfl | rfl | hp
   ·simp only; omega
   ·simp only; omega
   ·have:=zwn v ms N0 c i p hp; omega
  ·simp only [stB,List.mem_cons] at hp ⊢
   rcases hp with rfl | hp
   ·simp only; omega
   ·have:=zcjb ty0 N0 c h i p hp; omega
  ·simp [stB] at hp
theorem zlrb (v:D) (ms:List Nat) (ps:List Pr) (ty0:List (Nat × Ty)) (N0:Nat) (c:Nat→Nat) (hN:2≤N0):∀ i,aget (stB v ms ps ty0 N0 c i).objs 0=some [⟨false,dNs ms⟩]
 | 0=>rfl
 | i + 1=>by
  have hi:=zkw N0 c i
  have h1:((1:Nat) == 0)=false:=rfl
  have h2:(idB N0 c i == 0)=false:=beq_false_of_ne (by omega)
  simp only [stB,aget,h1,h2,ifB,zwo]
section
variable {C:CallF} {n:Nat}
def EB (ps:List Pr) (t:Tp) (i:Nat):Env:={slots:=[(7,⟨false,.ptr 1 0⟩),(10,⟨false,.fn (.func n_48) [] [.ptr 0 0,.ptr 1 0]⟩),(29,⟨false,dPs ps⟩),(30,⟨false,.int .i64 ps.length⟩),(31,⟨false,.int .i64 i⟩)],locs:=[(5,5,0),(6,6,0)],boxes:=[(5,bT t),(6,xB .nils .nils)],defers:=[]}
theorem zjib (v:D) (ms:List Nat) (ps qs:List Pr) (t:Tp) (ty0:List (Nat × Ty)) (N0:Nat) (c:Nat→Nat) (hN:2≤N0) (h:0 < ps.length) (hq:0 < qs.length) (hl:ps.length < 100) (hcl:ps[0].cls=qs[0].cls)
  (hc:C n_48 [dT ps[0].ty,.ptr 0 0,.ptr 1 0] (stB v ms qs ty0 N0 c 0)=some (.ret ⟨false,dT qs[0].ty⟩,bump (stB v ms qs ty0 N0 c 0) (c 0))) :
  exec C n none zbm (EB ps t 0) (stB v ms qs ty0 N0 c 0)=some (.normal,EB ps t 1,stB v ms qs ty0 N0 c 1):=by
 have hi:((0:Int) < (ps.length:Int)):=by omega
 have hx:zaw 5 (dPs ps) 0=some (.eptr (dP ps[0])):=idx_P ps 0 h
 have w1:IntKind.i64.wrap (0 + 1)=1:=by decide
 have hs:=zug (stB v ms qs ty0 N0 c 0) (c 0)
 have ha:∀ σ,zbr σ k_1 72 .nils [dP qs[0]]=_:=fun σ=>zje (σ:=σ) (k:=k_1) (by_:=72) (y:=dP qs[0]) (ok_dP _) (zf4 _) (by decide)
 have hy:((qs.take 1).map dP)=[dP qs[0]]:=by
  cases qs with
  | nil=>simp at hq
  | cons a r=>rfl
 have g1:(N0 + c 0 == 1)=false:=beq_false_of_ne (by omega)
 have g2:(N0 + c 0 == 0)=false:=beq_false_of_ne (by omega)
 have g5:Nat.ble 1 (N0 + c 0)=true:=by rw [Nat.ble_eq]; omega
 rw [dT_eq,dT_eq] at hc
 simp only [dP,cT] at hx ha hy
 simp only [cT,stB,bump,xB] at hc hs
 simp only [zbm,EB,stB,jkB,tyBq,idB,xB,bT,sA,Nat.reduceAdd,Nat.reduceSub,Nat.reduceMul,Nat.reduceBEq,Nat.reduceLeDiff,Int.reduceBEq,Int.reduceBNe,Int.reduceLE,Int.reduceLT,Int.reduceGE,Int.reduceGT,Int.reduceNeg,kn,zeroI,lit1,lit2,lit3,lit4,lit5,lit6,lit7,lit8,fnq,memE,memOp,zdp,zqz,Mx.part,hi,hx,hc,hs,ha,hy,hcl,w1,g1,g2,g5]
theorem zjjb (v:D) (ms:List Nat) (ps qs:List Pr) (t:Tp) (ty0:List (Nat × Ty)) (N0:Nat) (c:Nat→Nat) (i:Nat) (hN:2≤N0) (h:i + 1 < ps.length) (hq:i + 1 < qs.length) (hl:ps.length < 100) (hcl:ps[i + 1].cls=qs[i + 1].cls)
  (hc:C n_48 [dT ps[i + 1].ty,.ptr 0 0,.ptr 1 0] (stB v ms qs ty0 N0 c (i + 1))=some (.ret ⟨false,dT qs[i + 1].ty⟩,bump (stB v ms qs ty0 N0 c (i + 1)) (c (i + 1)))) :
  exec C n none zbm (EB ps t (i + 1)) (stB v ms qs ty0 N0 c (i + 1))=some (.normal,EB ps t (i + 2),stB v ms qs ty0 N0 c (i + 2)):=by
 have hi:((((i + 1:Nat)):Int) < (ps.length:Int)):=by omega
 have hx:zaw 5 (dPs ps) (i + 1)=some (.eptr (dP ps[i + 1])):=idx_P ps (i + 1) h
 have w1:=zaj (i:=i + 1) (by omega)
 have hs:=zug (stB v ms qs ty0 N0 c (i + 1)) (c (i + 1))
 have hlen:((qs.take (i + 1)).map dP).length=i + 1:=by simp; omega
 have hql:i + 1≤qs.length:=by omega
 have hqq:((qs.take (i + 1)).map dP ++ [dP qs[i + 1]])=((qs.take (i + 2)).map dP):=by
  have:=zba (qs.map dP) (i + 1) (by simpa using hq)
  rw [List.getElem_map] at this
  rw [List.map_take,List.map_take]
  exact this
 have hid:=zkw N0 c i
 have g1:((1:Nat) == idB N0 c i)=false:=beq_false_of_ne (by omega)
 have g2:(idB N0 c i == 1)=false:=beq_false_of_ne (by omega)
 have g3:(idB N0 c i == 0)=false:=beq_false_of_ne (by omega)
 have ha:=fun hb=>zjd (σ:={objs:=(1,xB v (.arr k_1 (idB N0 c i) 0 (i + 1))) :: (idB N0 c i,cellsOf ((qs.take (i + 1)).map dP)) :: jkB v ms N0 c i,tys:=(idB N0 c i,⟨k_1.el,k_1.sz⟩) :: tyBq ty0 N0 c i,oth:=[],next:=idB N0 c i + 2 + c (i + 1)})
  (k:=k_1) (by_:=72) (id:=idB N0 c i) (ds:=(qs.take (i + 1)).map dP) (y:=dP qs[i + 1]) (os:=(1,xB v (.arr k_1 (idB N0 c i) 0 (i + 1))) :: jkB v ms N0 c i)
  (by simp only [aget,g1,zad,beq_self_eq_true,zac]) (by simp only [aget,beq_self_eq_true,zac]) (by simp only [adel1,g1,zad,beq_self_eq_true,zac,zwm v ms N0 c (idB N0 c i) (by omega) i])
  (fun d hd=>by obtain ⟨x,_,rfl⟩:=List.mem_map.1 hd; exact zf4 _) (ok_dP _) (zf4 _) hb (by rw [hlen]; simp [bound]; omega)
 have ha:=ha (by rw [hlen]; simp [bound]; omega)
 rw [hqq,hlen] at ha
 have hb2:idB N0 c (i + 1)=idB N0 c i + 2 + c (i + 1):=rfl
 have g4:(idB N0 c i + 2 + c (i + 1) == 1)=false:=beq_false_of_ne (by omega)
 have g6:(idB N0 c i + 2 + c (i + 1) == 0)=false:=beq_false_of_ne (by omega)
 have g5:Nat.ble 1 (idB N0 c i + 2 + c (i + 1))=true:=by rw [Nat.ble_eq]; omega
 rw [dT_eq,dT_eq] at hc
 have hdp:dP qs[i + 1]=.agg (.str qs[i + 1].cls :: cT qs[i + 1].ty):=rfl
 rw [hdp] at ha
 simp only [dP,cT] at hx
 simp only [cT,xB,k_61] at ha
 simp only [cT,stB,bump,xB,k_61] at hc hs
 simp only [zbm,EB,stB,jkB,tyBq,hb2,xB,bT,sA,Nat.reduceAdd,Nat.reduceSub,Nat.reduceMul,Nat.reduceBEq,Nat.reduceLeDiff,Int.reduceBEq,Int.reduceBNe,Int.reduceLE,Int.reduceLT,Int.reduceGE,Int.reduceGT,Int.reduceNeg,kn,zeroI,lit1,lit2,lit3,lit4,lit5,lit6,lit7,lit8,fnq,memE,memOp,zdp,zqz,Mx.part,hi,hx,hc,hs,ha,hcl,w1,g1,g2,g3,g4,g5,g6]
end
end Go.Fu
namespace Go.Fu
open Go Go.Mx
set_option maxRecDepth 10000
theorem zib {n:Nat} {os:Objs}:zax (n + 1) .nils os=some (.nils,os):=rfl
theorem zp9b (σ:Store):σ.trunc 0={objs:=[],tys:=[],oth:=[],next:=σ.next}:=by
 simp [Store.trunc]
theorem zo9 {e:Env} {σ:Store} {s id:Nat} {cs cs':List Cell} {os':Objs} (h0:aget e.slots s=some ⟨false,.ptr id 0⟩) (h1:aget σ.objs id=some cs) (h2:zcg cs (adel1 σ.objs id)=some (cs',os')) :
  zbo [.obj s] e σ=some (e,{objs:=aset os' id cs',tys:=σ.tys,oth:=σ.oth,next:=σ.next}):=by
 simp only [zbo,zdf,h0,bindO,zab,h1,h2]
theorem zjl {os:Objs}:zcg [] os=some ([],os):=rfl
theorem zh9 {c:Cell} {r:List Cell} {os:Objs}:zcg (c :: r) os=bindO (zax 40 c.d os) fun x=>bindO (zcg r x.2) fun y=>some (⟨c.keeps,x.1⟩ :: y.1,y.2):=rfl
theorem zjn {d:D}:Cell.keeps ⟨false,d⟩=false:=by
 unfold Cell.keeps
 split <;> rfl
theorem zolb (ms:List Nat) (i:Nat):(stA ms i).tys=tyA i:=by cases i <;> rfl
theorem zlqb (ms:List Nat) (i:Nat):(stA ms i).next=2 * i + 2:=by cases i <;> rfl
theorem zokb (ms:List Nat) (i:Nat):(stA ms i).oth=[]:=by cases i <;> rfl
theorem zsl (ms:List Nat):(ms.map tn).take ms.length=ms.map tn:=List.take_of_length_le (by simp)
theorem frz_A (ms:List Nat) (e:Env) (h:aget e.slots 7=some ⟨false,.ptr 1 0⟩):zbo [.obj 7] e (stA ms ms.length)=some (e,{objs:=[(0,[⟨false,dNs ms⟩]),(1,xB (dSs (ms.map tn)) .nils)],tys:=tyA ms.length,oth:=[],next:=2 * ms.length + 2}):=by
 have key:∃ cs,aget (stA ms ms.length).objs 1=some cs∧zcg cs (adel1 (stA ms ms.length).objs 1)=some (xB (dSs (ms.map tn)) .nils,[(0,[⟨false,dNs ms⟩])]):=by
  have hall:=zsl ms
  generalize hk:ms.length=k at *
  cases k with
  | zero =>
   have:ms=[]:=List.length_eq_zero_iff.1 hk
   subst this
   exact ⟨_,rfl,rfl⟩
  | succ i =>
   refine ⟨_,rfl,?_⟩
   have g0:(0 == 2 * i + 2)=false:=beq_false_of_ne (by omega)
   have g1:(2 * i + 2 == 1)=false:=beq_false_of_ne (by omega)
   have hd:adel1 (stA ms (i + 1)).objs 1=[(2 * i + 2,cellsOf ((ms.map tn).map D.str)),(0,[⟨false,dNs ms⟩])]:=by
    simp only [stA,adel1,g1,ifB,beq_self_eq_true,zbxb,hall]
   rw [hd]
   have hr:=zhn (k:=k_0) (id:=2 * i + 2) (n:=39) (ds:=(ms.map tn).map D.str) (os:=[(2 * i + 2,cellsOf ((ms.map tn).map D.str)),(0,[⟨false,dNs ms⟩])]) (os':=[(0,[⟨false,dNs ms⟩])])
    (by simp only [aget,beq_self_eq_true,ifB]) (by simp only [adel1,beq_self_eq_true,ifB,g0]) rfl (fun d hd=>by obtain ⟨x,_,rfl⟩:=List.mem_map.1 hd; exact ⟨rfl,rfl⟩) (fun d hd=>by obtain ⟨x,_,rfl⟩:=List.mem_map.1 hd; rfl)
   simp only [List.length_map,hk] at hr
   have hds:dSs (ms.map tn)=.list k_0 ((ms.map tn).map D.str):=by
    cases ms with
    | nil=>simp at hk
    | cons a r=>rfl
   simp only [xB,zh9,zjl,hr,zib,zc4,zc5,bindO,zab,zjn,hds]
 obtain ⟨cs,h1,h2⟩:=key
 rw [zo9 h h1 h2,zolb,zlqb,zokb]
 rfl
def xT (v p:D) (u:Tp):List Cell:=⟨false,v⟩ :: ⟨false,.nils⟩ :: ⟨false,p⟩ :: bT u
theorem zonb (v:D) (ms:List Nat) (ps:List Pr) (ty0:List (Nat × Ty)) (N0:Nat) (c:Nat→Nat) (i:Nat):(stB v ms ps ty0 N0 c i).oth=[]:=by cases i <;> rfl
def prB (ps:List Pr) (N0:Nat) (c:Nat→Nat):Nat→D
 | 0=>.nils
 | i + 1=>.arr k_1 (idB N0 c i) 0 (i + 1)
theorem zomb (v:D) (ms:List Nat) (ps:List Pr) (ty0:List (Nat × Ty)) (N0:Nat) (c:Nat→Nat) (i:Nat):aget (stB v ms ps ty0 N0 c i).objs 1=some (xB v (prB ps N0 c i)):=by cases i <;> rfl
theorem frz_B (l:List (List UInt8)) (ms:List Nat) (ps:List Pr) (u:Tp) (ty0:List (Nat × Ty)) (N0:Nat) (c:Nat→Nat) (hN:2≤N0) (tys:List (Nat × Ty)) (nx:Nat) (e:Env) (h:aget e.slots 7=some ⟨false,.ptr 1 0⟩) :
  zbo [.obj 7] e {objs:=aset (stB (dSs l) ms ps ty0 N0 c ps.length).objs 1 (xT (dSs l) (prB ps N0 c ps.length) u),tys:=tys,oth:=[],next:=nx} =
   some (e,{objs:=[(0,[⟨false,dNs ms⟩]),(1,xT (dSs l) (dPs ps) u)],tys:=tys,oth:=[],next:=nx}):=by
 have key:aget (aset (stB (dSs l) ms ps ty0 N0 c ps.length).objs 1 (xT (dSs l) (prB ps N0 c ps.length) u)) 1=some (xT (dSs l) (prB ps N0 c ps.length) u) ∧
   zcg (xT (dSs l) (prB ps N0 c ps.length) u) (adel1 (aset (stB (dSs l) ms ps ty0 N0 c ps.length).objs 1 (xT (dSs l) (prB ps N0 c ps.length) u)) 1)=some (xT (dSs l) (dPs ps) u,[(0,[⟨false,dNs ms⟩])]):=by
  have hall:ps.take ps.length=ps:=List.take_of_length_le (by simp)
  generalize hk:ps.length=k at *
  cases k with
  | zero =>
   have:ps=[]:=List.length_eq_zero_iff.1 hk
   subst this
   refine ⟨rfl,?_⟩
   have hd:adel1 (aset (stB (dSs l) ms [] ty0 N0 c 0).objs 1 (xT (dSs l) (prB [] N0 c 0) u)) 1=[(0,[⟨false,dNs ms⟩])]:=rfl
   rw [hd]
   simp only [xT,bT,prB,dSs,dPs,List.map_nil,zc0,zh9,zjl,zdi,zib,zc4,zc5,bindO,zab,zjn]
  | succ i =>
   have hid:=zkw N0 c i
   have g0:(0 == idB N0 c i)=false:=beq_false_of_ne (by omega)
   have g1:(idB N0 c i == 1)=false:=beq_false_of_ne (by omega)
   refine ⟨rfl,?_⟩
   have hd:adel1 (aset (stB (dSs l) ms ps ty0 N0 c (i + 1)).objs 1 (xT (dSs l) (prB ps N0 c (i + 1)) u)) 1=[(idB N0 c i,cellsOf (ps.map dP)),(0,[⟨false,dNs ms⟩])]:=by
    simp only [stB,aset,adel1,g1,ifB,beq_self_eq_true,zbyb,hall]
   rw [hd]
   have hr:=zhn (k:=k_1) (id:=idB N0 c i) (n:=39) (ds:=ps.map dP) (os:=[(idB N0 c i,cellsOf (ps.map dP)),(0,[⟨false,dNs ms⟩])]) (os':=[(0,[⟨false,dNs ms⟩])])
    (by simp only [aget,beq_self_eq_true,ifB]) (by simp only [adel1,beq_self_eq_true,ifB,g0]) rfl (fun d hd=>by obtain ⟨x,_,rfl⟩:=List.mem_map.1 hd; exact ⟨rfl,rfl⟩)
    (fun d hd=>by
     obtain ⟨x,_,rfl⟩:=List.mem_map.1 hd
     simp only [dP,cT,zkg,zdg,zc5,zc4,zdi,bindO,zab])
   simp only [List.length_map,hk] at hr
   have hds:dPs ps=.list k_1 (ps.map dP):=by
    cases ps with
    | nil=>simp at hk
    | cons a r=>rfl
   have hl:dSs l=dlist k_0 (l.map D.str):=rfl
   simp only [xT,bT,prB,hl,zh9,zjl,hr,zdi,zib,zc4,zc5,bindO,zab,zjn,hds]
 rw [zo9 h key.1 key.2]
 rfl
theorem zpdb {C:CallF} {n:Nat} (ms:List Nat) (ps:List Pr) (t:Tp) (σ:Store):exec C n none zbl (EA ms ps t ms.length) σ=some (.exit 0,{EA ms ps t ms.length with slots:=[(1,⟨false,dPs ps⟩),(3,⟨false,.ptr 0 0⟩),(7,⟨false,.ptr 1 0⟩),(13,⟨false,dNs ms⟩),(14,⟨false,.int .i64 ms.length⟩),(15,⟨false,.int .i64 ms.length⟩),(16,⟨false,.bool false⟩)]},σ):=by
 have hi:¬ ((ms.length:Int) < (ms.length:Int)):=by omega
 simp only [zbl,EA,xB,bT,sA,seval,kn,hi]
theorem zpeb {C:CallF} {n:Nat} (ps:List Pr) (t:Tp) (σ:Store):exec C n none zbm (EB ps t ps.length) σ=some (.exit 2,{EB ps t ps.length with slots:=[(7,⟨false,.ptr 1 0⟩),(10,⟨false,.fn (.func n_48) [] [.ptr 0 0,.ptr 1 0]⟩),(29,⟨false,dPs ps⟩),(30,⟨false,.int .i64 ps.length⟩),(31,⟨false,.int .i64 ps.length⟩),(32,⟨false,.bool false⟩)]},σ):=by
 have hi:¬ ((ps.length:Int) < (ps.length:Int)):=by omega
 simp only [zbm,EB,xB,bT,sA,seval,kn,hi]
end Go.Fu
