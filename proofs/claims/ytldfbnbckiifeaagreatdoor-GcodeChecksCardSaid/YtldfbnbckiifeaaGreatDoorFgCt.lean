/-
 Which instructions have a number; what a builder does.
-/
import Derived.Test.YtldfbnbckiifeaaGreatDoorFgBp
import Derived.Test.YtldfbnbckiifeaaGreatDoorFgBq
import Derived.Test.YtldfbnbckiifeaaGreatDoorFgZa
set_option maxHeartbeats 4000000
set_option linter.unusedSimpArgs false
set_option linter.unusedVariables false
set_option linter.unusedSectionVars false
namespace Go.Fu
open Go Go.Mx
set_option maxRecDepth 10000
set_option maxHeartbeats 4000000
theorem tb:(t_27 == t_27)=true:=by simp
end Go.Fu
namespace Go.Fu
open Go Go.Mx
set_option maxRecDepth 10000
set_option maxHeartbeats 4000000
section
variable {n N:Nat}
end
end Go.Fu
namespace Go.Fu
open Go Go.Mx
set_option maxRecDepth 10000
set_option maxHeartbeats 4000000
end Go.Fu
namespace Go.Fu
open Go Go.Mx
set_option maxRecDepth 10000
theorem zj0:∀ (a x b new:List Cell),new.length=x.length→putCells (a ++ (x ++ b)) a.length new=a ++ (new ++ b)
 | [],[],b,[],_=>by cases b <;> rfl
 | [],c :: x,b,n :: new,h=>by
  have h1:=zj0 [] x b new (by simpa using h)
  simp only [List.nil_append,List.length_nil] at h1
  simp only [List.nil_append,List.length_nil,List.cons_append,putCells,h1]
 | [],[],b,n :: new,h=>by simp at h
 | [],c :: x,b,[],h=>by simp at h
 | c :: a,x,b,new,h=>by
  have h1:=zj0 a x b new h
  cases new with
  | nil =>
   cases x with
   | nil=>cases a <;> cases b <;> rfl
   | cons y z=>simp at h
  | cons n r=>simp only [List.cons_append,List.length_cons,putCells,h1]
theorem zox {z:Nat} (ds:List D) (i:Nat) (d:D) (hi:i < ds.length) (h:∀ x∈ds,x.cells.length=z) (hd:d.cells.length=z):putCells (cellsOf ds) (i * z) (d.cells.map Cell.of)=cellsOf (ds.set i d):=by
 have e1:ds=ds.take i ++ (ds[i] :: ds.drop (i + 1)):=by rw [← List.drop_eq_getElem_cons hi,List.take_append_drop]
 have e2:ds.set i d=ds.take i ++ (d :: ds.drop (i + 1)):=List.set_eq_take_append_cons_drop.trans (by rw [if_pos hi])
 have hl:(cellsOf (ds.take i)).length=i * z:=by
  rw [zek (z:=z) _ fun x hx=>h x (List.mem_of_mem_take hx),List.length_take,Nat.min_eq_left (by omega)]
 rw [e2,zes]
 conv=>lhs; rw [e1,zes,← hl]
 simp only [cellsOf]
 exact zj0 _ _ _ _ (by simp [h _ (List.getElem_mem hi),hd])
theorem zoh:∀ (a x b:List Cell),takeC (a ++ (x ++ b)) a.length x.length=some (x.map fun c=>c.d)
 | [],[],b=>by cases b <;> rfl
 | [],c :: x,b=>by
  have h1:=zoh [] x b
  simp only [List.nil_append,List.length_nil] at h1
  simp only [List.nil_append,List.cons_append,List.length_nil,List.length_cons,takeC,h1,bindO,zad,List.map_cons]
 | c :: a,x,b=>by
  have h1:=zoh a x b
  simp only [List.cons_append,List.length_cons,takeC]
  exact h1
theorem zg4b {z:Nat} (ds:List D) (i:Nat) (hi:i < ds.length) (h:∀ x∈ds,x.cells.length=z):takeC (cellsOf ds) (i * z) z=some ds[i].cells:=by
 have e1:ds=ds.take i ++ (ds[i] :: ds.drop (i + 1)):=by rw [← List.drop_eq_getElem_cons hi,List.take_append_drop]
 have hl:(cellsOf (ds.take i)).length=i * z:=by
  rw [zek (z:=z) _ fun x hx=>h x (List.mem_of_mem_take hx),List.length_take,Nat.min_eq_left (by omega)]
 have hx:=h _ (List.getElem_mem hi)
 conv=>lhs; rw [e1,zes,← hl]
 simp only [cellsOf]
 have:=zoh (cellsOf (ds.take i)) (ds[i].cells.map Cell.of) (cellsOf (ds.drop (i + 1)))
 rw [List.length_map,hx] at this
 rw [this,List.map_map]
 exact congrArg some (List.map_id'' (fun _=>rfl) _)
theorem zyo {f:D→Objs→Option (D × Objs)} {os os':Objs} {d d':D} (l1 l2:List D) (h1:∀ x∈l1,f x os=some (x,os)) (h:f d os=some (d',os')) (h2:∀ x∈l2,f x os'=some (x,os')):zcf f (l1 ++ d :: l2) os=some (l1 ++ d' :: l2,os'):=by
 have hid:∀ (l:List D) (o:Objs),(∀ x∈l,f x o=some (x,o))→zcf f l o=some (l,o):=by
  intro l
  induction l with
  | nil=>intro o _; rfl
  | cons x r ih =>
   intro o hx
   have h3:=ih o fun y hy=>hx y (List.mem_cons_of_mem _ hy)
   simp only [zcf,hx x (by simp),bindO,zad,h3]
 induction l1 with
 | nil=>simp only [List.nil_append,zcf,h,bindO,zad,hid l2 os' h2]
 | cons x r ih =>
  have h3:=ih fun y hy=>h1 y (List.mem_cons_of_mem _ hy)
  simp only [List.cons_append,zcf,h1 x (by simp),bindO,zad,h3]
theorem zkwb {n:Nat} {os:Objs} (l:List In):za1 (n + 1) (dIs l) os=some (dIs l,os):=by cases l <;> rfl
theorem zvq {n:Nat} {os:Objs} (c:Cd):za1 (n + 2) (dD c) os=some (dD c,os):=by
 have h:=zkwb (n:=n) (os:=os) c.body
 have hs:za1 (n + 1) (.str c.name) os=some (.str c.name,os):=rfl
 have hi:za1 (n + 1) (.int .i64 c.arity) os=some (.int .i64 c.arity,os):=rfl
 have e:za1 (n + 2) (dD c) os=bindO (zcf (za1 (n + 1)) [.str c.name,.int .i64 c.arity,dIs c.body] os) fun r=>some (.agg r.1,r.2):=rfl
 rw [e]
 simp only [zcf,hs,hi,h,bindO,zad]
 rfl
theorem zpk (l:List Cd):∀ d∈l.map dD,d.cells.length=k_5.sz∧packD k_5 d.cells=d:=fun d hd=>by
 obtain ⟨x,_,rfl⟩:=List.mem_map.1 hd
 exact ⟨rfl,rfl⟩
theorem zsy:∀ l:List Cd,za3 k_5.sz (l.map dD)=true
 | []=>rfl
 | c :: r=>by simp only [List.map_cons,za3,zsy r]; rfl
def OS (ds:List D):Store:=zbe σ0 k_5 (cellsOf ds)
theorem zsz (cs:List Cd) (hne:cs≠[]) (hl:cs.length < 1000000000):zbu σ0 k_5 48 .nils (cs.map dD)=some (.arr k_5 0 0 cs.length,OS (cs.map dD)):=by
 have e1:decide (cs.length * 48≤bound)=true:=decide_eq_true (show cs.length * 48≤1099511627776 by omega)
 have e2:decide (cs.length≤bound)=true:=decide_eq_true (show cs.length≤1099511627776 by omega)
 have e:(cs.map dD).isEmpty=false:=by cases cs with
  | nil=>exact absurd rfl hne
  | cons a b=>rfl
 simp only [zbu,zsy,e,zac,zab,e1,e2,Bool.and_self,List.length_map]
 rfl
theorem zfkb (cs:List Cd) (hne:cs≠[]):za1 40 (.arr k_5 0 0 cs.length) (OS (cs.map dD)).objs=some (dDs cs,[]):=by
 have hr:=zh5 (k:=k_5) (id:=0) (n:=39) (ds:=cs.map dD) (os:=(OS (cs.map dD)).objs) (os':=[]) rfl rfl rfl (zpk cs) (fun d hd=>by
  obtain ⟨x,_,rfl⟩:=List.mem_map.1 hd
  exact zvq (n:=37) x)
 rw [List.length_map] at hr
 rw [hr]
 cases cs with
 | nil=>exact absurd rfl hne
 | cons a b=>rfl
theorem zj2b (σ:Store) (l:List In) (hne:l≠[]) (hl:l.length < 1000000000):zbu σ k_1 48 .nils (l.map dI)=some (.arr k_1 σ.next 0 l.length,zbe σ k_1 (cellsOf (l.map dI))):=by
 have e1:decide (l.length * 48≤bound)=true:=decide_eq_true (show l.length * 48≤1099511627776 by omega)
 have e2:decide (l.length≤bound)=true:=decide_eq_true (show l.length≤1099511627776 by omega)
 have e:(l.map dI).isEmpty=false:=by cases l with
  | nil=>exact absurd rfl hne
  | cons a b=>rfl
 simp only [zbu,zrw,e,zac,zab,e1,e2,Bool.and_self,List.length_map]
def dDa (nm:Tx) (ar:Int) (k:Nat):D:=.agg [.str nm,.int .i64 ar,.arr k_1 2 0 k]
theorem zh7b (cs:List Cd) (a:Nat) (ha:a < cs.length) (nm:Tx) (ar:Int) (l:List In) (hne:l≠[]) (old:List Cell) (os:Objs) (ho:os=[(0,cellsOf ((cs.map dD).set a (dDa nm ar l.length))),(2,cellsOf (l.map dI)),(0,old)]) :
  za1 40 (.arr k_5 0 0 cs.length) os=some (dDs (cs.set a ⟨nm,ar,l⟩),[]):=by
 subst ho
 have hin:za1 39 (dDa nm ar l.length) [(2,cellsOf (l.map dI))]=some (dD ⟨nm,ar,l⟩,[]):=by
  have hr:=zh5 (k:=k_1) (id:=2) (n:=37) (ds:=l.map dI) (os:=[(2,cellsOf (l.map dI))]) (os':=[]) rfl rfl rfl (znj l) (fun d hd=>by
   obtain ⟨x,_,rfl⟩:=List.mem_map.1 hd
   rfl)
  rw [List.length_map] at hr
  have e:za1 39 (dDa nm ar l.length) [(2,cellsOf (l.map dI))]=bindO (zcf (za1 38) [.str nm,.int .i64 ar,.arr k_1 2 0 l.length] [(2,cellsOf (l.map dI))]) fun r=>some (.agg r.1,r.2):=rfl
  have hs:∀ os,za1 38 (.str nm) os=some (.str nm,os):=fun _=>rfl
  have hi:∀ os,za1 38 (.int .i64 ar) os=some (.int .i64 ar,os):=fun _=>rfl
  rw [e]
  simp only [zcf,hs,hi,hr,bindO,zad]
  cases l with
  | nil=>exact absurd rfl hne
  | cons a b=>rfl
 have hok:∀ d∈(cs.map dD).set a (dDa nm ar l.length),d.cells.length=k_5.sz∧packD k_5 d.cells=d:=fun d hd=>by
  rcases List.mem_or_eq_of_mem_set hd with h | rfl
  ·exact zpk cs d h
  ·exact ⟨rfl,rfl⟩
 have hlen:((cs.map dD).set a (dDa nm ar l.length)).length=cs.length:=by simp
 have hl:=zek _ fun d hd=>(hok d hd).1
 have hk:(k_5.ag || k_5.sz == 1)=true:=rfl
 have e0:decide ((0 + cs.length) * k_5.sz≤(cellsOf ((cs.map dD).set a (dDa nm ar l.length))).length)=true:=by rw [hl,hlen]; simp
 have he:=zh3 (k:=k_5) hok
 rw [hlen] at he
 have hset:∀ d,(cs.map dD).set a d=(cs.map dD).take a ++ (d :: (cs.map dD).drop (a + 1)):=fun d=>List.set_eq_take_append_cons_drop.trans (by rw [if_pos (by simpa using ha)])
 have hf:zcf (za1 39) ((cs.map dD).set a (dDa nm ar l.length)) [(2,cellsOf (l.map dI))]=some ((cs.map dD).set a (dD ⟨nm,ar,l⟩),[]):=by
  rw [hset,hset]
  refine zyo _ _ (fun x hx=>?_) hin (fun x hx=>?_)
  ·obtain ⟨y,_,rfl⟩:=List.mem_map.1 (List.mem_of_mem_take hx)
   exact zvq (n:=37) y
  ·obtain ⟨y,_,rfl⟩:=List.mem_map.1 (List.mem_of_mem_drop hx)
   exact zvq (n:=37) y
 have hg:aget [(0,cellsOf ((cs.map dD).set a (dDa nm ar l.length))),(2,cellsOf (l.map dI)),(0,old)] 0=some (cellsOf ((cs.map dD).set a (dDa nm ar l.length))):=rfl
 have hd:adel1 [(0,cellsOf ((cs.map dD).set a (dDa nm ar l.length))),(2,cellsOf (l.map dI)),(0,old)] 0=[(2,cellsOf (l.map dI))]:=rfl
 rw [show (40:Nat)=39 + 1 from rfl,zo2,hg]
 simp only [bindO,zad,hk,e0,Bool.and_self,zac,he,hd,hf]
 have hne2:cs.set a ⟨nm,ar,l⟩≠[]:=by
  intro h
  have:=congrArg List.length h
  simp at this
  subst this
  simp at ha
 rw [← List.map_set]
 generalize cs.set a ⟨nm,ar,l⟩=r at hne2
 cases r with
 | nil=>exact absurd rfl hne2
 | cons x y=>rfl
end Go.Fu
namespace Go.Fu
open Go Go.Mx
set_option maxRecDepth 10000
theorem zfqb (l:List Cd) (i:Nat) (h:i < l.length):za7 3 (dDs l) i=some (.eptr (dD l[i])):=zga rfl _ _ _ h
theorem zfj (l:List Cd):lenOf (dDs l)=some l.length:=zgc _ l
theorem ztl {n m:Nat} {ds:List D} {c:Cell} {σ':Store} (hl:ds.length=4) (hd:zal ds=true) (hc:noPtr c.d=true)
  (hr:finX Ra (fun _ _ _=>none) zbx 0 (exec (T [] n) m none zbx.body (zbb ds) σ0)=some (.ret c,σ')):OkP n_74 ds c:=by
 refine zgn (zav [] n) ze5 rfl rfl zwp hl hd hc (n:=m) (σ':=σ') ?_
 unfold finX at hr
 exact hr
def bentI (i:In) (b:Nat) (n:Int):In :=
 ifB (n == 0) ⟨i.op,IntKind.i64.wrap (i.n + 1),i.m,i.name⟩ (ifB (n == 1) ⟨i.op,IntKind.i64.wrap (i.n - 1),i.m,i.name⟩ (ifB (n == 2) ⟨[80,79,80],i.n,i.m,i.name⟩ (ifB (n == 3) ⟨[69,86,65,76],i.n,i.m,i.name⟩
  (ifB (n == 4) ⟨i.op,i.n,i.m,[110,111,110,101]⟩ (ifB (n == 5) ⟨[74,85,77,80],IntKind.i64.wrap ((b:Int) + 2),0,[]⟩ (ifB (n == 6) i (ifB (n == 7) ⟨[85,78,87,73,78,68],i.n,i.m,i.name⟩ i)))))))
def bentA (x:Int) (n:Int):Int:=ifB (n == 6) (IntKind.i64.wrap (x + 1)) x
theorem zb4' {C:CallF} {n:Nat} {ro:Option Nat} {ts:List FTgt} {b:ACode} {e:Env} {σ:Store}:exec C n ro (.frz ts b) e σ=bindO (zbo ts e σ) fun x=>exec C n ro b x.1 x.2:=rfl
theorem zbt' {k:RowK} {b:Bool} {id n:Nat}:Cell.keeps ⟨b,.arr k id 0 n⟩=false:=rfl
theorem zlq (cs:List Cd) (hne:cs≠[]) (hl:cs.length < 1000000000) (a b n:Int)
  (h:a < 0∨(cs.length:Int)≤a∨(∃ k:Nat,∃ h:k < cs.length,a=k∧(b < 0∨(cs[k].body.length:Int)≤b))):OkP n_74 [dDs cs,.int .i64 a,.int .i64 b,.int .i64 n] ⟨false,dDs cs⟩:=by
 refine ztl (n:=0) (m:=1) (σ':={OS (cs.map dD) with objs:=[]}) rfl (by simp [zal,ze3,noPtr]) (ze3 _) ?_
 have hli:zbq σ0.objs (dDs cs)=some (cs.map dD):=by rw [dDs,zeu]
 have ha:=zsz cs hne hl
 have hz:=zfkb cs hne
 generalize OS (cs.map dD)=σ1 at ha hz
 by_cases h1:a < 0
 ·simp only [zbx,sA,seval,kn,memE,memOp,hli,ha,h1,zb4',zbo,zbs,hz,zbt']
 ·by_cases h2:(cs.length:Int)≤a
  ·simp only [zbx,sA,seval,kn,memE,memOp,hli,ha,h1,zfj,h2,zb4',zbo,zbs,hz,zbt']
  ·obtain ⟨k,hk,rfl,h3⟩:∃ k:Nat,∃ h:k < cs.length,a=k∧(b < 0∨(cs[k].body.length:Int)≤b):=by
    rcases h with h | h | h
    ·exact absurd h h1
    ·exact absurd h h2
    ·exact h
   have hx:=zfqb cs k hk
   generalize cs[k]=c at hx h3
   simp only [dD] at hx
   by_cases h4:b < 0
   ·simp only [zbx,sA,seval,kn,memE,memOp,hli,ha,h1,zfj,h2,h4,zb4',zbo,zbs,hz,zbt']
   ·have h5:(c.body.length:Int)≤b:=by
     rcases h3 with h | h
     ·exact absurd h h4
     ·exact h
    have hp:Mx.part none [.str c.name,.int .i64 c.arity,dIs c.body] 2=some (dIs c.body):=rfl
    simp only [zbx,sA,seval,kn,memE,memOp,hli,ha,h1,zfj,h2,h4,natI,hx,hp,onel,len_I,h5,zb4',zbo,zbs,hz,zbt']
end Go.Fu
namespace Go.Fu
open Go Go.Mx
set_option maxRecDepth 10000
def SB (ds:List D) (l:List In):Store:={objs:=[(2,cellsOf (l.map dI)),(0,cellsOf ds)],tys:=[(2,⟨k_1.el,k_1.sz⟩),(0,⟨k_5.el,k_5.sz⟩)],oth:=[],next:=4}
set_option maxHeartbeats 8000000 in
theorem zj3b (cs:List Cd) (hl:cs.length < 1000000000) (k j:Nat) (n:Int) (hk:k < cs.length) (hj:j < cs[k].body.length) (hb:cs[k].body.length < 1000000000) :
  OkP n_74 [dDs cs,.int .i64 k,.int .i64 j,.int .i64 n] ⟨false,dDs (cs.set k ⟨cs[k].name,bentA cs[k].arity n,cs[k].body.set j (bentI cs[k].body[j] j n)⟩)⟩:=by
 refine ztl (n:=0) (m:=1) (σ':={SB [] [] with objs:=[]}) rfl (by simp [zal,ze3,noPtr]) (ze3 _) ?_
 have hne:cs≠[]:=by
  intro h
  subst h
  simp at hk
 have hli:zbq σ0.objs (dDs cs)=some (cs.map dD):=by rw [dDs,zeu]
 have ha:=zsz cs hne hl
 have hx:=zfqb cs k hk
 have g1:¬ ((k:Int) < 0):=by omega
 have g2:¬ ((cs.length:Int)≤(k:Int)):=by omega
 have g3:¬ ((j:Int) < 0):=by omega
 generalize cs[k]=c at hx hj hb ⊢
 obtain ⟨nm,ar,body⟩:=c
 simp only at hj hb ⊢
 have g4:¬ ((body.length:Int)≤(j:Int)):=by omega
 have hbn:body≠[]:=by
  intro h
  subst h
  simp at hj
 have hx1:za7 3 (dDs cs) k=some (.eptr (.agg [.str nm,.int .i64 ar,dIs body])):=hx
 have hp:Mx.part none [.str nm,.int .i64 ar,dIs body] 2=some (dIs body):=rfl
 have hli2:zbq (OS (cs.map dD)).objs (dIs body)=some (body.map dI):=by rw [dIs,zeu]
 have hap:zbu (OS (cs.map dD)) k_1 48 .nils (body.map dI)=some (.arr k_1 2 0 body.length,SB (cs.map dD) body):=zj2b _ _ hbn hb
 have hix:za7 4 (.arr k_1 2 0 body.length) j=some (.ptr 2 (j * 4)):=by
  have e:decide (j < body.length)=true:=decide_eq_true hj
  simp only [za7,e,Nat.zero_add]
  rfl
 have hix3:za7 3 (.arr k_5 0 0 cs.length) k=some (.ptr 0 (k * 3)):=by
  have e:decide (k < cs.length)=true:=decide_eq_true hk
  simp only [za7,e,Nat.zero_add]
  rfl
 have hir:∀ x∈body.map dI,x.cells.length=4:=fun x hx=>(znj body x hx).1
 have hcr:∀ x∈cs.map dD,x.cells.length=3:=fun x hx=>(zpk cs x hx).1
 have htc:=zg4b (z:=4) (body.map dI) j (by simpa using hj) hir
 rw [List.getElem_map] at htc
 have hfz:∀ i' a',za1 40 (.arr k_5 0 0 cs.length) [(0,cellsOf ((cs.map dD).set k (dDa nm a' body.length))),(2,cellsOf ((body.map dI).set j (dI i'))),(0,cellsOf (cs.map dD))]=some (dDs (cs.set k ⟨nm,a',body.set j i'⟩),[]):=fun i' a'=>by
  have:=zh7b cs k hk nm a' (body.set j i') (by intro h; have:=congrArg List.length h; simp at this; subst this; simp at hj) (cellsOf (cs.map dD)) _ rfl
  rw [List.length_set,List.map_set] at this
  exact this
 have hpi:∀ i',putCells (cellsOf (body.map dI)) (j * 4) ((dI i').cells.map Cell.of)=cellsOf ((body.map dI).set j (dI i')):=fun i'=>zox (z:=4) _ _ _ (by simpa using hj) hir rfl
 have hpc:∀ a',putCells (cellsOf (cs.map dD)) (k * 3) ((dDa nm a' body.length).cells.map Cell.of)=cellsOf ((cs.map dD).set k (dDa nm a' body.length)):=fun a'=>zox (z:=3) _ _ _ (by simpa using hk) hcr rfl
 have f4:j * 4 + 4≤(cellsOf (body.map dI)).length:=by rw [zek _ hir,List.length_map]; omega
 have f3:k * 3 + 3≤(cellsOf (cs.map dD)).length:=by rw [zek _ hcr,List.length_map]; omega
 generalize body[j]=ins at htc ⊢
 obtain ⟨op,x,y,nn⟩:=ins
 simp only [dI,D.cells] at htc
 cases e0:n == 0 with
 | true =>
  have e6:(n == 6)=false:=by
   rw [show n=0 by simpa using e0]
   rfl
  simp only [bentI,bentA,e0,e6,zac,zab]
  have hpi:=hpi ⟨op,IntKind.i64.wrap (x + 1),y,nn⟩
  have hpc:=hpc (ar)
  have hfz:=hfz ⟨op,IntKind.i64.wrap (x + 1),y,nn⟩ (ar)
  simp only [dI,dDa,D.cells,List.map_cons,List.map_nil,Cell.of] at hpi hpc hfz
  simp only [zbx,sA,seval,kn,memE,memOp,hli,ha,g1,g2,g3,g4,zfj,len_I,natI,hx1,hp,onel,hli2,hap,hix,hix3,SB,htc,e0,e6,f4,f3,hpi,hpc,zb4',zbo,zbs,hfz,zbt']
 | false =>
  cases e1:n == 1 with
  | true =>
   have e6:(n == 6)=false:=by
    rw [show n=1 by simpa using e1]
    rfl
   simp only [bentI,bentA,e0,e1,e6,zac,zab]
   have hpi:=hpi ⟨op,IntKind.i64.wrap (x - 1),y,nn⟩
   have hpc:=hpc (ar)
   have hfz:=hfz ⟨op,IntKind.i64.wrap (x - 1),y,nn⟩ (ar)
   simp only [dI,dDa,D.cells,List.map_cons,List.map_nil,Cell.of] at hpi hpc hfz
   simp only [zbx,sA,seval,kn,memE,memOp,hli,ha,g1,g2,g3,g4,zfj,len_I,natI,hx1,hp,onel,hli2,hap,hix,hix3,SB,htc,e0,e1,e6,f4,f3,hpi,hpc,zb4',zbo,zbs,hfz,zbt']
  | false =>
   cases e2:n == 2 with
   | true =>
    have e6:(n == 6)=false:=by
     rw [show n=2 by simpa using e2]
     rfl
    simp only [bentI,bentA,e0,e1,e2,e6,zac,zab]
    have hpi:=hpi ⟨[80,79,80],x,y,nn⟩
    have hpc:=hpc (ar)
    have hfz:=hfz ⟨[80,79,80],x,y,nn⟩ (ar)
    simp only [dI,dDa,D.cells,List.map_cons,List.map_nil,Cell.of] at hpi hpc hfz
    simp only [zbx,sA,seval,kn,memE,memOp,hli,ha,g1,g2,g3,g4,zfj,len_I,natI,hx1,hp,onel,hli2,hap,hix,hix3,SB,htc,e0,e1,e2,e6,f4,f3,hpi,hpc,zb4',zbo,zbs,hfz,zbt']
   | false =>
    cases e3:n == 3 with
    | true =>
     have e6:(n == 6)=false:=by
      rw [show n=3 by simpa using e3]
      rfl
     simp only [bentI,bentA,e0,e1,e2,e3,e6,zac,zab]
     have hpi:=hpi ⟨[69,86,65,76],x,y,nn⟩
     have hpc:=hpc (ar)
     have hfz:=hfz ⟨[69,86,65,76],x,y,nn⟩ (ar)
     simp only [dI,dDa,D.cells,List.map_cons,List.map_nil,Cell.of] at hpi hpc hfz
     simp only [zbx,sA,seval,kn,memE,memOp,hli,ha,g1,g2,g3,g4,zfj,len_I,natI,hx1,hp,onel,hli2,hap,hix,hix3,SB,htc,e0,e1,e2,e3,e6,f4,f3,hpi,hpc,zb4',zbo,zbs,hfz,zbt']
    | false =>
     cases e4:n == 4 with
     | true =>
      have e6:(n == 6)=false:=by
       rw [show n=4 by simpa using e4]
       rfl
      simp only [bentI,bentA,e0,e1,e2,e3,e4,e6,zac,zab]
      have hpi:=hpi ⟨op,x,y,[110,111,110,101]⟩
      have hpc:=hpc (ar)
      have hfz:=hfz ⟨op,x,y,[110,111,110,101]⟩ (ar)
      simp only [dI,dDa,D.cells,List.map_cons,List.map_nil,Cell.of] at hpi hpc hfz
      simp only [zbx,sA,seval,kn,memE,memOp,hli,ha,g1,g2,g3,g4,zfj,len_I,natI,hx1,hp,onel,hli2,hap,hix,hix3,SB,htc,e0,e1,e2,e3,e4,e6,f4,f3,hpi,hpc,zb4',zbo,zbs,hfz,zbt']
     | false =>
      cases e5:n == 5 with
      | true =>
       have e6:(n == 6)=false:=by
        rw [show n=5 by simpa using e5]
        rfl
       simp only [bentI,bentA,e0,e1,e2,e3,e4,e5,e6,zac,zab]
       have hpi:=hpi ⟨[74,85,77,80],IntKind.i64.wrap ((j:Int) + 2),0,[]⟩
       have hpc:=hpc (ar)
       have hfz:=hfz ⟨[74,85,77,80],IntKind.i64.wrap ((j:Int) + 2),0,[]⟩ (ar)
       simp only [dI,dDa,D.cells,List.map_cons,List.map_nil,Cell.of] at hpi hpc hfz
       simp only [zbx,sA,seval,kn,memE,memOp,hli,ha,g1,g2,g3,g4,zfj,len_I,natI,hx1,hp,onel,hli2,hap,hix,hix3,SB,htc,e0,e1,e2,e3,e4,e5,e6,f4,f3,hpi,hpc,zb4',zbo,zbs,hfz,zbt']
      | false =>
       cases e6:n == 6 with
       | true =>
        simp only [bentI,bentA,e0,e1,e2,e3,e4,e5,e6,zac,zab]
        have hpi:=hpi ⟨op,x,y,nn⟩
        have hpc:=hpc (IntKind.i64.wrap (ar + 1))
        have hfz:=hfz ⟨op,x,y,nn⟩ (IntKind.i64.wrap (ar + 1))
        simp only [dI,dDa,D.cells,List.map_cons,List.map_nil,Cell.of] at hpi hpc hfz
        simp only [zbx,sA,seval,kn,memE,memOp,hli,ha,g1,g2,g3,g4,zfj,len_I,natI,hx1,hp,onel,hli2,hap,hix,hix3,SB,htc,e0,e1,e2,e3,e4,e5,e6,f4,f3,hpi,hpc,zb4',zbo,zbs,hfz,zbt']
       | false =>
        cases e7:n == 7 with
        | true =>
         simp only [bentI,bentA,e0,e1,e2,e3,e4,e5,e6,e7,zac,zab]
         have hpi:=hpi ⟨[85,78,87,73,78,68],x,y,nn⟩
         have hpc:=hpc (ar)
         have hfz:=hfz ⟨[85,78,87,73,78,68],x,y,nn⟩ (ar)
         simp only [dI,dDa,D.cells,List.map_cons,List.map_nil,Cell.of] at hpi hpc hfz
         simp only [zbx,sA,seval,kn,memE,memOp,hli,ha,g1,g2,g3,g4,zfj,len_I,natI,hx1,hp,onel,hli2,hap,hix,hix3,SB,htc,e0,e1,e2,e3,e4,e5,e6,e7,f4,f3,hpi,hpc,zb4',zbo,zbs,hfz,zbt']
        | false =>
         simp only [bentI,bentA,e0,e1,e2,e3,e4,e5,e6,e7,zac,zab]
         have hpi:=hpi ⟨op,x,y,nn⟩
         have hpc:=hpc (ar)
         have hfz:=hfz ⟨op,x,y,nn⟩ (ar)
         simp only [dI,dDa,D.cells,List.map_cons,List.map_nil,Cell.of] at hpi hpc hfz
         simp only [zbx,sA,seval,kn,memE,memOp,hli,ha,g1,g2,g3,g4,zfj,len_I,natI,hx1,hp,onel,hli2,hap,hix,hix3,SB,htc,e0,e1,e2,e3,e4,e5,e6,e7,f4,f3,hpi,hpc,zb4',zbo,zbs,hfz,zbt']
end Go.Fu
namespace Go.Fu
open Go Go.Mx
set_option maxRecDepth 10000
set_option maxHeartbeats 4000000
theorem zhgb:∀ (cs:List Cd) (k:Nat) (c:Cd) (h:k < cs.length),c.body.length=cs[k].body.length→wt (cs.set k c)=wt cs
 | [],_,_,h,_=>by simp at h
 | x :: r,0,c,_,e=>by simp only [List.set_cons_zero,wt]; rw [e]; rfl
 | x :: r,k + 1,c,h,e=>by simp only [List.set_cons_succ,wt]; rw [zhgb r k c (by simpa using h) (by simpa using e)]
theorem zk1b {B:Nat} (hB:4≤B) {i:In} (h:GI B i) (j:Nat) (n:Int):GI B (bentI i j n):=by
 obtain ⟨h1,h2,h3,h4⟩:=h
 have z:Small 0:=zS
 unfold bentI
 cases n == 0 <;> cases n == 1 <;> cases n == 2 <;> cases n == 3 <;> cases n == 4 <;> cases n == 5 <;> cases n == 6 <;> cases n == 7 <;> simp only [zac,zab] <;>
  first
  | exact ⟨h1,h2,h3,h4⟩
  | exact ⟨h1,zgh _,h3,h4⟩
  | exact ⟨by simp,h2,h3,h4⟩
  | exact ⟨h1,h2,h3,by simpa using hB⟩
  | exact ⟨by simp,zgh _,z,by simp⟩
theorem zj4b {B:Nat} (hB:4≤B) (cs:List Cd) (hne:cs≠[]) (hc:CO B cs) (hw:wt cs < 900000000) (a b n:Int):∃ cs',OkP n_74 [dDs cs,.int .i64 a,.int .i64 b,.int .i64 n] ⟨false,dDs cs'⟩∧CO B cs'∧wt cs'=wt cs∧cs'≠[]:=by
 have hl:=zrv cs
 by_cases h1:a < 0
 ·exact ⟨cs,zlq cs hne (by omega) a b n (Or.inl h1),hc,rfl,hne⟩
 by_cases h2:(cs.length:Int)≤a
 ·exact ⟨cs,zlq cs hne (by omega) a b n (Or.inr (Or.inl h2)),hc,rfl,hne⟩
 obtain ⟨k,rfl⟩:∃ k:Nat,a=k:=⟨a.toNat,by omega⟩
 have hk:k < cs.length:=by omega
 by_cases h3:b < 0
 ·exact ⟨cs,zlq cs hne (by omega) k b n (Or.inr (Or.inr ⟨k,hk,rfl,Or.inl h3⟩)),hc,rfl,hne⟩
 by_cases h4:(cs[k].body.length:Int)≤b
 ·exact ⟨cs,zlq cs hne (by omega) k b n (Or.inr (Or.inr ⟨k,hk,rfl,Or.inr h4⟩)),hc,rfl,hne⟩
 obtain ⟨j,rfl⟩:∃ j:Nat,b=j:=⟨b.toNat,by omega⟩
 have hj:j < cs[k].body.length:=by omega
 have hwm:∀ (l:List Cd) (c:Cd),c∈l→c.body.length≤wt l:=by
  intro l
  induction l with
  | nil=>intro c h; cases h
  | cons x r ih =>
   intro c h
   rcases List.mem_cons.1 h with rfl | h
   ·simp only [wt]; omega
   ·have:=ih c h; simp only [wt]; omega
 have hbl:=hwm cs cs[k] (List.getElem_mem hk)
 refine ⟨_,zj3b cs (by omega) k j n hk hj (by omega),fun c hcm=>?_,zhgb cs k _ hk (by simp),?_⟩
 ·obtain ⟨c1,c2,c3⟩:=hc _ (List.getElem_mem hk)
  rcases List.mem_or_eq_of_mem_set hcm with h | rfl
  ·exact hc c h
  ·refine ⟨c1,?_,fun i hi=>?_⟩
   ·show Small (bentA cs[k].arity n)
    unfold bentA
    cases n == 6
    ·exact c2
    ·exact zgh _
   ·rcases List.mem_or_eq_of_mem_set hi with h | rfl
    ·exact c3 i h
    ·exact zk1b hB (c3 _ (List.getElem_mem hj)) j n
 ·intro h
  have:=congrArg List.length h
  simp at this
  subst this
  simp at hk
def spMd (us:List Su) (d:D):List D→Cell→Prop:=fun ds c=>ds=[d]→c=⟨false,dUs us⟩
def spCp (us:List Su) (cs:List Cd):List D→Cell→Prop:=fun ds c=>ds=[dFs FL,dUs us]→c=⟨false,.tup [dDs cs,.int .i64 0]⟩
def spBt (cs cs':List Cd) (a b n:Int):List D→Cell→Prop:=fun ds c=>ds=[dDs cs,.int .i64 a,.int .i64 b,.int .i64 n]→c=⟨false,dDs cs'⟩
def spLv:List D→Cell→Prop:=fun _ c=>c=⟨false,.bool true⟩
end Go.Fu
namespace Go.Fu
open Go Go.Mx
set_option maxRecDepth 10000
set_option maxHeartbeats 4000000
theorem zbgb:∀ (l:List Cd) (c:Cd),c∈l→c.body.length≤wt l
 | [],c,h=>by cases h
 | x :: r,c,h=>by
  rcases List.mem_cons.1 h with rfl | h
  ·simp only [wt]; omega
  ·have:=zbgb r c h; simp only [wt]; omega
theorem zaqb (cs:List Cd) (hne:cs≠[]) (hw:wt cs < 300000000):OkP n_88 [dFs FL,dDs cs] ⟨false,.bool (zfy FL cs)⟩∧OkP n_56 [dFs FL,dDs cs] ⟨false,.bool (zfy FL cs)⟩:=by
 have hl:=zrv cs
 have hb:∀ c∈cs,c.body.length < 300000000:=fun c hc=>by have:=zbgb cs c hc; omega
 exact ⟨zzo FL cs (by decide) (by omega) hb,zyq FL cs (by decide) (by omega) hne hb⟩
def spCk:List D→Cell→Prop:=fun ds c=>∀ cs,ds=[dFs FL,dDs cs]→c=⟨false,.bool (zfy FL cs)⟩
theorem zcub (d:D) (xs:List Int) (a b n:Int) (hR:zu0 k_int d xs) (hS:∀ x∈xs,Small x):∃ S:Specs,∃ σ',T S 2 n_326 [d,.int .i64 a,.int .i64 b,.int .i64 n] σ0=some (.ret ⟨false,.bool true⟩,σ'):=by
 obtain ⟨us,hM,hg,h4,hp⟩:=zlkb hR hS
 obtain ⟨cs,hC,c1,c2,c3⟩:=zb7b (B:=5) (B':=200) (by decide) (by decide) (by decide) us hg h4 hp
 have hne:cs≠[]:=by
  intro h
  subst h
  simp at c3
 obtain ⟨cs',hB,b1,b2,b3⟩:=zj4b (by decide) cs hne c1 (by omega) a b n
 obtain ⟨q1,q2⟩:=zaqb cs hne (by omega)
 obtain ⟨q3,q4⟩:=zaqb cs' b3 (by omega)
 obtain ⟨S,hSe⟩:∃ S:Specs,S=[(n_17,zg6),(n_149,spMd us d),(n_148,spCp us cs),(n_74,spBt cs cs' a b n),(n_56,spCk),(n_88,spCk),(n_132,spLv)]:=⟨_,rfl⟩
 refine ⟨S,σ0,?_⟩
 have k1:=zks (S:=S) (by rw [hSe]; rfl) 0 σ0
 have inj:∀ (x:List Cd) (y:List Cd),[dFs FL,dDs x]=[dFs FL,dDs y]→(⟨false,.bool (zfy FL x)⟩:Cell)=⟨false,.bool (zfy FL y)⟩:=fun x y e=>by
  simp only [List.cons.injEq,true_and,and_true] at e
  rw [zatb e]
 obtain ⟨_,z,k2⟩:=T_orc (S:=S) (f:=n_149) (s:=spMd us d) (by rw [hSe]; rfl) rfl (fun _=>rfl) hM
 cases z rfl
 obtain ⟨_,z,k3⟩:=T_orc (S:=S) (f:=n_148) (s:=spCp us cs) (by rw [hSe]; rfl) rfl (fun _=>rfl) hC
 cases z rfl
 obtain ⟨_,z,k4⟩:=T_orc (S:=S) (f:=n_74) (s:=spBt cs cs' a b n) (by rw [hSe]; rfl) rfl (fun _=>rfl) hB
 cases z rfl
 obtain ⟨_,z,k5⟩:=T_orc (S:=S) (f:=n_88) (s:=spCk) (by rw [hSe]; rfl) rfl (fun x e=>inj cs x e) q1
 cases z cs rfl
 obtain ⟨_,z,k6⟩:=T_orc (S:=S) (f:=n_88) (s:=spCk) (by rw [hSe]; rfl) rfl (fun x e=>inj cs' x e) q3
 cases z cs' rfl
 obtain ⟨_,z,k7⟩:=T_orc (S:=S) (f:=n_56) (s:=spCk) (by rw [hSe]; rfl) rfl (fun x e=>inj cs x e) q2
 cases z cs rfl
 obtain ⟨_,z,k8⟩:=T_orc (S:=S) (f:=n_56) (s:=spCk) (by rw [hSe]; rfl) rfl (fun x e=>inj cs' x e) q4
 cases z cs' rfl
 obtain ⟨_,z,k9⟩:=T_orc (S:=S) (f:=n_132) (s:=spLv) (by rw [hSe]; rfl) rfl rfl zitb
 cases z
 rw [T_fun (af:=a_165) (by rw [hSe]; rfl) rfl rfl]
 have k2:=k2 0 σ0
 have k3:=k3 0 σ0
 have k4:=k4 0 σ0
 have k5:=k5 0 σ0
 have k6:=k6 0 σ0
 have k7:=k7 0 σ0
 have k8:=k8 0 σ0
 have k9:=k9 0 σ0
 generalize zfy FL cs=u1 at k5 k7
 generalize zfy FL cs'=u2 at k6 k8
 have e1:(u1 == u1)=true:=by cases u1 <;> rfl
 have e2:(u2 == u2)=true:=by cases u2 <;> rfl
 simp only [a_165,sA,seval,kn,k1,k2,k3,k4,k5,k6,k7,k8,k9,e1,e2]
end Go.Fu
