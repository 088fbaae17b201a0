/-
 Numbers in rows; names of a small world.
-/
import Derived.Test.YtieacpoabejcoaaGreatDoorFsD2
import Derived.Test.YtieacpoabejcoaaGreatDoorFsIds
import Derived.Test.YtieacpoabejcoaaGreatDoorFsH1
set_option maxHeartbeats 4000000
set_option linter.unusedSimpArgs false
set_option linter.unusedVariables false
set_option linter.unusedSectionVars false
namespace Go.Fu
open Go Go.Mx
set_option maxRecDepth 10000
theorem lit1:((1:Nat):Int)=1:=rfl
theorem lit2:((2:Nat):Int)=2:=rfl
theorem lit3:((3:Nat):Int)=3:=rfl
theorem lit4:((4:Nat):Int)=4:=rfl
theorem lit5:((5:Nat):Int)=5:=rfl
theorem lit6:((6:Nat):Int)=6:=rfl
theorem lit7:((7:Nat):Int)=7:=rfl
theorem lit8:((8:Nat):Int)=8:=rfl
theorem aroundL:Evly fun n=>∀ (x:Int) (m:Nat) (k:Int) σ,Small x→k=(m:Int)→0 < m→m < 1048576→T n n_4 [.int .i64 x,.int .i64 k] σ=some (.ret ⟨false,.int .i64 (aro x m)⟩,σ):=around_run.mono fun n h x m k σ hx hk h1 h2=>by
 subst hk
 exact h x m σ hx h1 h2
def dI (x:Int):D:=.int .i64 x
def Row (d:D) (xs:List Int):Prop:=IntRow k_int d xs
theorem row_len {d:D} {xs:List Int} (h:Row d xs):lenOf d=some xs.length:=by
 rcases h with rfl | ⟨rfl,rfl⟩
 ·simp [lenOf]
 ·rfl
theorem row_get {d:D} {xs:List Int} (h:Row d xs) (i:Nat) (hi:i < xs.length):indexD 1 d i=some (.eptr (.int .i64 xs[i])):=by
 rcases h with rfl | ⟨rfl,rfl⟩
 ·have hn:nth (xs.map fun x=>D.int .i64 x) i=some (.int .i64 xs[i]):=by rw [nth_map,nth_get _ _ hi]; rfl
  rw [idxL,hn]
  rfl
 ·simp at hi
theorem row_tail {d:D} {x:Int} {xs:List Int} (h:Row d (x :: xs)):∃ d',sliceD 1 d 1 none=some d'∧Row d' xs:=by
 rcases h with rfl | ⟨h,_⟩
 ·refine ⟨.list k_int (xs.map fun x=>.int .i64 x),?_,.inl rfl⟩
  have h1:(xs.map fun x=>D.int .i64 x).take xs.length=xs.map fun x=>.int .i64 x:=List.take_of_length_le (by simp)
  simp only [sliceD,List.map_cons,List.length_cons,Option.getD_none,List.length_map,List.drop_succ_cons,List.drop_zero,k_180]
  simp [ifB]
  exact h1
 ·cases h
theorem ints_run (d:D) (xs:List Int) (m:Nat) (h:Row d xs) (hm:m < 1048576):∃ d',Row d' (xs.take m)∧∃ o,Evly fun n=>∀ σ,T n n_100 [d,.int .i64 m] σ=some (.ret ⟨o,d'⟩,σ):=by
 have hlen:=row_len h
 have hmin:ifB (decide ((m:Int) < ((xs.length:Nat):Int))) (m:Int) ((xs.length:Nat):Int)=((min xs.length m:Nat):Int):=by
  by_cases hc:(m:Int) < ((xs.length:Nat):Int)
  ·rw [decide_eq_true hc,ifB_true]; omega
  ·rw [decide_eq_false hc,ifB_false]; omega
 rcases h with rfl | ⟨rfl,rfl⟩
 ·refine ⟨dlist k_int ((xs.take m).map dI),?_,true,any _ fun n σ=>?_⟩
  ·cases xs with
   | nil=>exact .inr ⟨by simp,by simp [dlist]⟩
   | cons x r=>cases m with
    | zero=>exact .inr ⟨by simp,by simp [dlist]⟩
    | succ m=>exact .inl (by simp [dlist,dI]; rfl)
  ·rw [T_fun (af:=a_78) rfl rfl]
   have hs:sliceD 1 (.list k_int (xs.map fun x=>.int .i64 x)) 0 (some (min xs.length m))=some (.list k_int ((xs.take m).map dI)):=by
    have h1:(xs.map fun x=>D.int .i64 x).take (min xs.length m)=(xs.take m).map dI:=by
     rcases Nat.le_total m xs.length with h | h
     ·rw [Nat.min_eq_right h,List.map_take]; rfl
     ·rw [Nat.min_eq_left h,List.take_of_length_le (by simp),List.take_of_length_le h]; rfl
    simp only [sliceD,Option.getD_some,List.length_map,k_180]
    simp [ifB,Nat.min_le_left]
    exact h1.trans (by rw [List.map_take])
   have ha:=append_more (r:=k_int) (by_:=8) (es:=[]) (ys:=(xs.take m).map dI) (o:=false) (fun h=>absurd rfl h) (by intro d hd; obtain ⟨v,_,rfl⟩:=List.mem_map.1 hd; exact ⟨rfl,rfl⟩) (by simp [bound]; omega) (by simp [bound]; omega)
   simp only [dlist_nil,List.nil_append] at ha
   simp only [a_78,sA,Nat.reduceAdd,Nat.reduceSub,Nat.reduceMul,Nat.reduceBEq,Nat.reduceLeDiff,Int.reduceBEq,Int.reduceBNe,Int.reduceLE,Int.reduceLT,Int.reduceGE,Int.reduceGT,Int.reduceNeg,kn,hlen,hs,ha,List.length_map,hmin]
   done
 ·refine ⟨.nils,.inr ⟨by simp,rfl⟩,true,any _ fun n σ=>?_⟩
  rw [T_fun (af:=a_78) rfl rfl]
  have hmin0:ifB (decide ((m:Int) < ((0:Nat):Int))) (m:Int) ((0:Nat):Int)=0:=by
   rw [decide_eq_false (by omega),ifB_false]
   rfl
  have hs0:sliceD 1 .nils 0 (some 0)=some .nils:=rfl
  have ha0:appendD k_int 8 ⟨false,.nils⟩ []=some ⟨true,.nils⟩:=rfl
  simp only [a_78,sA,Nat.reduceAdd,Nat.reduceSub,Nat.reduceMul,Nat.reduceBEq,Nat.reduceLeDiff,Int.reduceBEq,Int.reduceBNe,Int.reduceLE,Int.reduceLT,Int.reduceGE,Int.reduceGT,Int.reduceNeg,kn,hmin0,hs0,ha0]
  done
def pk:List Int→Nat
 | []=>0
 | x :: _=>aro x 100000
theorem pk_lt (xs:List Int):pk xs < 100000:=by
 cases xs with
 | nil=>simp [pk]
 | cons x r=>exact aro_lt x (by omega)
theorem pick_run (d:D) (xs:List Int) (h:Row d xs) (hs:∀ x∈xs,Small x):Evly fun n=>∀ σ,T n n_11 [d,.int .i64 0] σ=some (.ret ⟨false,.int .i64 (pk xs)⟩,σ):=aroundL.step 0 fun n _ har σ=>by
 rw [T_fun (af:=a_48) rfl rfl]
 have hlen:=row_len h
 cases xs with
 | nil=>simp only [a_48,sA,Nat.reduceAdd,Nat.reduceSub,Nat.reduceMul,Nat.reduceBEq,Nat.reduceLeDiff,Int.reduceBEq,Int.reduceBNe,Int.reduceLE,Int.reduceLT,Int.reduceGE,Int.reduceGT,Int.reduceNeg,kn,hlen,pk,zeroI,lit1,lit2,lit3,lit4,lit5,lit6,lit7,lit8]
        done
 | cons x r =>
  have hx:=row_get h 0 (by simp)
  have h1:=har x 100000 100000 σ (hs x (by simp)) rfl (by omega) (by omega)
  have hg:¬ ((0:Int) ≥ ((r.length + 1:Nat):Int)):=by omega
  simp only [List.getElem_cons_zero] at hx
  simp only [a_48,sA,Nat.reduceAdd,Nat.reduceSub,Nat.reduceMul,Nat.reduceBEq,Nat.reduceLeDiff,Int.reduceBEq,Int.reduceBNe,Int.reduceLE,Int.reduceLT,Int.reduceGE,Int.reduceGT,Int.reduceNeg,kn,hlen,hx,hg,pk,h1]
  done
def nmS (x:Int):List UInt8:=match aro x 4 with
 | 0=>[97]
 | 1=>[98]
 | 2=>[99]
 | _=>[120]
theorem name_run:Evly fun n=>∀ (x:Int) σ,Small x→T n n_23 [.int .i64 x] σ=some (.ret ⟨false,.str (nmS x)⟩,σ):=aroundL.step 0 fun n _ har x σ hx=>by
 rw [T_fun (af:=a_155) rfl rfl]
 have h1:=har x 4 4 σ hx rfl (by omega) (by omega)
 have h2:=aro_lt x (m:=4) (by omega)
 have h4:aro x 4=0∨aro x 4=1∨aro x 4=2∨aro x 4=3:=by omega
 rcases h4 with h4 | h4 | h4 | h4 <;> rw [h4] at h1 <;> simp only [zeroI,lit1,lit2,lit3,lit4,lit5,lit6,lit7,lit8] at h1 <;> simp only [nmS,h4] <;> simp only [a_155,sA,Nat.reduceAdd,Nat.reduceSub,Nat.reduceMul,Nat.reduceBEq,Nat.reduceLeDiff,Int.reduceBEq,Int.reduceBNe,Int.reduceLE,Int.reduceLT,Int.reduceGE,Int.reduceGT,Int.reduceNeg,kn,zeroI,lit1,lit2,lit3,lit4,lit5,lit6,lit7,lit8,h1]
 all_goals done
def cnS (x:Int):List UInt8:=match aro x 6 with
 | 0=>[73,110,116]
 | 1=>[66,111,111,108]
 | 2=>[76]
 | 3=>[80]
 | 4=>[70]
 | _=>[45,62]
theorem con_run:Evly fun n=>∀ (x:Int) σ,Small x→T n n_101 [.int .i64 x] σ=some (.ret ⟨false,.str (cnS x)⟩,σ):=aroundL.step 0 fun n _ har x σ hx=>by
 rw [T_fun (af:=a_153) rfl rfl]
 have h1:=har x 6 6 σ hx rfl (by omega) (by omega)
 have h2:=aro_lt x (m:=6) (by omega)
 have h4:aro x 6=0∨aro x 6=1∨aro x 6=2∨aro x 6=3∨aro x 6=4∨aro x 6=5:=by omega
 rcases h4 with h4 | h4 | h4 | h4 | h4 | h4 <;> rw [h4] at h1 <;> simp only [zeroI,lit1,lit2,lit3,lit4,lit5,lit6,lit7,lit8] at h1 <;> simp only [cnS,h4] <;> simp only [a_153,sA,Nat.reduceAdd,Nat.reduceSub,Nat.reduceMul,Nat.reduceBEq,Nat.reduceLeDiff,Int.reduceBEq,Int.reduceBNe,Int.reduceLE,Int.reduceLT,Int.reduceGE,Int.reduceGT,Int.reduceNeg,kn,zeroI,lit1,lit2,lit3,lit4,lit5,lit6,lit7,lit8,h1]
 all_goals done
end Go.Fu
namespace Go.Fu
open Go Go.Mx
set_option maxRecDepth 10000
theorem itoa0 (n:Nat) (x:Int) (u:List UInt8) (σ:Store) (h:xItoa [.int .i64 x]=some (.str u)):T (n + 1) n_36 [.int .i64 x] σ=some (.ret ⟨false,.str u⟩,σ):=by
 rw [T_lib rfl]
 show bindO (xItoa [.int .i64 x]) _=_
 rw [h]
 rfl
theorem itoa_run:Evly fun n=>∀ (x:Nat) σ,x < 6→T n n_36 [.int .i64 (x:Int)] σ=some (.ret ⟨false,.str [UInt8.ofNat (48 + x)]⟩,σ):=any _ fun n x σ hx=>by
 have h:x=0∨x=1∨x=2∨x=3∨x=4∨x=5:=by omega
 rcases h with rfl | rfl | rfl | rfl | rfl | rfl <;> exact itoa0 n _ _ σ rfl
structure WF (σ:Store):Prop where
 objs:∀ p∈σ.objs,p.1 < σ.next
 tys:∀ p∈σ.tys,p.1 < σ.next
 oth:∀ p∈σ.oth,p.1 < σ.next
theorem exec_frz {C:CallF} {n:Nat} {ts:List FTgt} {b:ACode} {e:Env} {σ:Store}:exec C n none (.frz ts b) e σ=bindO (freezes ts e σ) fun x=>exec C n none b x.1 x.2:=rfl
theorem freezeD_arr {n:Nat} {k:RowK} {id off len:Nat} {os:Objs}:freezeD (n + 1) (.arr k id off len) os=bindO (aget os id) fun cs=>ifB ((k.ag || k.sz == 1) && decide ((off + len) * k.sz≤cs.length)) (bindO (freezeL (freezeD n) (elems k cs off len) (adel1 os id)) fun r=>some (.list k r.1,r.2)) none:=rfl
end Go.Fu
namespace Go.Fu
open Go Go.Mx
set_option maxRecDepth 10000
theorem cellsOf_append:∀ a b:List D,cellsOf (a ++ b)=cellsOf a ++ cellsOf b
 | [],b=>rfl
 | d :: a,b=>by simp only [List.cons_append,cellsOf,cellsOf_append a b,List.append_assoc]
theorem cellsOf_len {z:Nat}:∀ a:List D,(∀ d∈a,d.cells.length=z)→(cellsOf a).length=a.length * z
 | [],_=>by simp [cellsOf]
 | d :: a,h=>by
  have h1:=h d (by simp)
  have h2:=cellsOf_len a fun x hx=>h x (List.mem_cons_of_mem _ hx)
  simp only [cellsOf,List.length_append,List.length_map,h1,h2,List.length_cons,Nat.succ_mul,Nat.add_comm]
theorem chunks_cells {k:RowK}:∀ ds:List D,(∀ d∈ds,d.cells.length=k.sz∧packD k d.cells=d)→chunks k ds.length ((cellsOf ds).map fun c=>c.d)=ds
 | [],_=>rfl
 | d :: ds,h=>by
  obtain ⟨h1,h2⟩:=h d (by simp)
  have h3:=chunks_cells ds fun x hx=>h x (List.mem_cons_of_mem _ hx)
  have e1:(d.cells.map Cell.of).map (fun c=>c.d)=d.cells:=by
   rw [List.map_map]
   exact List.map_id'' (fun _=>rfl) _
  simp only [List.length_cons,chunks,cellsOf,List.map_append,e1]
  rw [List.take_left' h1,List.drop_left' h1,h2,h3]
theorem elems_cells {k:RowK} {ds:List D} (h:∀ d∈ds,d.cells.length=k.sz∧packD k d.cells=d):elems k (cellsOf ds) 0 ds.length=ds:=by
 simp only [elems,Nat.zero_mul,List.drop_zero]
 exact chunks_cells ds h
theorem freezeL_id {n:Nat} {os:Objs}:∀ ds:List D,(∀ d∈ds,freezeD n d os=some (d,os))→freezeL (freezeD n) ds os=some (ds,os)
 | [],_=>rfl
 | d :: ds,h=>by
  have h1:=h d (by simp)
  have h2:=freezeL_id ds fun x hx=>h x (List.mem_cons_of_mem _ hx)
  simp only [freezeL,h1,bindO,caseO_some,h2]
theorem freezeD_row {k:RowK} {id n:Nat} {ds:List D} {os os':Objs} (ho:aget os id=some (cellsOf ds)) (hd:adel1 os id=os') (hk:(k.ag || k.sz == 1)=true) (h:∀ d∈ds,d.cells.length=k.sz∧packD k d.cells=d) (hf:∀ d∈ds,freezeD n d os'=some (d,os')) :
  freezeD (n + 1) (.arr k id 0 ds.length) os=some (.list k ds,os'):=by
 have hl:=cellsOf_len ds fun d hd=>(h d hd).1
 have e0:decide ((0 + ds.length) * k.sz≤(cellsOf ds).length)=true:=by simp; omega
 simp only [freezeD_arr,ho,bindO,caseO_some,hk,e0,Bool.and_self,ifB,elems_cells h,hd,freezeL_id ds hf]
end Go.Fu
namespace Go.Fu
open Go Go.Mx
set_option maxRecDepth 10000
set_option maxHeartbeats 4000000
def cO:Option Tp→List D
 | none=>[.int .i64 0,.int .i64 0,.str [],.nils]
 | some t=>cT t
def dO (o:Option Tp):D:=.agg (cO o)
def oF:Option Tp→Int
 | none=>0
 | some t=>t.form
theorem len_cO (o:Option Tp):(cO o).length=4:=by cases o <;> rfl
theorem cells_dO (o:Option Tp):(dO o).cells.length=4:=len_cO o
def matchM (ns:List (List UInt8)):Tp→Tp→List (Option Tp)→Bool × List (Option Tp)
 | .var s,t,l=>match posS s ns with
  | some k=>match l.getD k none with
   | some x=>(eqT x t,l)
   | none=>(true,l.set k (some t))
  | none=>(eqT (.var s) t,l)
 | .app f a,t,l=>match t with
  | .app g b=>if (matchM ns f g l).1 then matchM ns a b (matchM ns f g l).2 else (false,(matchM ns f g l).2)
  | _=>(false,l)
 | .hole x,t,l=>(eqT (.hole x) t,l)
 | .con s,t,l=>(eqT (.con s) t,l)
theorem matchM_len (ns:List (List UInt8)):∀ (p t:Tp) (l:List (Option Tp)),(matchM ns p t l).2.length=l.length
 | .var s,t,l=>by
  unfold matchM
  split
  ·split
   ·rfl
   ·simp
  ·rfl
 | .app f a,t,l=>by
  cases t with
  | app g b =>
   unfold matchM
   simp only
   split
   ·rw [matchM_len ns a b,matchM_len ns f g]
   ·exact matchM_len ns f g l
  | _=>rfl
 | .hole x,t,l=>rfl
 | .con s,t,l=>rfl
def oC (l:List (Option Tp)):List Cell:=cellsOf (l.map dO)
structure MF (id:Nat) (l:List (Option Tp)) (σ σ':Store):Prop where
 obj:aget σ'.objs id=some (oC l)
 objs:∀ j,j≠id→aget σ'.objs j=aget σ.objs j
 tys:σ'.tys=σ.tys
 oth:σ'.oth=σ.oth
 next:σ'.next=σ.next
theorem MF.refl {id:Nat} {l:List (Option Tp)} {σ:Store} (h:aget σ.objs id=some (oC l)):MF id l σ σ:=⟨h,fun _ _=>rfl,rfl,rfl,rfl⟩
theorem MF.trans {id:Nat} {l l':List (Option Tp)} {a b c:Store} (h:MF id l a b) (k:MF id l' b c):MF id l' a c:=⟨k.obj,fun j hj=>(k.objs j hj).trans (h.objs j hj),k.tys.trans h.tys,k.oth.trans h.oth,k.next.trans h.next⟩
theorem takeC_here:∀ (a:List Cell) (b:List Cell),takeC (a ++ b) 0 a.length=some (a.map fun c=>c.d)
 | [],b=>by cases b <;> rfl
 | c :: a,b=>by
  simp only [List.cons_append,List.length_cons,takeC,takeC_here a b,bindO,caseO_some,List.map_cons]
theorem takeC_skip (n:Nat):∀ (a b:List Cell),takeC (a ++ b) a.length n=takeC b 0 n
 | [],b=>rfl
 | c :: a,b=>by
  simp only [List.cons_append,List.length_cons,takeC,takeC_skip n a b]
theorem putC_here:∀ (a b z:List Cell),a.length=z.length→putCells (z ++ b) 0 a=a ++ b
 | [],b,z,h=>by
  have:z=[]:=List.eq_nil_of_length_eq_zero (by simpa using h.symm)
  subst this
  cases b <;> rfl
 | c :: a,b,[],h=>by simp at h
 | c :: a,b,y :: z,h=>by
  simp only [List.cons_append,putCells,putC_here a b z (by simpa using h)]
theorem putC_skip (x:Cell) (xs:List Cell):∀ (a b:List Cell),putCells (a ++ b) a.length (x :: xs)=a ++ putCells b 0 (x :: xs)
 | [],b=>rfl
 | c :: a,b=>by
  simp only [List.cons_append,List.length_cons,putCells,putC_skip x xs a b]
theorem oC_len (l:List (Option Tp)):(oC l).length=l.length * 4:=by
 unfold oC
 rw [cellsOf_len (z:=4)]
 ·simp
 ·intro d hd
  obtain ⟨o,_,rfl⟩:=List.mem_map.1 hd
  exact cells_dO o
theorem oC_split (l:List (Option Tp)) (i:Nat) (h:i < l.length):oC l=oC (l.take i) ++ ((cO l[i]).map Cell.of ++ oC (l.drop (i + 1))):=by
 have e:l=l.take i ++ l[i] :: l.drop (i + 1):=by rw [← List.drop_eq_getElem_cons h,List.take_append_drop]
 conv=>lhs; rw [e]
 unfold oC
 rw [List.map_append,cellsOf_append,List.map_cons]
 rfl
theorem oC_take (l:List (Option Tp)) (i:Nat) (h:i < l.length):takeC (oC l) (i * 4) 4=some (cO l[i]):=by
 have hl:(oC (l.take i)).length=i * 4:=by rw [oC_len,List.length_take,Nat.min_eq_left (by omega)]
 rw [oC_split l i h,← hl,takeC_skip]
 have h4:4=((cO l[i]).map Cell.of).length:=by rw [List.length_map,len_cO]
 conv=>lhs; rw [h4]
 rw [takeC_here,List.map_map]
 congr 1
 exact List.map_id'' (fun _=>rfl) _
theorem oC_nth (l:List (Option Tp)) (i:Nat) (h:i < l.length):nth (oC l) (i * 4)=some ⟨false,.int .i64 (oF l[i])⟩:=by
 have hl:(oC (l.take i)).length=i * 4:=by rw [oC_len,List.length_take,Nat.min_eq_left (by omega)]
 rw [nth_eq,oC_split l i h,List.getElem?_append_right (by omega),hl,Nat.sub_self]
 cases l[i] <;> rfl
theorem oC_put (l:List (Option Tp)) (i:Nat) (h:i < l.length) (t:Tp):putCells (oC l) (i * 4) ((cT t).map Cell.of)=oC (l.set i (some t)):=by
 have hl:(oC (l.take i)).length=i * 4:=by rw [oC_len,List.length_take,Nat.min_eq_left (by omega)]
 have hs:oC (l.set i (some t))=oC (l.take i) ++ ((cT t).map Cell.of ++ oC (l.drop (i + 1))):=by
  have h':i < (l.set i (some t)).length:=by simpa using h
  rw [oC_split _ i h',List.getElem_set_self,List.take_set_of_le (Nat.le_refl _),List.drop_set_of_lt (Nat.lt_succ_self _)]
  rfl
 rw [hs,oC_split l i h,← hl]
 have e:(cT t).map Cell.of=Cell.of (.int .i64 t.form) :: [Cell.of (.int .i64 t.num),Cell.of (.str t.name),Cell.of (dlist k_1 (t.args.map dT))]:=rfl
 rw [e,putC_skip,← e,putC_here]
 rw [List.length_map,List.length_map,len_cO]
 rfl
theorem idxO (id n i:Nat) (h:i < n):indexD 4 (.arr k_1 id 0 n) i=some (.ptr id (i * 4)):=by
 have h1:(k_1.sz == 4)=true:=rfl
 simp only [indexD,h1,Bool.true_and,decide_eq_true h,ifB_true,Nat.zero_add]
end Go.Fu
namespace Go.Fu
open Go Go.Mx
set_option maxRecDepth 10000
set_option maxHeartbeats 4000000
def MOK (ns:List (List UInt8)) (p t:Tp) (l:List (Option Tp)):Prop:=Evly fun n=>∀ σ id,aget σ.objs id=some (oC l)→∃ σ',T n n_107 [dSs ns,dT p,dT t,.arr k_1 id 0 l.length] σ=some (.ret ⟨false,.bool (matchM ns p t l).1⟩,σ')∧MF id (matchM ns p t l).2 σ σ'
theorem match_leaf (ns:List (List UInt8)) (hns:ns.length < 1048576) (p t:Tp) (l:List (Option Tp)) (hp:p.args=[]) (hv:posS p.name ns=none∨p.form≠2):Evly fun n=>∀ σ d,d.one=true→T n n_107 [dSs ns,dT p,dT t,d] σ=some (.ret ⟨false,.bool (eqT p t)⟩,σ) :=
 (index_run ns p.name hns).step 2 fun m hm hix σ d hd=>by
 obtain ⟨k,rfl⟩:∃ k,m=k + 1:=⟨m - 1,by omega⟩
 have hix:=hix σ
 rw [T_fun (af:=a_9) rfl rfl]
 have hl:∀ (A B:List Cell),loopN (exec (T (k + 1)) (k + 1) none a_34) (k + 1) {slots:=[(0,⟨false,dSs ns⟩),(3,⟨false,d⟩),(60,⟨false,.int .i64 0⟩),(61,⟨false,.int .i64 0⟩)],locs:=[(5,5,0),(6,6,0)],boxes:=[(5,A),(6,B)],defers:=[]} σ=some (.exit 0,{slots:=[(0,⟨false,dSs ns⟩),(3,⟨false,d⟩),(60,⟨false,.int .i64 0⟩),(61,⟨false,.int .i64 0⟩),(62,⟨false,.bool false⟩)],locs:=[(5,5,0),(6,6,0)],boxes:=[(5,A),(6,B)],defers:=[]},σ):=fun A B=>loopN_one (by
  have h0:¬ ((0:Int) < 0):=by omega
  simp only [a_34,sA,seval,kn,h0])
 have hgo:∃ b1:Bool,decide (posI p.name ns ≥ 0)=b1∧(b1=true→(p.form == 2)=false):=by
  rcases hv with hv | hv
  ·refine ⟨false,?_,fun h=>by cases h⟩
   unfold posI
   rw [hv]
   rfl
  ·exact ⟨_,rfl,fun _=>by simpa using hv⟩
 obtain ⟨b1,g1,g2⟩:=hgo
 have hnil:dlist k_1 (p.args.map dT)=.nils:=by rw [hp]; rfl
 have spec:eqT p t=((p.form == t.form) && (p.name == t.name) && (p.num == t.num)):=by
  cases p <;> cases t <;> simp_all [eqT,Tp.form,Tp.name,Tp.num,Tp.args]
 cases e1:p.form != t.form with
 | true =>
  have hr:eqT p t=false:=by rw [spec]; simp at e1; simp [e1]
  cases b1 with
  | false=>simp only [a_9,sA,seval,kn,dT_eq p,dT_eq t,cT,hix,g1,e1,hr]
  | true =>
   have g3:=g2 rfl
   simp only [a_9,sA,seval,kn,dT_eq p,dT_eq t,cT,hix,g1,g3,e1,hr]
 | false =>
 have f1:(p.form == t.form)=true:=by simpa using e1
 cases e2:p.name == t.name with
 | false =>
  have hr:eqT p t=false:=by rw [spec,e2]; simp
  cases b1 with
  | false=>simp only [a_9,sA,seval,kn,dT_eq p,dT_eq t,cT,hix,g1,e1,e2,hr]
  | true =>
   have g3:=g2 rfl
   simp only [a_9,sA,seval,kn,dT_eq p,dT_eq t,cT,hix,g1,g3,e1,e2,hr]
 | true =>
 cases e3:p.num != t.num with
 | true =>
  have hr:eqT p t=false:=by rw [spec]; simp at e3; simp [e3]
  cases b1 with
  | false=>simp only [a_9,sA,seval,kn,dT_eq p,dT_eq t,cT,hix,g1,e1,e2,e3,hr]
  | true =>
   have g3:=g2 rfl
   simp only [a_9,sA,seval,kn,dT_eq p,dT_eq t,cT,hix,g1,g3,e1,e2,e3,hr]
 | false =>
  have f3:(p.num == t.num)=true:=by simpa using e3
  have hr:eqT p t=true:=by rw [spec,f1,e2,f3]; rfl
  have hl0:lenOf (D.nils)=some 0:=rfl
  cases b1 with
  | false=>simp only [a_9,sA,seval,kn,dT_eq p,dT_eq t,cT,hnil,hl0,zeroI,hix,g1,e1,e2,e3,hr,hl]
  | true =>
   have g3:=g2 rfl
   simp only [a_9,sA,seval,kn,dT_eq p,dT_eq t,cT,hnil,hl0,zeroI,hix,g1,g3,e1,e2,e3,hr,hl]
theorem match_var (ns:List (List UInt8)) (hns:ns.length < 1048576) (s:List UInt8) (t:Tp) (l:List (Option Tp)) (hl:l.length=ns.length):MOK ns (.var s) t l:=by
 cases hp:posS s ns with
 | none =>
  refine (match_leaf ns hns (.var s) t l rfl (.inl hp)).mono fun n h σ id ha=>⟨σ,?_,?_⟩
  ·have e:matchM ns (.var s) t l=(eqT (.var s) t,l):=by unfold matchM; rw [hp]
   rw [e]
   exact h σ _ rfl
  ·have e:matchM ns (.var s) t l=(eqT (.var s) t,l):=by unfold matchM; rw [hp]
   rw [e]
   exact MF.refl ha
 | some k =>
  have hk:k < l.length:=by have:=posS_lt hp; omega
  have hg:l.getD k none=l[k]:=by simp [hk]
  have hix:=index_run ns s hns
  have h0:((k:Int) ≥ 0):=by omega
  have hv:posI s ns=(k:Int):=by unfold posI; rw [hp]
  have hx:=idxO (n:=l.length)
  cases hlk:l[k] with
  | some x =>
   have e:matchM ns (.var s) t l=(eqT x t,l):=by unfold matchM; simp only [hp,hg,hlk]
   refine (hix.and (tSame_run x t)).step 0 fun m _ h σ id ha=>⟨σ,?_,by rw [e]; exact MF.refl ha⟩
   have h1:=h.1 σ
   have h2:=h.2 σ
   have hn:=oC_nth l k hk
   have ht:=oC_take l k hk
   rw [hlk] at hn ht
   rw [hv] at h1
   rw [dT_eq x,dT_eq t] at h2
   rw [e,T_fun (af:=a_9) rfl rfl]
   have hf:(x.form != 0)=true:=by cases x <;> rfl
   have hX:=hx id k hk
   generalize oC l=cs at *
   simp only [oF,cO,cT] at hn ht h2
   simp only [a_9,sA,seval,kn,dT,dT_eq t,cT,h1,h0,natI,hX,ha,hn,ht,hf,h2]
  | none =>
   have e:matchM ns (.var s) t l=(true,l.set k (some t)):=by unfold matchM; simp only [hp,hg,hlk]
   refine (hix.and (app0_run t)).step 0 fun m _ h σ id ha=>⟨{σ with objs:=aset σ.objs id (oC (l.set k (some t)))},?_,?_⟩
   ·have h1:=h.1 σ
    have h2:=h.2 σ
    have hn:=oC_nth l k hk
    have hpu:=oC_put l k hk t
    rw [hlk] at hn
    rw [hv] at h1
    rw [dT_eq t] at h2
    rw [e,T_fun (af:=a_9) rfl rfl]
    have hX:=hx id k hk
    have hlen:k * 4 + 4≤(oC l).length:=by rw [oC_len]; omega
    generalize oC l=cs at *
    generalize oC (l.set k (some t))=cs' at *
    have hf:((0:Int) != 0)=false:=rfl
    simp only [oF,cT,List.map_cons,List.map_nil,Cell.of] at hn h2 hpu
    simp only [a_9,sA,seval,kn,dT,dT_eq t,cT,one_dlist,h1,h0,natI,hX,ha,hn,hf,h2,hlen,hpu]
   ·rw [e]
    exact ⟨by simp only [aget_aset,if_true],fun j hj=>by simp only [aget_aset,if_neg (Ne.symm hj)],rfl,rfl,rfl⟩
end Go.Fu
namespace Go.Fu
open Go Go.Mx
set_option maxRecDepth 10000
set_option maxHeartbeats 4000000
theorem loopN_succ {body:Env→Store→XRes} {n:Nat} {e:Env} {σ:Store} {e':Env} {σ':Store} (h:body e σ=some (.normal,e',σ')):loopN body (n + 1) e σ=loopN body n e' σ':=by rw [loopN,h]
theorem loopN_stop {body:Env→Store→XRes} {n:Nat} {e:Env} {σ:Store} {e':Env} {σ':Store} {i:Nat} (h:body e σ=some (.exit i,e',σ')):loopN body (n + 1) e σ=some (.exit i,e',σ'):=by rw [loopN,h]
theorem loopN_ret {body:Env→Store→XRes} {n:Nat} {e:Env} {σ:Store} {e':Env} {σ':Store} (h:body e σ=some (.ret,e',σ')):loopN body (n + 1) e σ=some (.ret,e',σ'):=by rw [loopN,h]
section
variable {C:CallF} {n:Nat} {σ σ':Store}
def Emt (ns:List (List UInt8)) (p t:Tp) (d:D) (i:Nat):Env:={slots:=[(0,⟨false,dSs ns⟩),(3,⟨false,d⟩),(60,⟨false,.int .i64 p.args.length⟩),(61,⟨false,.int .i64 i⟩)],locs:=[(5,5,0),(6,6,0)],boxes:=[(5,bT p),(6,bT t)],defers:=[]}
theorem lmt_step (ns:List (List UInt8)) (p t:Tp) (d:D) (i:Nat) (h:i < p.args.length) (h':i < t.args.length) (hc:C n_107 [dSs ns,dT p.args[i],dT t.args[i],d] σ=some (.ret ⟨false,.bool true⟩,σ')):exec C n none a_34 (Emt ns p t d i) σ=some (.normal,Emt ns p t d (i + 1),σ'):=by
 have hi:((i:Int) < (p.args.length:Int)):=by omega
 have hx:=idx_T p.args i h
 have hy:=idx_T t.args i h'
 rw [dT_eq p.args[i]] at hc hx
 rw [dT_eq t.args[i]] at hc hy
 simp only [cT] at hc hx hy
 simp only [a_34,Emt,bT,sA,seval,kn,natI,hi,hx,hy,hc,wrap64_succ (i:=i) (by have:=args_len p; omega)]
theorem lmt_stop (ns:List (List UInt8)) (p t:Tp) (d:D) (i:Nat) (h:i < p.args.length) (h':i < t.args.length) (hc:C n_107 [dSs ns,dT p.args[i],dT t.args[i],d] σ=some (.ret ⟨false,.bool false⟩,σ')):exec C n none a_34 (Emt ns p t d i) σ=some (.ret,{slots:=[(8,⟨false,.bool false⟩)],locs:=[],boxes:=[],defers:=[]},σ'):=by
 have hi:((i:Int) < (p.args.length:Int)):=by omega
 have hx:=idx_T p.args i h
 have hy:=idx_T t.args i h'
 rw [dT_eq p.args[i]] at hc hx
 rw [dT_eq t.args[i]] at hc hy
 simp only [cT] at hc hx hy
 simp only [a_34,Emt,bT,sA,seval,kn,natI,hi,hx,hy,hc]
theorem lmt_end (ns:List (List UInt8)) (p t:Tp) (d:D):exec C n none a_34 (Emt ns p t d p.args.length) σ=some (.exit 0,{Emt ns p t d p.args.length with slots:=[(0,⟨false,dSs ns⟩),(3,⟨false,d⟩),(60,⟨false,.int .i64 p.args.length⟩),(61,⟨false,.int .i64 p.args.length⟩),(62,⟨false,.bool false⟩)]},σ):=by
 have hi:¬ ((p.args.length:Int) < (p.args.length:Int)):=by omega
 simp only [a_34,Emt,sA,seval,kn,hi]
end
theorem match_run (ns:List (List UInt8)) (hns:ns.length < 1048576):∀ (p t:Tp) (l:List (Option Tp)),l.length=ns.length→MOK ns p t l
 | .var s,t,l,hl=>match_var ns hns s t l hl
 | .hole x,t,l,hl=>(match_leaf ns hns (.hole x) t l rfl (.inr (by simp [Tp.form]))).mono fun n h σ id ha=>⟨σ,h σ _ rfl,MF.refl ha⟩
 | .con x,t,l,hl=>(match_leaf ns hns (.con x) t l rfl (.inr (by simp [Tp.form]))).mono fun n h σ id ha=>⟨σ,h σ _ rfl,MF.refl ha⟩
 | .app f a,t,l,hl=>by
  by_cases ht:t.form=4
  ·obtain ⟨g,b,rfl⟩:∃ g b,t=.app g b:=by
    cases t with
    | app g b=>exact ⟨g,b,rfl⟩
    | _=>simp [Tp.form] at ht
   have h1:=match_run ns hns f g l hl
   have h2:=match_run ns hns a b (matchM ns f g l).2 ((matchM_len ns f g l).trans hl)
   have hlen2:=matchM_len ns f g l
   refine ((index_run ns [] hns).and (h1.and h2)).step 6 fun m hm h σ id ha=>?_
   obtain ⟨hix,h1,h2⟩:=h
   have hix:=hix σ
   obtain ⟨σ1,r1,m1⟩:=h1 σ id ha
   obtain ⟨k,rfl⟩:∃ k,m=k + 3:=⟨m - 3,by omega⟩
   obtain ⟨b1,g1⟩:∃ b1,decide (posI [] ns ≥ 0)=b1:=⟨_,rfl⟩
   have e4:((4:Int) == 2)=false:=rfl
   have en:(([]:List UInt8) == [])=true:=rfl
   have hlp:lenOf (D.list k_1 [dT f,dT a])=some 2:=rfl
   have z2:((2:Nat):Int)=2:=rfl
   have hB1:bT (.app f a)=[⟨false,.int .i64 4⟩,⟨false,.int .i64 0⟩,⟨false,.str []⟩,⟨false,.list k_1 [dT f,dT a]⟩]:=rfl
   have hB2:bT (.app g b)=[⟨false,.int .i64 4⟩,⟨false,.int .i64 0⟩,⟨false,.str []⟩,⟨false,.list k_1 [dT g,dT b]⟩]:=rfl
   have hA:(Tp.app f a).args.length=2:=rfl
   cases hb:(matchM ns f g l).1 with
   | false =>
    rw [hb] at r1
    have hr:matchM ns (.app f a) (.app g b) l=(false,(matchM ns f g l).2):=by simp only [matchM,hb,Bool.false_eq_true,if_false]
    rw [hr]
    refine ⟨σ1,?_,m1⟩
    have hs:=loopN_ret (n:=k + 2) (lmt_stop (C:=T (k + 3)) (n:=k + 3) ns (.app f a) (.app g b) (.arr k_1 id 0 l.length) 0 (by simp [Tp.args]) (by simp [Tp.args]) r1)
    rw [show k + 2 + 1=k + 3 from rfl] at hs
    simp only [Emt,hB1,hB2,hA,zeroI,z2] at hs
    rw [T_fun (af:=a_9) rfl rfl]
    cases b1 with
    | false=>simp only [a_9,sA,seval,kn,dT,hix,g1,en,hlp,z2,hs]
    | true=>simp only [a_9,sA,seval,kn,dT,hix,g1,e4,en,hlp,z2,hs]
   | true =>
    rw [hb] at r1
    have hs0:=loopN_succ (n:=k + 2) (lmt_step (C:=T (k + 3)) (n:=k + 3) ns (.app f a) (.app g b) (.arr k_1 id 0 l.length) 0 (by simp [Tp.args]) (by simp [Tp.args]) r1)
    obtain ⟨σ2,r2,m2⟩:=h2 σ1 id m1.obj
    rw [hlen2] at r2
    have hr:matchM ns (.app f a) (.app g b) l=matchM ns a b (matchM ns f g l).2:=by simp only [matchM,hb,if_true]
    rw [hr]
    refine ⟨σ2,?_,m1.trans m2⟩
    cases hb2:(matchM ns a b (matchM ns f g l).2).1 with
    | false =>
     rw [hb2] at r2
     have hs1:=loopN_ret (n:=k + 1) (lmt_stop (C:=T (k + 3)) (n:=k + 3) ns (.app f a) (.app g b) (.arr k_1 id 0 l.length) 1 (by simp [Tp.args]) (by simp [Tp.args]) r2)
     rw [hs1,show k + 2 + 1=k + 3 from rfl] at hs0
     simp only [Emt,hB1,hB2,hA,zeroI,z2] at hs0
     rw [T_fun (af:=a_9) rfl rfl]
     cases b1 with
     | false=>simp only [a_9,sA,seval,kn,dT,hix,g1,en,hlp,z2,hs0]
     | true=>simp only [a_9,sA,seval,kn,dT,hix,g1,e4,en,hlp,z2,hs0]
    | true =>
     rw [hb2] at r2
     have hs1:=loopN_succ (n:=k + 1) (lmt_step (C:=T (k + 3)) (n:=k + 3) ns (.app f a) (.app g b) (.arr k_1 id 0 l.length) 1 (by simp [Tp.args]) (by simp [Tp.args]) r2)
     have hs2:=loopN_stop (n:=k) (lmt_end (C:=T (k + 3)) (n:=k + 3) (σ:=σ2) ns (.app f a) (.app g b) (.arr k_1 id 0 l.length))
     have e2:(1 + 1)=(Tp.app f a).args.length:=rfl
     rw [hs1,e2,hs2,show k + 2 + 1=k + 3 from rfl] at hs0
     simp only [Emt,hB1,hB2,hA,zeroI,z2] at hs0
     rw [T_fun (af:=a_9) rfl rfl]
     cases b1 with
     | false=>simp only [a_9,sA,seval,kn,dT,hix,g1,en,hlp,z2,hs0]
     | true=>simp only [a_9,sA,seval,kn,dT,hix,g1,e4,en,hlp,z2,hs0]
  ·have hr:matchM ns (.app f a) t l=(false,l):=by
    cases t with
    | app g b=>exact absurd rfl ht
    | _=>rfl
   refine (index_run ns [] hns).step 0 fun m _ hix σ id ha=>⟨σ,?_,by rw [hr]; exact MF.refl ha⟩
   have hix:=hix σ
   obtain ⟨b1,g1⟩:∃ b1,decide (posI [] ns ≥ 0)=b1:=⟨_,rfl⟩
   have e4:((4:Int) == 2)=false:=rfl
   have e1:((4:Int) != t.form)=true:=by simpa using fun h=>ht h.symm
   rw [hr,T_fun (af:=a_9) rfl rfl]
   cases b1 with
   | false=>simp only [a_9,sA,seval,kn,dT,dT_eq t,cT,hix,g1,e1]
   | true=>simp only [a_9,sA,seval,kn,dT,dT_eq t,cT,hix,g1,e4,e1]
structure Bel (m:Nat) (σ σ':Store):Prop where
 le:m≤σ'.next
 objs:∀ j,j < m→aget σ'.objs j=aget σ.objs j
 tys:∀ j,j < m→aget σ'.tys j=aget σ.tys j
 oth:∀ j,j < m→aget σ'.oth j=aget σ.oth j
theorem Bel.refl {m:Nat} {σ:Store} (h:m≤σ.next):Bel m σ σ:=⟨h,fun _ _=>rfl,fun _ _=>rfl,fun _ _=>rfl⟩
theorem Bel.trans {m:Nat} {a b c:Store} (h:Bel m a b) (k:Bel m b c):Bel m a c :=
 ⟨k.le,fun j hj=>(k.objs j hj).trans (h.objs j hj),fun j hj=>(k.tys j hj).trans (h.tys j hj),fun j hj=>(k.oth j hj).trans (h.oth j hj)⟩
theorem Bel.less {m m':Nat} {a b:Store} (h:Bel m a b) (hm:m'≤m):Bel m' a b:=⟨Nat.le_trans hm h.le,fun j hj=>h.objs j (by omega),fun j hj=>h.tys j (by omega),fun j hj=>h.oth j (by omega)⟩
theorem MF.bel {id m:Nat} {l:List (Option Tp)} {a b:Store} (h:MF id l a b) (hi:m≤id) (hn:m≤a.next):Bel m a b :=
 ⟨by rw [h.next]; exact hn,fun j hj=>h.objs j (by omega),fun j _=>by rw [h.tys],fun j _=>by rw [h.oth]⟩
theorem rowOf_oC:∀ n,rowOf [.int .i64 0,.int .i64 0,.str [],.nils] n=oC (List.replicate n none)
 | 0=>rfl
 | n + 1=>by
  rw [List.replicate_succ]
  simp only [rowOf,oC,List.map_cons,cellsOf]
  rw [rowOf_oC n]
  rfl
theorem Match_run (ns:List (List UInt8)) (hns:ns.length < 100) (p t:Tp):Evly fun n=>∀ σ,∃ σ',Bel σ.next σ σ' ∧
  (((matchM ns p t (List.replicate ns.length none)).1=false∧T n n_211 [dSs ns,dT p,dT t] σ=some (.ret ⟨false,.tup [.nils,.bool false]⟩,σ')) ∨
   ((matchM ns p t (List.replicate ns.length none)).1=true∧T n n_211 [dSs ns,dT p,dT t] σ=some (.ret ⟨false,.tup [.arr k_1 σ.next 0 ns.length,.bool true]⟩,σ')∧aget σ'.objs σ.next=some (oC (matchM ns p t (List.replicate ns.length none)).2))):=by
 have hm0:=match_run ns (by omega) p t (List.replicate ns.length none) (by simp)
 refine hm0.step 0 fun m _ h σ=>?_
 have hnew:aget (newArr σ k_1 (oC (List.replicate ns.length none))).objs σ.next=some (oC (List.replicate ns.length none)):=by simp [newArr,aget,ifB]
 obtain ⟨σ',r1,m1⟩:=h (newArr σ k_1 (oC (List.replicate ns.length none))) σ.next hnew
 have hbel:Bel σ.next σ (newArr σ k_1 (oC (List.replicate ns.length none))):=⟨by simp [newArr],fun j hj=>by
   have:(σ.next == j)=false:=by simp; omega
   simp [newArr,aget,this,ifB],fun j hj=>by
   have:(σ.next == j)=false:=by simp; omega
   simp [newArr,aget,this,ifB],fun j hj=>rfl⟩
 refine ⟨σ',hbel.trans (m1.bel (Nat.le_refl _) (by simp [newArr])),?_⟩
 rw [List.length_replicate] at r1
 have hb1:ns.length * 56≤bound:=by unfold bound; omega
 have hb2:ns.length≤bound:=by unfold bound; omega
 have hlen:lenOf (dSs ns)=some ns.length:=by simp only [dSs,lenOf_dlist,List.length_map]
 have hrow:=rowOf_oC ns.length
 have hmk:memOp (.makeA k_1 56 [.int .i64 0,.int .i64 0,.str [],.nils] (.tmp 10) (.tmp 10)) {slots:=[(0,⟨false,dSs ns⟩),(9,⟨false,dSs ns⟩),(10,⟨false,.int .i64 ns.length⟩)],locs:=[(4,4,0),(5,5,0)],boxes:=[(4,bT p),(5,bT t)],defers:=[]} σ=some (.arr k_1 σ.next 0 ns.length,newArr σ k_1 (oC (List.replicate ns.length none))):=by
  simp only [memOp,opd,aget,caseO_some,natI,hb1,hb2,hrow,decide_true,bindO,Nat.reduceBEq,ifB_true,ifB_false,Bool.and_self,beq_self_eq_true]
 generalize newArr σ k_1 (oC (List.replicate ns.length none))=σ1 at *
 rw [dT_eq p,dT_eq t] at r1
 simp only [cT,bT] at r1 hmk
 rw [T_fun (af:=a_126) rfl rfl]
 cases hb:(matchM ns p t (List.replicate ns.length none)).1 with
 | false =>
  rw [hb] at r1
  refine .inl ⟨rfl,?_⟩
  simp only [a_126,sA,seval,kn,dT_eq p,dT_eq t,cT,hlen,memE,hmk,r1]
 | true =>
  rw [hb] at r1
  refine .inr ⟨rfl,?_,m1.obj⟩
  simp only [a_126,sA,seval,kn,dT_eq p,dT_eq t,cT,hlen,memE,hmk,r1]
end Go.Fu
namespace Go.Fu
open Go Go.Mx
set_option maxRecDepth 10000
set_option maxHeartbeats 4000000
theorem agA {α:Type} (k:Nat) (v:α) (l:List (Nat × α)):aget (aset l k v) k=some v:=by rw [aget_aset,if_pos rfl]
theorem agB {α:Type} {k j:Nat} (v:α) (l:List (Nat × α)) (h:k≠j):aget (aset l k v) j=aget l j:=by rw [aget_aset,if_neg h]
theorem agS {α:Type} (k:Nat) (v:α) (l:List (Nat × α)):aget ((k,v) :: l) k=some v:=by simp [aget,ifB]
theorem agC {α:Type} {k j:Nat} (v:α) (l:List (Nat × α)) (hj:k≠j):aget ((k,v) :: l) j=aget l j:=by
 have:(k == j)=false:=by simpa using hj
 simp [aget,ifB,this]
structure Wy where
 cls:List UInt8
 path:List Int
def dIs (l:List Int):D:=dlist k_int (l.map fun x=>.int .i64 x)
def dW (w:Wy):D:=.agg [.str w.cls,dIs w.path]
inductive QL:Cell→List Wy→Prop
 | nil:QL ⟨false,.nils⟩ []
 | row (ws:List Wy):QL ⟨true,.list k_13 (ws.map dW)⟩ ws
def QS (σ:Store) (q:Nat) (ws:List Wy):Prop:=∃ c,aget σ.objs q=some [c]∧QL c ws
structure Only (q:Nat) (σ σ':Store):Prop where
 objs:∀ j,j≠q→aget σ'.objs j=aget σ.objs j
 tys:σ'.tys=σ.tys
 oth:σ'.oth=σ.oth
 next:σ'.next=σ.next
theorem one_dIs (l:List Int):(dIs l).one=true:=by unfold dIs; cases l <;> rfl
theorem ok_dW (w:Wy):(dW w).ok=true:=by
 simp only [dW,D.ok,List.all_cons,one_dIs,List.all_nil,Bool.and_self]
 try rfl
theorem app_W (c:Cell) (ws:List Wy) (w:Wy) (h:QL c ws) (hl:ws.length < 1000):appendD k_13 40 c [dW w]=some ⟨true,.list k_13 ((ws ++ [w]).map dW)⟩:=by
 cases h with
 | nil =>
  have e:=append_one (r:=k_13) (by_:=40) (es:=[]) (o:=false) (y:=dW w) (fun h=>absurd rfl h) (ok_dW w) rfl (by simp [bound]) (by simp [bound])
  exact e
 | row =>
  have e:=append_more (r:=k_13) (by_:=40) (es:=ws.map dW) (ys:=[dW w]) (o:=true) (fun _=>rfl) (by
   intro d hd
   rw [List.mem_singleton.1 hd]
   exact ⟨ok_dW w,rfl⟩) (by simp [bound]; omega) (by simp [bound]; omega)
  cases ws with
  | nil =>
   have e1:allSize k_13.sz [dW w]=true:=by simp only [allSize,ok_dW,Bool.true_and]; rfl
   simp only [appendD,asList,bindO,caseO_some,mayAppend,joined,List.map_nil,List.nil_append,List.length_nil,List.length_cons,e1]
   rfl
  | cons x r =>
   simp only [List.map_cons,dlist,List.cons_append,List.map_append,List.map_nil] at e ⊢
   exact e
theorem qput_run:Evly fun n=>∀ σ q ws w,QS σ q ws→ws.length < 1000→∃ σ',T n n_65 [.ptr q 0,dW w] σ=some (.ret ⟨false,.tup []⟩,σ')∧QS σ' q (ws ++ [w])∧Only q σ σ':=any _ fun n σ q ws w hq hl=>by
 obtain ⟨c,ho,hc⟩:=hq
 have ha:=app_W c ws w hc hl
 refine ⟨{σ with objs:=aset (aset σ.objs q [⟨false,c.d⟩]) q [⟨true,.list k_13 ((ws ++ [w]).map dW)⟩]},?_,⟨_,agA _ _ _,.row _⟩,fun j hj=>?_,rfl,rfl,rfl⟩
 ·generalize (ws ++ [w]).map dW=L at *
  rw [T_fun (af:=a_149) rfl rfl]
  obtain ⟨o,d⟩:=c
  simp only [dW] at ha
  have e1:(dIs w.path).one=true:=one_dIs _
  simp only [a_149,sA,seval,kn,dW,takeO,one_dIs,ho,ha,agA]
 ·show aget (aset (aset σ.objs q _) q _) j=_
  rw [agB _ _ (Ne.symm hj),agB _ _ (Ne.symm hj)]
theorem qnext_none:Evly fun n=>∀ σ q,QS σ q []→T n n_64 [.ptr q 0] σ=some (.ret ⟨false,.tup [.agg [.str [],.nils],.bool false]⟩,σ):=any _ fun n σ q hq=>by
 obtain ⟨c,ho,hc⟩:=hq
 rw [T_fun (af:=a_58) rfl rfl]
 generalize hws:([]:List Wy)=ws at hc
 cases hc with
 | nil=>simp only [a_58,sA,seval,kn,ho,lenOf,zeroI]
 | row =>
  subst hws
  simp only [a_58,sA,seval,kn,ho,lenOf,zeroI]
theorem qnext_some:Evly fun n=>∀ σ q w ws,QS σ q (w :: ws)→∃ σ',T n n_64 [.ptr q 0] σ=some (.ret ⟨false,.tup [dW w,.bool true]⟩,σ')∧QS σ' q ws∧Only q σ σ':=any _ fun n σ q w ws hq=>by
 obtain ⟨c,ho,hc⟩:=hq
 generalize hws:w :: ws=l at hc
 cases hc with
 | nil=>cases hws
 | row =>
  subst hws
  refine ⟨{σ with objs:=aset (aset σ.objs q [⟨false,.list k_13 ((w :: ws).map dW)⟩]) q [⟨true,.list k_13 (ws.map dW)⟩]},?_,⟨_,agA _ _ _,.row _⟩,fun j hj=>?_,rfl,rfl,rfl⟩
  ·rw [T_fun (af:=a_58) rfl rfl]
   have hl:(((w :: ws).map dW).length:Int)≠0:=by simp; omega
   have e0:((((w :: ws).map dW).length:Int) == 0)=false:=by simpa using hl
   have hx:indexD 2 (.list k_13 ((w :: ws).map dW)) 0=some (.eptr (dW w)):=rfl
   have hs:sliceD 2 (.list k_13 ((w :: ws).map dW)) 1 none=some (.list k_13 (ws.map dW)):=by
    have h2:(ws.map dW).take ws.length=ws.map dW:=List.take_of_length_le (by simp)
    have h3:(k_13.sz == 2)=true:=rfl
    simp only [sliceD,Option.getD_none,List.map_cons,List.length_cons,List.length_map,h3,List.drop_succ_cons,List.drop_zero,Nat.add_sub_cancel,h2,Nat.le_refl,decide_true,Bool.and_true]
    simp [ifB]
   have hnb:noByte (.list k_13 ((w :: ws).map dW))=true:=rfl
   generalize (w :: ws).map dW=L at *
   generalize ws.map dW=L' at *
   simp only [dW] at hx
   simp only [a_58,sA,seval,kn,dW,takeO,one_dIs,ho,lenOf,e0,hx,hs,hnb,agA]
  ·show aget (aset (aset σ.objs q _) q _) j=_
   rw [agB _ _ (Ne.symm hj),agB _ _ (Ne.symm hj)]
theorem cloneI_run:Evly fun n=>∀ (l:List Int) σ,l.length < 1000→∃ o,(l≠[]→o=true)∧T n n_69 [dIs l] σ=some (.ret ⟨o,dIs l⟩,σ):=any _ fun n l σ hl=>by
 rw [T_fun (af:=a_123) rfl rfl]
 cases l with
 | nil=>exact ⟨false,fun h=>absurd rfl h,by simp only [a_123,sA,seval,kn,dIs,List.map_nil,dlist,D.isNilS?]⟩
 | cons x r =>
  refine ⟨true,fun _=>rfl,?_⟩
  have ha:appendD k_int 8 ⟨true,.list k_int []⟩ (((x :: r).map fun x=>D.int .i64 x))=some ⟨true,dIs (x :: r)⟩:=by
   have hs:allSize k_int.sz ((x :: r).map fun x=>D.int .i64 x)=true:=by
    generalize x :: r=L
    induction L with
    | nil=>rfl
    | cons y L ih =>
     simp only [List.map_cons,allSize,ih,Bool.and_true]
     rfl
   have hm:mayAppend k_int ⟨true,.list k_int []⟩=true:=rfl
   have hb1:(0 + ((x :: r).map fun x=>D.int .i64 x).length) * 8≤bound:=by simp [bound]; simp at hl; omega
   have hb2:0 + ((x :: r).map fun x=>D.int .i64 x).length≤bound:=by simp [bound]; simp at hl; omega
   simp only [appendD,asList,bindO,caseO_some,hm,hs,List.length_nil,hb1,hb2,decide_true,Bool.and_self,ifB_true,joined,List.nil_append]
   rfl
  have hi:(dIs (x :: r)).isNilS?=some false:=rfl
  have hal:asList (dIs (x :: r))=some ((x :: r).map fun x=>D.int .i64 x):=rfl
  generalize ((x :: r).map fun x=>D.int .i64 x)=L at *
  generalize dIs (x :: r)=d at *
  simp only [a_123,sA,seval,kn,hi,hal,ha]
theorem app_I (l:List Int) (x:Int) (o:Bool) (ho:l≠[]→o=true) (hl:l.length < 1000):appendD k_int 8 ⟨o,dIs l⟩ [.int .i64 x]=some ⟨true,dIs (l ++ [x])⟩:=by
 have e:=append_one (r:=k_int) (by_:=8) (es:=l.map fun x=>D.int .i64 x) (o:=o) (y:=.int .i64 x) (fun h=>ho (by simpa using h)) rfl rfl (by simp [bound]; omega) (by simp [bound]; omega)
 simpa [dIs] using e
end Go.Fu
