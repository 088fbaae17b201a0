/-
 Ranges over functions: the loop's record,laid,turned,left.
-/
import Derived.RangeFuncRecord
import Derived.Test.YtieacpoabejcoaaGreatDoorMyFrz
import Derived.Maps.RangeRun
set_option linter.unusedSimpArgs false
set_option linter.unusedVariables false
set_option linter.unusedSectionVars false
namespace Go.Mx
open Go
section
variable [LoopKit] {P:Program} {ι:Imm} {j:Lay} {own:Own} {lb:Lay} {N:Nat} {e:Env} {a:Go.Act} {w:World} {σ:Store}
theorem zsw (hG:GSim ι j own σ w) {x:Oth} {ob:Obj} (hx:∀ j':Lay,(∀ i b,j i=some b→j' i=some b)→zei ι j' (w.alloc ob) w.heap.size x) :
  ∃ j' own',GSim ι j' own' {σ with oth:=(σ.next,x) :: σ.oth,next:=σ.next + 1} (w.alloc ob)∧Evo ι j own w ι j' own' (w.alloc ob) (fun _=>False)∧j' σ.next=some w.heap.size:=by
 classical
 let j':Lay:=fun i=>if i=σ.next then some w.heap.size else j i
 have hjn:∀ i b,j i=some b→i≠σ.next:=fun i b h e=>by have:=hG.jlt i b h; omega
 have hE0:=zen hG ob (.obj σ.next)
 have hE:Evo ι j own w ι j' (fun b=>if b=w.heap.size then some (.obj σ.next) else own b) (w.alloc ob) (fun _=>False) :=
  ⟨hE0.os,hE0.tape,hE0.output,hE0.size,hE0.imm,fun i b h=>by simp only [j',if_neg (hjn i b h)]; exact h,hE0.block⟩
 have hG0:=zf3 hG ob (.obj σ.next)
 refine ⟨j',_,?_,hE,if_pos rfl⟩
 refine ⟨hG0.holds,hG0.noimm,fun id cs h=>?_,fun id t cs h1 h2 b hb=>?_,fun id x' h=>?_,fun id b h=>?_,hG0.ownlt⟩
 ·obtain ⟨B,q1,q2,q3⟩:=hG.objs id cs h
  have hlt:=hG.ownlt B _ q2
  exact ⟨B,hE.lay _ _ q1,by rw [if_neg (by omega)]; exact q2,hE.boxRel q2 (fun h=>h) (fun _ _ _ _ h=>h) q3⟩
 ·obtain ⟨B,q1,q2,q3⟩:=hG.objs id cs h2
  have hb':=hE.lay _ _ q1
  rw [hb] at hb'
  cases hb'
  have hlt:=hG.ownlt b _ q2
  exact (hG.tys id t cs h1 h2 b q1).keep (heap_alloc_old w _ hlt) hE.lay
 ·simp only [zat] at h
  by_cases hid:σ.next=id
  ·rw [if_pos hid] at h
   cases h
   subst hid
   exact ⟨w.heap.size,if_pos rfl,if_pos rfl,hx _ hE.lay⟩
  ·rw [if_neg hid] at h
   obtain ⟨B,q1,q2,q3⟩:=hG.oth id x' h
   have hlt:=hG.ownlt B _ q2
   exact ⟨B,hE.lay _ _ q1,by rw [if_neg (by omega)]; exact q2,q3.keep (heap_alloc_old w _ hlt) hE.imm hE.lay⟩
 ·by_cases hid:id=σ.next
  ·simp only; omega
  ·simp only [j',if_neg hid] at h
   have:=hG.jlt id b h
   simp only; omega
theorem LSim.evoF {ι':Imm} {j':Lay} {own':Own} {w':World} (h:Evo ι j own w ι' j' own' w' (fun _=>False)) (hL:LSim ι j own lb N e a w):LSim ι' j' own' lb N e a w' :=
 hL.evo h (fun _ _ _ _ h=>h) (fun _ _ _=>⟨fun h=>h,fun _ _ _ _ h=>h⟩)
theorem LSim.evoO {ι':Imm} {j':Lay} {own':Own} {w':World} {id:Nat} (h:Evo ι j own w ι' j' own' w' (fun t=>t=.obj id)) (hL:LSim ι j own lb N e a w):LSim ι' j' own' lb N e a w' :=
 hL.evo h (fun _ _ _ _ h=>by cases h) (fun _ _ _=>⟨(fun h=>by cases h),(fun _ _ _ _ h=>by cases h)⟩)
theorem zts:∀ (l:List (Nat × Cell)) (s:Nat) (c:Cell),aget (snap l) s=some c→c.own=false∧∃ c0,aget l s=some c0∧c0.d=c.d
 | [],s,c,h=>by simp [snap,zbu] at h
 | (k,c1) :: r,s,c,h=>by
  simp only [snap,zat] at h
  rw [zat]
  by_cases hk:k=s
  ·rw [if_pos hk] at h ⊢
   cases h
   exact ⟨rfl,c1,rfl,rfl⟩
  ·rw [if_neg hk] at h ⊢
   exact zts r s c h
theorem zj4 {l:Nat} {r:LRec} (h:zhv σ l=some r):aget σ.oth l=some (.loop r):=by
 unfold zhv at h
 obtain ⟨x,h1,h⟩:=zaa h
 cases x <;> simp only [reduceCtorEq,Option.some.injEq] at h
 rw [h1,h]
theorem zqi {l₀:Nat} {r₀:Loop} (h:w.heap[l₀]?=some (.loop r₀)) (fn:FuncId) (tmps:Array Value) (ps:Array Tmp) (assign body:Code) :
  (Instr.enterLoop fn tmps ps assign body (some l₀)).run P w =
   .ok (w.heap.size,[]) (w.alloc (.loop {state:=.ready,pending:=none,fn,tmps,params:=ps,assign,body,defers:=r₀.defers})):=by
 unfold Instr.enterLoop
 simp only [Sem.run_bind,run_getLoop h,run_newObj_alloc,Result.andThen,Sem.run_pure]
def RoAt (j:Lay) (ro r:Option Nat):Prop:=match ro with
 | none=>r=none
 | some id=>∃ b,r=some b∧j id=some b
theorem RoAt.mono {j':Lay} {ro r:Option Nat} (h:RoAt j ro r) (hj:∀ i b,j i=some b→j' i=some b):RoAt j' ro r:=by
 cases ro with
 | none=>exact h
 | some id=>obtain ⟨b,h1,h2⟩:=h; exact ⟨b,h1,hj _ _ h2⟩
theorem zzf (hG:GSim ι j own σ w) (hL:LSim ι j own lb N e a w) {ro r:Option Nat} (hro:RoAt j ro r) {ps:Array Tmp} {assign body:Code} {ps':List Nat} {assign' body':ACode}
  (hps:ps=⟨ps'⟩) (hpN:∀ p∈ps',p < N) (h1:LoopKit.ok N assign assign') (h2:LoopKit.ok N body body') {lid:Nat} {e':Env} {σ':Store} (h:enterLoop ro ⟨snap e.slots,ps',assign',body',.ready⟩ e σ=some (lid,e',σ')) (fn:FuncId) :
  ∃ (l:Nat) (mark:List Deferred) (w':World) (j':Lay) (own':Own),(Instr.enterLoop fn a.tmps ps assign body r).run P w=.ok (l,mark) w'∧GSim ι j' own' σ' w'∧LSim ι j' own' lb N e' {a with defers:=mark ++ a.defers} w' ∧
   Evo ι j own w ι j' own' w' (fun _=>False)∧j' lid=some l:=by
 have hrec:∀ (df:Nat) (j0 j':Lay) (W:World),(∀ i b,j i=some b→j0 i=some b)→(∀ i b,j0 i=some b→j' i=some b)→zei ι j' (W.alloc (.loop {state:=.ready,pending:=none,fn,tmps:=a.tmps,params:=ps,assign,body,defers:=df})) W.heap.size (.loop ⟨snap e.slots,ps',assign',body',.ready⟩):=by
  intro df j0 j' W hj hj'
  refine ⟨_,heap_alloc_new W _,hps,(by rw [hL.size]; exact hpN),fun s c hs=>?_,by rw [hL.size]; exact h1,by rw [hL.size]; exact h2,rfl,rfl⟩
  obtain ⟨k1,c0,k2,k3⟩:=zts _ _ _ hs
  refine ⟨k1,?_⟩
  rw [← k3]
  exact Rep.mono (fun _ _ _ h=>h) (fun i b h=>hj' _ _ (hj _ _ h)) _ _ (hL.slots s c0 k2).1
 cases ro with
 | none =>
  simp only [RoAt] at hro
  subst hro
  simp only [enterLoop,Option.some.injEq,Prod.mk.injEq] at h
  obtain ⟨rfl,rfl,rfl⟩:=h
  obtain ⟨j1,own1,g1,g2,g3⟩:=zsw hG (x:=.dfr) (ob:=.deferred (some [])) (fun j' _=>heap_alloc_new w _)
  obtain ⟨j2,own2,k1,k2,k3⟩:=zsw g1 (x:=.loop ⟨snap e.slots,ps',assign',body',.ready⟩) (ob:=.loop {state:=.ready,pending:=none,fn,tmps:=a.tmps,params:=ps,assign,body,defers:=w.heap.size}) (fun j' hj'=>hrec _ j1 j' _ g2.lay hj')
  refine ⟨_,_,_,j2,own2,run_enterLoop_outer _ _ _ _ _,k1,?_,g2.trans k2,?_⟩
  ·have hL2:=(hL.evoF g2).evoF k2
   refine {size:=hL2.size,slots:=hL2.slots,locs:=hL2.locs,boxes:=hL2.boxes,defers:=?_}
   simp only [List.cons_append,List.nil_append]
   refine ⟨_,_,rfl,hL2.defers,?_⟩
   rw [if_pos (zbtb _),Nat.add_sub_cancel_left]
   exact ⟨_,k2.lay _ _ g3,rfl⟩
  ·simpa using k3
 | some id =>
  obtain ⟨b,rfl,hb⟩:=hro
  simp only [enterLoop] at h
  obtain ⟨r0,h0,h⟩:=zaa h
  cases h
  obtain ⟨b',q1,_,L,q3,_⟩:=hG.oth id _ (zj4 h0)
  rw [hb] at q1
  cases q1
  obtain ⟨j2,own2,k1,k2,k3⟩:=zsw hG (x:=.loop ⟨snap e.slots,ps',assign',body',.ready⟩) (ob:=.loop {state:=.ready,pending:=none,fn,tmps:=a.tmps,params:=ps,assign,body,defers:=L.defers}) (fun j' hj'=>hrec _ j j' _ (fun _ _ h=>h) hj')
  exact ⟨_,_,_,j2,own2,zqi q3 _ _ _ _ _,k1,hL.evoF k2,k2,k3⟩
theorem zij (hG:GSim ι j own σ w) {l b:Nat} {r:LRec} (hl:zhv σ l=some r) (hb:j l=some b) {st:LSt} {s:LoopState} {p:Option Code} (hst:stRel st s p) :
  ∃ L:Loop,w.heap[b]?=some (.loop L)∧stRel r.st L.state L.pending∧GSim ι j own (zgm σ l r st) (w.putObj b (.loop {L with state:=s,pending:=p}))∧Evo ι j own w ι j own (w.putObj b (.loop {L with state:=s,pending:=p})) (fun t=>t=.obj l):=by
 obtain ⟨b',q1,q2,q3⟩:=hG.oth l _ (zj4 hl)
 rw [hb] at q1
 cases q1
 obtain ⟨L,k1,k2,k2b,k3,k4,k5,k6⟩:=q3
 obtain ⟨g1,g2⟩:=zro hG (y:=.loop {r with st:=st}) (ob:=.loop {L with state:=s,pending:=p}) (zj4 hl) hb q2 (fun w' hw'=>⟨_,hw',k2,k2b,k3,k4,k5,hst⟩) rfl
 exact ⟨L,k1,k6,g1,g2⟩
theorem zmpb (hG:GSim ι j own σ w) {id B:Nat} {x:Oth} {ob:Obj} (hB:j id=some B) (hown:own B=some (.obj id)) (hid:aget σ.oth id=some x) :
  GSim ι j own {σ with oth:=adel1 σ.oth id} (w.putObj B ob)∧Evo ι j own w ι j own (w.putObj B ob) (fun t=>t=.obj id):=by
 obtain ⟨B',hB',_,hrel⟩:=hG.oth id x hid
 rw [hB] at hB'
 cases hB'
 have hBlt:=hrel.lt
 have hoth:∀ b,b≠B→(w.putObj B ob).heap[b]?=w.heap[b]?:=fun b hb=>World.putObj_heap_other hb
 have hE:Evo ι j own w ι j own (w.putObj B ob) (fun t=>t=.obj id) :=
  ⟨rfl,rfl,rfl,by simp,fun _ _ _ h=>h,fun _ _ h=>h,fun b _ hb=>⟨hoth b (fun e=>hb _ (e ▸ hown) rfl),rfl,fun _=>rfl⟩⟩
 refine ⟨?_,hE⟩
 refine ⟨fun b o' v h=>?_,hG.noimm,fun id' cs h=>?_,fun id' t cs h1 h2 b hb=>?_,fun id' x' h=>?_,hG.jlt,fun b t h=>Nat.lt_of_lt_of_le (hG.ownlt b t h) hE.size⟩
 ·have hne:b≠B:=fun e=>by
   rw [e,hG.noimm B _ hown rfl o'] at h
   cases h
  rw [World.cell?_of_block (w:=w) (w':=w.putObj B ob) (a:=⟨b,o',none⟩) (hoth b hne)]
  exact hG.holds b o' v h
 ·obtain ⟨B2,q1,q2,q3⟩:=hG.objs id' cs h
  have hne:B2≠B:=fun e=>by
   obtain ⟨vs,T,h1,_⟩:=q3
   rw [e] at h1
   exact hrel.notCells h1
  have hid':id'≠id:=fun e=>by
   subst e
   rw [hB] at q1
   cases q1
   exact hne rfl
  exact ⟨B2,q1,q2,hE.boxRel q2 (fun h=>by cases h; exact hid' rfl) (fun _ _ _ _ h=>by cases h) q3⟩
 ·have hty:=hG.tys id' t cs h1 h2 b hb
  obtain ⟨row,hrow,_⟩:=hty
  have hne:b≠B:=fun e=>by
   rw [e] at hrow
   exact hrel.notCells hrow
  exact (hG.tys id' t cs h1 h2 b hb).keep (hoth b hne) (fun _ _ h=>h)
 ·simp only [zam] at h
  by_cases hi:id=id'
  ·rw [if_pos hi] at h; cases h
  ·rw [if_neg hi] at h
   obtain ⟨B2,q1,q2,q3⟩:=hG.oth id' x' h
   have hne:B2≠B:=fun e=>by
    subst e
    rw [hown] at q2
    cases q2
    exact hi rfl
   exact ⟨B2,q1,q2,q3.keep (hoth B2 hne) (fun _ _ _ h=>h) (fun _ _ h=>h)⟩
end
end Go.Mx
namespace Go.Mx
open Go
def zrg (P:Program) (N:Nat) (ops:Array Oper) (it nx more:Nat):Bool:=match ops.toList with
 | [o1,o2]=>(match o1.op with | .next x false=>okOpd x (.tmp it) | _=>false) && o1.dst == some nx && o1.guard.isNone && okOps P N ops [o2] [⟨some more,.extract (.tmp nx) 0,none⟩] && zk1 N ops
 | _=>false
theorem zlmb {a b:AExit} (h:sameX a b=true):a=b:=by
 cases a <;> cases b <;> simp only [sameX,Bool.false_eq_true,beq_iff_eq] at h <;> first | rfl | rw [h] | rw [D.same_eq h]
theorem zet {α:Type} {f:α→α→Bool} (hf:∀ {a b},f a b=true→a=b):∀ {l r:List (Nat × α)},ze5 f l r=true→l=r
 | [],[],_=>rfl
 | [],_ :: _,h=>by simp [ze5] at h
 | _ :: _,[],h=>by simp [ze5] at h
 | (i,a) :: l,(k,b) :: r,h=>by
  simp only [ze5,Bool.and_eq_true,beq_iff_eq] at h
  rw [h.1.1,hf h.1.2,zet hf h.2]
theorem zabb {a b:Cell} (h:zqj a b=true):a=b:=by
 cases a
 cases b
 simp only [zqj,Bool.and_eq_true,beq_iff_eq] at h
 rw [h.1,D.same_eq h.2]
theorem zhyb {a b:Oth} (h:zxw a b=true):a=b:=by
 cases a <;> cases b <;> simp only [zxw,Bool.false_eq_true,Bool.and_eq_true,beq_iff_eq] at h
 ·rw [h.1,h.2]
 ·rw [zof h.1,h.2]
 ·rfl
 ·obtain ⟨⟨⟨rfl,rfl⟩,rfl⟩,rfl⟩:=h
  rfl
theorem zeeb {r:Option (AExit × Env × Store)} {a:AExit × Env × Store} (h:zld r a=true):r=some a:=by
 cases r with
 | none=>cases h
 | some r =>
  obtain ⟨x,⟨e1,e2,e3,e4⟩,⟨s1,s2,s3,s4⟩⟩:=r
  obtain ⟨x',⟨f1,f2,f3,f4⟩,⟨t1,t2,t3,t4⟩⟩:=a
  simp only [zld,Bool.and_eq_true,beq_iff_eq] at h
  obtain ⟨⟨⟨⟨⟨⟨⟨⟨h1,h2⟩,h3⟩,h4⟩,h5⟩,h6⟩,h7⟩,h8⟩,rfl⟩:=h
  rw [zlmb h1,zet zabb h2,zet (fun h=>?_) h3,zet zj8 h4,zet zga h5,zet zj8 h6,zet (fun h=>?_) h7,zet zhyb h8]
  ·rename_i a b
   obtain ⟨a1,a2⟩:=a
   obtain ⟨b1,b2⟩:=b
   simp only [Bool.and_eq_true,beq_iff_eq] at h
   rw [h.1,h.2]
  ·rename_i a b
   obtain ⟨a1,a2⟩:=a
   obtain ⟨b1,b2⟩:=b
   simp only [Bool.and_eq_true,beq_iff_eq] at h
   rw [h.1,h.2]
theorem zllb {r:Option (AExit × Env × Store)} {a:AExit × Env × Store} (h:sameR r a=true):r=some a:=by
 unfold sameR at h
 cases hs:zld r a with
 | true=>exact zeeb hs
 | false =>
  rw [hs,zad] at h
  exact @of_decide_eq_true _ (Classical.propDecidable _) h
theorem zedb (a:AExit × Env × Store):sameR (some a) a=true:=by
 unfold sameR
 cases zld (some a) a with
 | true=>rfl
 | false=>rw [zad]; exact @decide_eq_true _ (Classical.propDecidable _) rfl
theorem zbcb {f:D × D × Nat→Option (AExit × Env × Store)} {a:AExit × Env × Store}:∀ {l:List (D × D × Nat)},allR f a l=true→∀ x∈l,f x=some a
 | [],_,_,h=>by cases h
 | y :: l,h,x,hx=>by
  simp only [allR,Bool.and_eq_true] at h
  rcases List.mem_cons.1 hx with rfl | hx
  ·exact zllb h.1
  ·exact zbcb h.2 x hx
theorem zbdb {f:D × D × Nat→Option (AExit × Env × Store)} {a:AExit × Env × Store}:∀ {l:List (D × D × Nat)},(∀ x∈l,f x=some a)→allR f a l=true
 | [],_=>rfl
 | y :: l,h=>by
  simp only [allR,Bool.and_eq_true]
  refine ⟨?_,zbdb fun x hx=>h x (by simp [hx])⟩
  rw [h y (by simp)]
  exact zedb a
theorem mem_iff:∀ (l:List Nat) (k:Nat),mem l k=true↔k∈l
 | [],k=>by simp [mem]
 | x :: l,k=>by
  simp only [mem]
  cases h:x == k with
  | true =>
   have:=eq_of_beq h
   simp [zac,this]
  | false =>
   have:x≠k:=by simpa using h
   simp only [zad,mem_iff l k,List.mem_cons]
   constructor
   ·exact .inr
   ·rintro (h | h)
    ·exact absurd h.symm this
    ·exact h
section
variable {ι:Imm} {j:Lay}
theorem zt2 (seen:List Nat):∀ {es:List (D × D × Nat)} {l:List MapEntry},zao ι j es l→zao ι j (leftM seen es) (l.filter fun e=>!mem seen e.born)
 | [],l,h=>by
  simp only [zao] at h
  subst h
  simp only [leftM,zao,List.filter_nil]
 | (k,v,b) :: r,l,h=>by
  simp only [zao] at h
  obtain ⟨ent,l',rfl,r1,r2,r3,r4⟩:=h
  have ih:=zt2 seen r4
  simp only [leftM]
  cases hm:mem seen b with
  | true =>
   rw [zac,List.filter_cons_of_neg (by rw [r3,hm]; simp)]
   exact ih
  | false =>
   rw [zad,List.filter_cons_of_pos (by rw [r3,hm]; simp)]
   simp only [zao]
   exact ⟨ent,_,rfl,r1,r2,r3,ih⟩
theorem zao.mem:∀ {es:List (D × D × Nat)} {l:List MapEntry},zao ι j es l→∀ {ent:MapEntry},ent∈l→∃ x∈es,Rep ι j x.1 ent.key∧Rep ι j x.2.1 ent.val∧ent.born=x.2.2
 | [],l,h,ent,hm=>by
  simp only [zao] at h
  subst h
  cases hm
 | (k,v,b) :: r,l,h,ent,hm=>by
  simp only [zao] at h
  obtain ⟨e2,l',rfl,r1,r2,r3,r4⟩:=h
  rcases List.mem_cons.1 hm with rfl | hm
  ·exact ⟨(k,v,b),by simp,r1,r2,r3⟩
  ·obtain ⟨x,hx,q⟩:=zao.mem r4 hm
   exact ⟨x,by simp [hx],q⟩
theorem zxl {since:Nat}:∀ {es:List (D × D × Nat)} {l:List MapEntry},zao ι j es l→oldM since es=true→∀ x∈l,x.born < since
 | [],l,h,_,x,hx=>by
  simp only [zao] at h
  subst h
  cases hx
 | (k,v,b) :: r,l,h,ho,x,hx=>by
  simp only [zao] at h
  obtain ⟨e2,l',rfl,r1,r2,r3,r4⟩:=h
  simp only [oldM,Bool.and_eq_true,Nat.ble_eq] at ho
  rcases List.mem_cons.1 hx with rfl | hx
  ·rw [r3]
   omega
  ·exact zxl r4 ho.2 x hx
end
section
variable [LoopKit] {P:Program} {N:Nat} {e:Env} {a:Go.Act} {w:World} {σ:Store} {ι0:Imm} {j0:Lay} {own0:Own} {w0:World} {κ:Ctx}
theorem GSim.dropped {ι:Imm} {j:Lay} {own:Own} (hG:GSim ι j own σ w) (id:Nat):GSim ι j own {σ with objs:=adel1 σ.objs id,oth:=adel1 σ.oth id} w :=
 hG.sub (fun i cs h=>by
  simp only [zam] at h
  by_cases hid:id=i
  ·rw [if_pos hid] at h; cases h
  ·rw [if_neg hid] at h
   exact ⟨cs,h,zbk.refl cs⟩) (Nat.le_refl _) (fun _ _ h=>h) (fun i x h=>by
  simp only [zam] at h
  by_cases hid:id=i
  ·rw [if_pos hid] at h; cases h
  ·rw [if_neg hid] at h
   exact h)
theorem zke {ι:Imm} {j:Lay} {own:Own}:∀ (l:List Nat) {σ:Store},GSim ι j own σ w→GSim ι j own (zg4 l σ) w
 | [],_,h=>h
 | s :: r,σ,h=>by
  simp only [zg4]
  exact zke r (h.dropped _)
theorem St.fin (h:St ι0 j0 own0 w0 N e σ a w) (drop clr:List Nat):St ι0 j0 own0 w0 N (clearEnv e clr) (zg4 drop σ) a w:=by
 obtain ⟨ι,j,own,lb,h1,h2,h3⟩:=h
 exact ⟨ι,j,own,lb,zke drop h1,h2.sub (fun s c h=>⟨c,zbf _ _ _ _ h,rfl,fun h=>h⟩) (fun s p h=>zbf _ _ _ _ h) (fun s cs h=>⟨cs,zbf _ _ _ _ h,zbk.refl cs⟩) rfl,h3⟩
theorem StP.fin {d:D} {chain:List PanicEntry} (h:StP ι0 j0 own0 w0 N d chain e σ a w) (drop clr:List Nat):StP ι0 j0 own0 w0 N d chain (clearEnv e clr) (zg4 drop σ) a w:=by
 obtain ⟨ι,j,own,lb,h1,h2,h3⟩:=h
 exact ⟨ι,j,own,lb,zke drop h1,h2.sub (fun s c h=>⟨c,zbf _ _ _ _ h,rfl,fun h=>h⟩) (fun s p h=>zbf _ _ _ _ h) (fun s cs h=>⟨cs,zbf _ _ _ _ h,zbk.refl cs⟩) rfl,h3⟩
theorem zetb {r:Option Nat} {C:CallF} (hC:zcm P κ C) (hB:Base κ own0 w0) {ops:Array Oper} {it nx more:Nat} (hk:zrg P N ops it nx more=true) (hdf:r=none∨∀ o∈ops.toList,∀ c,o.op≠.defer c) {rid:Nat} (hSt:St ι0 j0 own0 w0 N e σ a w) {p:Ptr} {q:MIt}
  (hp:addr e (.tmp it)=some p) (hq:mitOf σ.oth p=some q) (ho:oldM q.since q.es=true) (hs:q.since≤q.stepped) {Q:Exit→Go.Act→World→Prop}
  (h0:leftM q.seen q.es=[]→∀ a w,St ι0 j0 own0 w0 N (setM1 e nx more [.bool false] false) σ a w→Q .normal a w)
  (h1:∀ x∈leftM q.seen q.es,∀ a w,St ι0 j0 own0 w0 N (setM1 e nx more [.bool true,x.1,x.2.1] true) (stepM q x.2.2 σ) a w→Q .normal a w) :
  (Code.region rid ops false).wpIn (FW r) 0 P Q a w:=by
 unfold zrg at hk
 split at hk
 ·rename_i o1 o2 hops
  simp only [Bool.and_eq_true,beq_iff_eq,Option.isNone_iff_eq_none] at hk
  obtain ⟨⟨⟨⟨hk1,hd1⟩,hg1⟩,hk2⟩,hd⟩:=hk
  split at hk1
  ·rename_i x hox
   have hN1:nx < N:=zkk hd 0 o1 nx (by rw [← Array.getElem?_toList,hops]; rfl) hd1
   refine wpIn_region_list ?_
   rw [hops]
   have hdl:r=none∨∀ o∈[o2],∀ c,o.op≠.defer c:=hdf.imp id fun h o ho=>h o (by rw [hops]; exact List.mem_cons_of_mem _ ho)
   have hd1':r=none∨∀ c,o1.op≠.defer c:=.inr (fun c h=>by rw [hox] at h; cases h)
   have hw:Region.wanted o1 (yielded ops a.tmps)=true:=by simp [Region.wanted,hg1]
   simp only [wpListIn]
   rw [hw,if_pos rfl]
   -- the second operation
   have second:∀ {t:List D} {b:Bool} {σ1:Store} {a1:Go.Act} {w1:World},nth t 0=some (.bool b)→St ι0 j0 own0 w0 N (e.put (some nx) ⟨false,.tup t⟩) σ1 a1 w1→(∀ a w,St ι0 j0 own0 w0 N (setM1 e nx more t b) σ1 a w→Q .normal a w)→wpListIn (FW r) 0 P ops Q [o2] a1 w1:=by
    intro t b σ1 a1 w1 ht hS hQ
    refine zgy hC hB hd [o2] _ hk2 hdl (e:=e.put (some nx) ⟨false,.tup t⟩) (σ:=σ1) (out:=.normal (setM1 e nx more t b) σ1) ?_ hS ?_
    ·simp [runOps,stepOp,zb4,AOp.kind,zag,evalV,opd,Env.put,zak,D.tup?,ht,Env.putV,zbd,zbi,stOK,stableOf,setM1,bindO,caseO,ifB]
    ·exact hQ
   obtain ⟨rfl,q1,q2⟩:=zw3 hq
   obtain ⟨ι,j,own,lb,hG,hL,hE⟩:=id hSt
   obtain ⟨B,hB1,hx⟩:=zca hL hk1 hp
   obtain ⟨B',hB',hown,bm,hbm,hit⟩:=hG.oth q.id _ q1
   rw [hB1] at hB'
   cases hB'
   obtain ⟨bm',hbm',_,l,hl,hent⟩:=hG.oth q.m _ q2
   rw [hbm] at hbm'
   cases hbm'
   have hleft:=zt2 q.seen hent
   have hfil:(leftOf ⟨l⟩ ⟨q.seen.reverse⟩).toList=l.filter fun e=>!mem q.seen e.born:=by
    unfold leftOf
    rw [Array.toList_filter]
    congr 1
    funext z
    congr 1
    rw [Bool.eq_iff_iff,mem_iff]
    simp
   unfold Oper.wpIn
   rw [zhh hd1']
   have hrn:=run_next_at (P:=P) w o1.type B bm q.since q.stepped ⟨q.seen.reverse⟩ ⟨l⟩ q.clock hit hl (fun x hx=>zxl hent ho x (by simpa using hx)) hs
   rcases hrn with ⟨hz,hrun⟩ | ⟨ent,hm,w1,hal,hrun⟩
   ·have hnil:leftM q.seen q.es=[]:=by
     cases hlm:leftM q.seen q.es with
     | nil=>rfl
     | cons x rest =>
      rw [hlm] at hleft
      obtain ⟨k,v,b⟩:=x
      simp only [zao] at hleft
      obtain ⟨e2,l',hl2,_⟩:=hleft
      rw [← hfil] at hl2
      have:(leftOf ⟨l⟩ ⟨q.seen.reverse⟩).toList.length=0:=by rw [Array.length_toList]; exact hz
      rw [hl2] at this
      simp at this
    have hex:(execOp a.eval o1).run P w=.ok (.value (.tuple #[.bool false])) w:=by
     simp only [execOp,hox,hx,Sem.run_bind,hrun,Result.andThen_ok,Sem.run_pure]
    rw [hex]
    refine ⟨fun f _=>FW_fn r f,second (t:=[.bool false]) (b:=false) rfl ?_ (h0 hnil)⟩
    refine ⟨ι,j,own,lb,hG,?_,hE⟩
    rw [hd1]
    exact hL.putC hN1 ⟨by simp [Rep,RepL],fun h=>by cases h⟩
   ·rw [hfil] at hm
    obtain ⟨x,hxm,r1,r2,r3⟩:=hleft.mem hm
    have hw1:GSim ι j own σ w1∧LSim ι j own lb N e a w1∧Evo ι0 j0 own0 w0 ι j own w1 (fun _=>True):=by
     rcases hal with rfl | rfl
     ·exact ⟨hG,hL,hE⟩
     ·have hE':Evo ι j own w ι j own w.drew (fun _=>False):=⟨rfl,rfl,rfl,Nat.le_refl _,fun _ _ _ h=>h,fun _ _ h=>h,fun _ _ _=>⟨rfl,rfl,fun _=>rfl⟩⟩
      exact ⟨hG.evo hE' hG.holds hG.noimm hG.ownlt hG.jlt (fun _ _ _=>⟨fun h=>h,fun _ _ _ _ h=>h⟩) (fun _ _ _ h=>h),hL.evo hE' (fun _ _ _ _ h=>h) (fun _ _ _=>⟨fun h=>h,fun _ _ _ _ h=>h⟩),hE.trans (hE'.weaken fun _ h=>h.elim)⟩
    obtain ⟨hG1,hL1,hE1⟩:=hw1
    have hpush:(⟨q.seen.reverse⟩:Array Nat).push ent.born=⟨(x.2.2 :: q.seen).reverse⟩:=by
     rw [r3]
     apply Array.ext'
     simp
    rw [hpush] at hrun
    obtain ⟨h4,h5⟩:=zro hG1 (y:=.mit q.m q.since (x.2.2 :: q.seen) q.clock) (ob:=.mapIter (some bm) q.since ⟨(x.2.2 :: q.seen).reverse⟩ q.clock) q1 hB1 hown (fun w' h=>⟨bm,hbm,h⟩) rfl
    have hex:(execOp a.eval o1).run P w=.ok (.value (.tuple #[.bool true,ent.key,ent.val])) {w1 with heap:=w1.heap.setIfInBounds B (.mapIter (some bm) q.since ⟨(x.2.2 :: q.seen).reverse⟩ q.clock)}:=by
     simp only [execOp,hox,hx,Sem.run_bind,hrun,Result.andThen_ok,Sem.run_pure]
     rfl
    rw [hex]
    refine ⟨fun f _=>FW_fn r f,second (t:=[.bool true,x.1,x.2.1]) (b:=true) rfl ?_ (h1 x hxm)⟩
    refine ⟨ι,j,own,lb,h4,?_,hE1.trans (h5.weaken fun _ _=>trivial)⟩
    rw [hd1]
    refine (hL1.evoO h5).putC hN1 ⟨?_,fun h=>by cases h⟩
    simp only [Rep,RepL]
    exact ⟨[.bool true,ent.key,ent.val],rfl,_,_,rfl,rfl,_,_,rfl,r1,_,_,rfl,r2,rfl⟩
  ·cases hk1
 ·cases hk
end
end Go.Mx
