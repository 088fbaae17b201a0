/-
 The operations that make or write memory: new boxes,stores.
-/
import Derived.Test.YtieacpoabejcoaaGreatDoorMyState
set_option linter.unusedSimpArgs false
set_option linter.unusedVariables false
set_option linter.unusedSectionVars false
namespace Go.Mx
open Go
section
variable [LoopKit] {P:Program} {ι:Imm} {j:Lay} {own:Own} {lb:Lay} {N:Nat} {e:Env} {a:Go.Act} {w:World} {σ:Store}
def Did (P:Program) (N:Nat) (ι:Imm) (j:Lay) (own:Own) (w:World) (o:Oper) (a:Go.Act) (e':Env) (σ':Store):Prop :=
 ∃ nx w' a',(execOp a.eval o).run P w=.ok nx w' ∧
  ((∃ v,nx=.value v∧a'=a.put o.dst v)∨(nx=.skip∧a'=a.put o.dst Go.undef)∨(∃ d,nx=.defer d∧a'=({a with defers:=d :: a.defers}:Go.Act).put o.dst Go.undef)) ∧
  ∃ ι' j' own' lb',GSim ι' j' own' σ' w'∧LSim ι' j' own' lb' N e' a' w'∧Evo ι j own w ι' j' own' w' (fun _=>True)
theorem newBlock_evo (_hG:GSim ι j own σ w) (ob:Obj) (t:Tag):Evo ι j own w ι j (fun b=>if b=w.heap.size then some t else own b) (w.alloc ob) (fun _=>False) where
 os:=rfl
 tape:=rfl
 output:=rfl
 size:=by simp
 imm:=fun _ _ _ h=>h
 lay:=fun _ _ h=>h
 block:=fun b hb _=>⟨heap_alloc_old w ob hb,if_neg (by omega),fun _=>rfl⟩
theorem imm_lt (hG:GSim ι j own σ w) {b o:Nat} {v:Value} (h:ι b o=some v):b < w.heap.size:=World.block_lt_of_cell? w ⟨b,o,none⟩ (hG.holds b o v h)
theorem newBlock_gsim (hG:GSim ι j own σ w) (ob:Obj) (t:Tag):GSim ι j (fun b=>if b=w.heap.size then some t else own b) σ (w.alloc ob):=by
 refine hG.evo (newBlock_evo hG ob t) (fun b o v h=>?_) (fun b u h hu o=>?_) (fun b u h=>?_) hG.jlt (fun _ _ _=>⟨fun h=>h,fun _ _ _ _ h=>h⟩) (fun _ _ _ h=>h)
 ·have hlt:=imm_lt hG h
  have:=hG.holds b o v h
  rw [World.cell?_alloc_past ob b o hlt]
  exact this
 ·by_cases hb:b=w.heap.size
  ·cases hi:ι b o with
   | none=>rfl
   | some v=>have:=imm_lt hG hi; omega
  ·rw [if_neg hb] at h
   exact hG.noimm b u h hu o
 ·by_cases hb:b=w.heap.size
  ·subst hb; simp
  ·rw [if_neg hb] at h
   have:=hG.ownlt b u h
   simp
   omega
theorem newBlock_lsim (hG:GSim ι j own σ w) (hL:LSim ι j own lb N e a w) (ob:Obj) (t:Tag):LSim ι j (fun b=>if b=w.heap.size then some t else own b) lb N e a (w.alloc ob) :=
 hL.evo (newBlock_evo hG ob t) (fun _ _ _ _ h=>h) (fun _ _ _=>⟨fun h=>h,fun _ _ _ _ h=>h⟩)
theorem boxRel_new {own':Own} {w':World} {B:Nat} {T:TypeId} {mk:Nat→Tag} {ds:List D} {vs:List Value} (hh:w'.heap[B]?=some (.cells ⟨vs⟩ T (0,0))) (hr:RepL ι j ds vs) (h1:∀ x∈vs,x.oneCell'=true) :
  BoxRel ι j own' w' B mk (ds.map Cell.of):=by
 refine ⟨vs,T,hh,by rw [hr.length,List.length_map]; exact Nat.le_refl _,fun i c hi=>?_⟩
 rw [List.getElem?_map] at hi
 cases hd:ds[i]? with
 | none=>rw [hd] at hi; cases hi
 | some d =>
  rw [hd] at hi
  simp at hi
  subst hi
  obtain ⟨v,hv,hrv⟩:=hr.at i d hd
  exact ⟨v,hv,h1 v (List.mem_of_getElem? hv),hrv,fun h=>by cases h⟩
theorem step_newBox (hG:GSim ι j own σ w) (hL:LSim ι j own lb N e a w) {o:Oper} {s:Nat} (hd:o.dst=some s) (hs:s < N) {T:TypeId} {ds:List D} {vs:List Value} (hr:RepL ι j ds vs) (h1:∀ x∈vs,x.oneCell'=true)
  (hrun:(execOp a.eval o).run P w=.ok (.value (.pointer (some ⟨w.heap.size,0,none⟩))) (w.alloc (.cells ⟨vs⟩ T))):Did P N ι j own w o a (e.box s (ds.map Cell.of)) σ:=by
 refine ⟨_,_,_,hrun,.inl ⟨_,rfl,rfl⟩,ι,j,_,(fun t=>if t=s then some w.heap.size else lb t),newBlock_gsim hG _ (.box s),?_,(newBlock_evo hG _ (.box s)).weaken (fun _ h=>h.elim)⟩
 rw [hd]
 exact (newBlock_lsim hG hL _ (.box s)).newBox hs (if_pos rfl) (boxRel_new (heap_alloc_new w _) hr h1)
theorem step_alloc (hG:GSim ι j own σ w) (hL:LSim ι j own lb N e a w) {o:Oper} {t:TypeId} {z:List D} {zs:List Value} {s:Nat} (ho:o.op=.alloc t) (hd:o.dst=some s) (hs:s < N) (hz:zeroB P t=some zs) (hzr:okConsts z zs=true) :
  Did P N ι j own w o a (e.box s (z.map Cell.of)) σ:=by
 obtain ⟨zv,hzrun,hzc⟩:=zeroB_run (P:=P) (w:=w) hz
 obtain ⟨z1,z2⟩:=okConsts_rep ι j z zs hzr
 refine step_newBox hG hL hd hs (T:=t) z1 z2 ?_
 simp only [execOp,ho,Instr.alloc,Sem.run_bind,hzrun,Result.andThen_ok,newVar,newRow,run_newObj,Sem.run_pure,hzc]
 rfl
theorem step_box (hG:GSim ι j own σ w) (hL:LSim ι j own lb N e a w) {o:Oper} {t:TypeId} {x:Operand} {y:AOpd} {c:Cell} {s:Nat} (ho:o.op=.box t x) (hd:o.dst=some s) (hs:s < N) (hk:okOpd x y=true) (hc:opd e y=some c) (hok:c.d.ok=true) :
  Did P N ι j own w o a (e.box s (c.d.cells.map Cell.of)) σ:=by
 obtain ⟨r1,r2⟩:=(opd_rel hL hk hc).cellsRel hok
 refine step_newBox hG hL hd hs (T:=t) r1 r2 ?_
 simp only [execOp,ho,Instr.box,Sem.run_bind,newVar,newRow,run_newObj,Sem.run_pure,Result.andThen_ok]
 rfl
theorem step_newObj (hG:GSim ι j own σ w) (hL:LSim ι j own lb N e a w) {o:Oper} (hs:∀ s,o.dst=some s→s < N) {T:TypeId} {ds:List D} {vs:List Value} (hr:RepL ι j ds vs) (h1:∀ x∈vs,x.oneCell'=true)
  (hrun:(execOp a.eval o).run P w=.ok (.value (.pointer (some ⟨w.heap.size,0,none⟩))) (w.alloc (.cells ⟨vs⟩ T))) :
  Did P N ι j own w o a (e.put o.dst ⟨false,.ptr σ.next 0⟩) {objs:=(σ.next,ds.map Cell.of) :: σ.objs,tys:=(σ.next,⟨T,0⟩) :: σ.tys,oth:=σ.oth,next:=σ.next + 1}:=by
 classical
 let j':Lay:=fun i=>if i=σ.next then some w.heap.size else j i
 have hjn:∀ i b,j i=some b→i≠σ.next:=fun i b h e=>by have:=hG.jlt i b h; omega
 have hE0:=newBlock_evo hG (.cells ⟨vs⟩ T) (.obj σ.next)
 have hE:Evo ι j own w ι j' (fun b=>if b=w.heap.size then some (.obj σ.next) else own b) (w.alloc (.cells ⟨vs⟩ T)) (fun _=>False) :=
  ⟨hE0.os,hE0.tape,hE0.output,hE0.size,hE0.imm,fun i b h=>by simp only [j',if_neg (hjn i b h)]; exact h,hE0.block⟩
 have hG0:=newBlock_gsim hG (.cells ⟨vs⟩ T) (.obj σ.next)
 have hr':RepL ι j' ds vs:=hE.repL hr
 have hG':GSim ι j' (fun b=>if b=w.heap.size then some (.obj σ.next) else own b) {objs:=(σ.next,ds.map Cell.of) :: σ.objs,tys:=(σ.next,⟨T,0⟩) :: σ.tys,oth:=σ.oth,next:=σ.next + 1} (w.alloc (.cells ⟨vs⟩ T)):=by
  refine ⟨hG0.holds,hG0.noimm,fun id cs h=>?_,fun id t cs h1 h2 b hb=>?_,fun id x h=>?_,fun id b h=>?_,hG0.ownlt⟩
  ·simp only [aget_cons] at h
   by_cases hid:σ.next=id
   ·rw [if_pos hid] at h
    cases h
    subst hid
    exact ⟨w.heap.size,if_pos rfl,if_pos rfl,boxRel_new (heap_alloc_new w _) hr' h1⟩
   ·rw [if_neg hid] at h
    obtain ⟨B,q1,q2,q3⟩:=hG.objs id cs h
    have hlt:=hG.ownlt B _ q2
    exact ⟨B,hE.lay _ _ q1,by rw [if_neg (by omega)]; exact q2,hE.boxRel q2 (fun h=>h) (fun _ _ _ _ h=>h) q3⟩
  ·simp only [aget_cons] at h1 h2
   by_cases hid:σ.next=id
   ·rw [if_pos hid] at h1
    cases h1
    subst hid
    simp only [j',if_pos rfl,Option.some.injEq] at hb
    subst hb
    exact ⟨_,heap_alloc_new w _,fun h=>absurd h (Nat.lt_irrefl 0)⟩
   ·rw [if_neg hid] at h1 h2
    simp only [j',if_neg (fun e=>hid (Eq.symm e))] at hb
    have hty:=hG.tys id t cs h1 h2 b hb
    have hlt:b < w.heap.size:=by
     obtain ⟨row,hrow,_⟩:=hty
     exact (Array.getElem?_eq_some_iff.1 hrow).1
    exact hty.keep (heap_alloc_old w _ hlt) hE.lay
  ·obtain ⟨B,q1,q2,q3⟩:=hG.oth id x h
   have hlt:=hG.ownlt B _ q2
   exact ⟨B,hE.lay _ _ q1,by rw [if_neg (by omega)]; exact q2,q3.keep (heap_alloc_old w _ hlt) hE.imm hE.lay⟩
  ·by_cases hid:id=σ.next
   ·simp only; omega
   ·simp only [j',if_neg hid] at h
    have:=hG.jlt id b h
    simp only; omega
 refine ⟨_,_,_,hrun,.inl ⟨_,rfl,rfl⟩,ι,j',_,lb,hG',?_,hE.weaken (fun _ h=>h.elim)⟩
 have hL':=hL.evo hE (fun _ _ _ _ h=>h) (fun _ _ _=>⟨fun h=>h,fun _ _ _ _ h=>h⟩)
 cases hd:o.dst with
 | none=>exact hL'
 | some s =>
  exact hL'.putC (hs s hd) ⟨by simp only [Rep]; exact ⟨w.heap.size,if_pos rfl,rfl⟩,fun h=>by cases h⟩
theorem step_galloc (hG:GSim ι j own σ w) (hL:LSim ι j own lb N e a w) {o:Oper} {t:TypeId} {z:List D} {zs:List Value} (ho:o.op=.alloc t) (hs:∀ s,o.dst=some s→s < N) (hz:zeroB P t=some zs) (hzr:okConsts z zs=true) :
  Did P N ι j own w o a (e.put o.dst ⟨false,.ptr σ.next 0⟩) {objs:=(σ.next,z.map Cell.of) :: σ.objs,tys:=(σ.next,⟨t,0⟩) :: σ.tys,oth:=σ.oth,next:=σ.next + 1}:=by
 obtain ⟨zv,hzrun,hzc⟩:=zeroB_run (P:=P) (w:=w) hz
 obtain ⟨z1,z2⟩:=okConsts_rep ι j z zs hzr
 refine step_newObj hG hL hs (T:=t) z1 z2 ?_
 simp only [execOp,ho,Instr.alloc,Sem.run_bind,hzrun,Result.andThen_ok,newVar,newRow,run_newObj,Sem.run_pure,hzc]
 rfl
theorem step_gbox (hG:GSim ι j own σ w) (hL:LSim ι j own lb N e a w) {o:Oper} {t:TypeId} {x:Operand} {y:AOpd} {c:Cell} (ho:o.op=.box t x) (hs:∀ s,o.dst=some s→s < N) (hk:okOpd x y=true) (hc:opd e y=some c) (hok:c.d.ok=true) :
  Did P N ι j own w o a (e.put o.dst ⟨false,.ptr σ.next 0⟩) {objs:=(σ.next,c.d.cells.map Cell.of) :: σ.objs,tys:=(σ.next,⟨t,0⟩) :: σ.tys,oth:=σ.oth,next:=σ.next + 1}:=by
 obtain ⟨r1,r2⟩:=(opd_rel hL hk hc).cellsRel hok
 refine step_newObj hG hL hs (T:=t) r1 r2 ?_
 simp only [execOp,ho,Instr.box,Sem.run_bind,newVar,newRow,run_newObj,Sem.run_pure,Result.andThen_ok]
 rfl
/-! ### Stores -/
theorem putCells_at:∀ (cs:List Cell) (off:Nat) (new:List Cell),off + new.length≤cs.length→(putCells cs off new).length=cs.length∧∀ k,(putCells cs off new)[k]?=if off≤k∧k < off + new.length then new[k - off]? else cs[k]?
 | cs,off,[],_=>by
  have:putCells cs off []=cs:=by cases cs <;> cases off <;> rfl
  rw [this]
  exact ⟨rfl,fun k=>by rw [if_neg (by simp only [List.length_nil]; omega)]⟩
 | [],off,x :: new,h=>by simp at h
 | c :: cs,0,x :: new,h=>by
  simp only [putCells]
  obtain ⟨h1,h2⟩:=putCells_at cs 0 new (by simp at h ⊢; omega)
  refine ⟨by simp [h1],fun k=>?_⟩
  cases k with
  | zero=>simp
  | succ k =>
   simp only [List.getElem?_cons_succ,h2 k,List.length_cons]
   by_cases hk:k < new.length
   ·rw [if_pos ⟨by omega,by omega⟩,if_pos ⟨by omega,by omega⟩]
    simp
   ·rw [if_neg (by omega),if_neg (by omega)]
 | c :: cs,off + 1,x :: new,h=>by
  simp only [putCells]
  obtain ⟨h1,h2⟩:=putCells_at cs off (x :: new) (by simp at h ⊢; omega)
  refine ⟨by simp [h1],fun k=>?_⟩
  cases k with
  | zero=>rw [if_neg (by omega)]; simp
  | succ k =>
   simp only [List.getElem?_cons_succ,h2 k]
   by_cases hk:off≤k∧k < off + (x :: new).length
   ·rw [if_pos hk,if_pos ⟨by omega,by omega⟩]
    congr 1
    omega
   ·rw [if_neg hk,if_neg (by omega)]
theorem boxRel_put {B:Nat} {mk:Nat→Tag} {cs:List Cell} (hb:BoxRel ι j own w B mk cs) {off:Nat} {new:List Cell} {us:List Value} (hle:off + new.length≤cs.length) (hu:us.length=new.length)
  (hnew:∀ (i:Nat) (c:Cell),new[i]?=some c→∃ u,us[i]?=some u∧u.oneCell'=true∧Rep ι j c.d u∧(c.own=true→∀ w',(∀ b,b≠B→w'.heap[b]?=w.heap[b]?)→Owned ι own w' (mk (off + i)) c.d u))
  (hold:∀ (i:Nat) (c:Cell) (u:Value),cs[i]?=some c→c.own=true→Owned ι own w (mk i) c.d u→∀ w',(∀ b,b≠B→w'.heap[b]?=w.heap[b]?)→Owned ι own w' (mk i) c.d u) :
  ∃ (cur:Array Value) (T:TypeId),w.heap[B]?=some (.cells cur T (0,0))∧off + us.length≤cur.size ∧
   BoxRel ι j own (w.setRow B (cur.toList.take off ++ us ++ cur.toList.drop (off + us.length)).toArray) B mk (putCells cs off new):=by
 obtain ⟨vs,T,h1,h2,h3⟩:=hb
 obtain ⟨p1,p2⟩:=putCells_at cs off new hle
 have hrest:∀ row,∀ b,b≠B→(w.setRow B row).heap[b]?=w.heap[b]?:=fun row b hb=>setRow_other w B b row hb
 refine ⟨⟨vs⟩,T,h1,by simp; omega,_,T,setRow_heap w B _ _ T (0,0) h1,?_,fun i c hi=>?_⟩
 ·simp only [List.length_append,List.length_take,List.length_drop]
  omega
 ·rw [p2 i] at hi
  have hget:(vs.take off ++ us ++ vs.drop (off + us.length))[i]?=if off≤i∧i < off + new.length then us[i - off]? else vs[i]?:=by
   by_cases h4:i < off
   ·rw [if_neg (by omega),List.append_assoc,List.getElem?_append_left (by simp; omega),List.getElem?_take,if_pos h4]
   ·by_cases h5:i < off + us.length
    ·rw [if_pos (by omega),List.append_assoc,List.getElem?_append_right (by simp; omega),List.getElem?_append_left (by simp; omega)]
     congr 1
     simp
     omega
    ·rw [if_neg (by omega),List.getElem?_append_right (by simp; omega),List.getElem?_drop]
     congr 1
     simp
     omega
  by_cases hin:off≤i∧i < off + new.length
  ·rw [if_pos hin] at hi hget
   obtain ⟨u,q1,q2,q3,q4⟩:=hnew (i - off) c hi
   refine ⟨u,hget.trans q1,q2,q3,fun ho=>?_⟩
   have:=q4 ho (w.setRow B (vs.take off ++ us ++ vs.drop (off + us.length)).toArray) (hrest _)
   rwa [show off + (i - off)=i by omega] at this
  ·rw [if_neg hin] at hi hget
   obtain ⟨v,q1,q2,q3,q4⟩:=h3 i c hi
   exact ⟨v,hget.trans q1,q2,q3,fun ho=>hold i c v hi ho (q4 ho) (w.setRow B (vs.take off ++ us ++ vs.drop (off + us.length)).toArray) (hrest _)⟩
theorem layCells_length {c:Cell} (hok:c.d.ok=true):(layCells c).length=c.d.cells.length:=by
 unfold layCells
 cases h:c.d.one with
 | true=>cases c with | mk o d=>cases d <;> simp only [D.one,Bool.false_eq_true] at h <;> rfl
 | false=>simp [ifB]
theorem owned_other {t:Tag} {B:Nat} {w':World} (hB:own B≠some t) (hrest:∀ b,b≠B→w'.heap[b]?=w.heap[b]?) {d:D} {v:Value} (k:Owned ι own w t d v):Owned ι own w' t d v:=by
 unfold Owned at k ⊢
 cases hp:prin d v with
 | none=>trivial
 | some p =>
  rw [hp] at k
  rcases k with k | ⟨b,g0,cap,cur,T,h1,h2,h3,h4,h5⟩
  ·exact .inl k
  ·exact .inr ⟨b,g0,cap,cur,T,h1,h2,(hrest b fun e=>hB (e ▸ h2)).trans h3,h4,h5⟩
theorem moveMark (hG:GSim ι j own σ w) (hL:LSim ι j own lb N e a w) {x:Operand} {y:AOpd} (hk:okOpd x y=true) {c:Cell} (hc:opd e y=some c) {t':Tag} (hb':t'.isBox=false) :
  ∃ own',GSim ι j own' σ w∧LSim ι j own' lb N (y.drop e) a w∧(c.own=true→Owned ι own' w t' c.d (a.eval x))∧Evo ι j own w ι j own' w (fun _=>True):=by
 cases ho:c.own with
 | false=>exact ⟨own,hG,hL.drop y,(fun h=>by cases h),Evo.refl _ _ _ _ _⟩
 | true =>
  cases y with
  | tmp s =>
   simp only [opd] at hc
   obtain ⟨c',h1,h2⟩:=bindO_some hc
   cases h2
   cases ho
  | const d =>
   simp only [opd] at hc
   cases hc
   cases ho
  | mv s =>
   cases x <;> simp only [okOpd,Bool.false_eq_true] at hk
   have hk:=eq_of_beq hk
   subst hk
   simp only [opd] at hc
   have how:=(hL.slots _ c hc).2 ho
   obtain ⟨own',k1,k2,k3,k4⟩:=retag (t:=.slot _) (t':=t') rfl hb' hG (hL.drop (.mv _)) (fun s c' h1 h2 h3=>by
    cases h3
    exact drop_free h1 h2 (by rw [hc]; rfl) rfl) (fun s cs _ i c' _ _ h=>by cases h) (fun id cs _ i c' _ _ h=>by cases h) how
   exact ⟨own',k1,k2,fun _=>k3,k4.weaken fun _ _=>trivial⟩
theorem setRow_evo {B:Nat} {cur:Array Value} {T:TypeId} (_h:w.heap[B]?=some (.cells cur T (0,0))) (row:Array Value) {t:Tag} (ht:own B=some t):Evo ι j own w ι j own (w.setRow B row) (fun u=>u=t) where
 os:=rfl
 tape:=rfl
 output:=rfl
 size:=by simp [World.setRow]
 imm:=fun _ _ _ h=>h
 lay:=fun _ _ h=>h
 block:=fun b _ hb=>⟨setRow_other w B b row (fun e=>hb t (e ▸ ht) rfl),rfl,fun _=>rfl⟩
theorem run_storeVar_of {t:TypeId} {k:Nat} (hk:sizeB P t=some k) {B off:Nat} {cur:Array Value} {T:TypeId} (h:w.heap[B]?=some (.cells cur T (0,0))) {v:Value} (hv:v.cells.size=k) (hle:off + v.cells.toList.length≤cur.size) (h1:∀ x∈v.cells.toList,x.oneCell'=true) :
  (storeVar t ⟨B,off,none⟩ v).run P w=.ok () (w.setRow B (cur.toList.take off ++ v.cells.toList ++ cur.toList.drop (off + v.cells.toList.length)).toArray):=by
 have hs:=run_storeCells_at (P:=P) B off T v.cells.toList 0 cur w h (by simpa using hle) h1
 simp only [Nat.add_zero] at hs
 simp only [storeVar,Sem.run_bind,run_sizeOf_of hk,Result.andThen_ok,hv]
 rw [if_neg (by simp)]
 exact hs
theorem layCells_rel {c:Cell} {v:Value} (hr:Rep ι j c.d v) (hok:c.d.ok=true):v.cells.toList.length=(layCells c).length ∧
  ∀ (i:Nat) (c':Cell),(layCells c)[i]?=some c'→∃ u,v.cells.toList[i]?=some u∧u.oneCell'=true∧Rep ι j c'.d u∧(c'.own=true→i=0∧c'=c∧u=v):=by
 obtain ⟨r1,r2⟩:=hr.cellsRel hok
 refine ⟨by rw [layCells_length hok]; exact r1.length,fun i c' hi=>?_⟩
 unfold layCells at hi
 cases h:c.d.one with
 | true =>
  rw [h,ifB_true] at hi
  obtain ⟨h1,h2⟩:=hr.oneCell h
  cases i with
  | zero =>
   simp at hi
   subst hi
   exact ⟨v,by rw [h2]; rfl,h1,hr,fun _=>⟨rfl,rfl,rfl⟩⟩
  | succ i=>simp at hi
 | false =>
  rw [h,ifB_false,List.getElem?_map] at hi
  cases hd:c.d.cells[i]? with
  | none=>rw [hd] at hi; cases hi
  | some d =>
   rw [hd] at hi
   simp at hi
   subst hi
   obtain ⟨u,hu,hru⟩:=r1.at i d hd
   exact ⟨u,hu,r2 u (List.mem_of_getElem? hu),hru,fun h=>by cases h⟩
theorem fits_eq {c:Cell} {k off:Nat} {cs:List Cell} (h:fits c k off cs=true):c.d.ok=true∧c.d.cells.length=k∧off + k≤cs.length:=by
 simp only [fits,Bool.and_eq_true,beq_iff_eq,decide_eq_true_eq] at h
 exact ⟨h.1.1,h.1.2,h.2⟩
theorem step_storeLoc (hG:GSim ι j own σ w) (hL:LSim ι j own lb N e a w) {o:Oper} {t:TypeId} {x y:Operand} {x' y':AOpd} {k b off:Nat} {c:Cell} {cs:List Cell} (ho:o.op=.store t x y) (hd:∀ s,o.dst=some s→s < N)
  (hk:okOpd x x'=true) (hk1:okOpd y y'=true) (hsz:sizeB P t=some k) (hp:addr e x'=some (.loc b off)) (hc:opd e y'=some c) (hcs:aget e.boxes b=some cs) (hf:fits c k off cs=true) :
  Did P N ι j own w o a (Env.put {y'.drop e with boxes:=aset e.boxes b (putCells cs off (layCells c))} o.dst ⟨false,.undef⟩) σ:=by
 obtain ⟨hok,hlen,hle⟩:=fits_eq hf
 obtain ⟨B,hB,hx⟩:=addr_rel hL hk hp
 have hr:=opd_rel hL hk1 hc
 obtain ⟨own1,hG1,hL1,hO,hE1⟩:=moveMark hG hL hk1 hc (t':=.cell b off) rfl
 obtain ⟨_,hbx,_⟩:=drop_rest (e:=e) y'
 obtain ⟨B',hB',hown,hbox⟩:=hL1.boxes b cs (by rw [hbx]; exact hcs)
 rw [hB] at hB'
 cases hB'
 obtain ⟨l1,l2⟩:=layCells_rel hr hok
 have hlc:off + (layCells c).length≤cs.length:=by rw [layCells_length hok]; omega
 obtain ⟨cur,T,hcur,hfit,hnew⟩:=boxRel_put hbox (us:=(a.eval y).cells.toList) hlc l1 (fun i c' hi=>by
  obtain ⟨u,q1,q2,q3,q4⟩:=l2 i c' hi
  refine ⟨u,q1,q2,q3,fun how w' hw'=>?_⟩
  obtain ⟨rfl,rfl,rfl⟩:=q4 how
  exact owned_other (by rw [hown]; intro h; cases h) hw' (hO how)) (fun i c' u hi how h w' hw'=>owned_other (by rw [hown]; intro h; cases h) hw' h)
 have hvs:(a.eval y).cells.size=k:=by rw [← Array.length_toList,l1,layCells_length hok,hlen]
 have hrun:=run_storeVar_of (P:=P) hsz hcur (v:=a.eval y) hvs hfit (hr.cellsRel hok).2
 generalize hw':w.setRow B _=w' at hrun hnew
 have hE2:Evo ι j own1 w ι j own1 w' (fun u=>u=.box b):=hw' ▸ setRow_evo hcur _ hown
 have hG2:GSim ι j own1 σ w':=by
  refine hG1.evo hE2 (fun b' o' v h=>?_) hG1.noimm (fun b' u h=>Nat.lt_of_lt_of_le (hG1.ownlt b' u h) hE2.size) hG1.jlt (fun id cs _=>⟨(fun h=>by cases h),(fun _ _ _ _ h=>by cases h)⟩) (fun _ _ _ h=>by cases h)
  have hne:b'≠B:=fun e=>by
   rw [e,hG1.noimm B _ hown rfl o'] at h
   cases h
  rw [← hw',cell_setRow_other w B _ _ hne]
  exact hG1.holds b' o' v h
 have hL2:LSim ι j own1 lb N {y'.drop e with boxes:=aset e.boxes b (putCells cs off (layCells c))} a w':=by
  have h0:LSim ι j own1 lb N {y'.drop e with boxes:=adel1 e.boxes b} a w :=
   hL1.sub (fun s c h=>⟨c,h,rfl,fun h=>h⟩) (fun _ _ h=>h) (fun s cs h=>by
    simp only [aget_adel1] at h
    split at h
    ·cases h
    ·exact ⟨cs,by rw [hbx]; exact h,Weaker.refl cs⟩) rfl
  have h1:=(h0.evo hE2 (fun _ _ _ _ h=>by cases h) (fun s cs h=>⟨(fun e=>by
   cases e
   simp only [aget_adel1,if_true] at h
   cases h),(fun _ _ _ _ h=>by cases h)⟩)).addBox hB hown hnew
  refine h1.sub (fun s c h=>⟨c,h,rfl,fun h=>h⟩) (fun _ _ h=>h) (fun s cs h=>⟨cs,?_,Weaker.refl cs⟩) rfl
  simp only [aget_aset,aget_adel1] at h ⊢
  split
  ·rename_i hs; rw [if_pos hs] at h; exact h
  ·rename_i hs; rw [if_neg hs] at h; exact h
 refine ⟨.skip,w',_,?_,.inr (.inl ⟨rfl,rfl⟩),ι,j,own1,lb,hG2,?_,hE1.trans (hE2.weaken fun _ _=>trivial)⟩
 ·simp only [execOp,ho,hx,Instr.storeAt,Instr.sureAddr,Sem.run_bind,Sem.run_pure,Result.andThen_ok,hrun]
 ·cases hds:o.dst with
  | none=>exact hL2
  | some s=>exact hL2.putC (hd s hds) ⟨by simp only [Rep],fun h=>by cases h⟩
theorem step_storePtr (hG:GSim ι j own σ w) (hL:LSim ι j own lb N e a w) {o:Oper} {t:TypeId} {x y:Operand} {x' y':AOpd} {k id off:Nat} {c:Cell} {cs:List Cell} (ho:o.op=.store t x y) (hd:∀ s,o.dst=some s→s < N)
  (hk:okOpd x x'=true) (hk1:okOpd y y'=true) (hsz:sizeB P t=some k) (hp:addr e x'=some (.ptr id off)) (hc:opd e y'=some c) (hcs:aget σ.objs id=some cs) (hf:fits c k off cs=true) :
  Did P N ι j own w o a ((y'.drop e).put o.dst ⟨false,.undef⟩) {σ with objs:=aset σ.objs id (putCells cs off (layCells c))}:=by
 obtain ⟨hok,hlen,hle⟩:=fits_eq hf
 obtain ⟨B,hB,hx⟩:=addr_rel hL hk hp
 have hr:=opd_rel hL hk1 hc
 obtain ⟨own1,hG1,hL1,hO,hE1⟩:=moveMark hG hL hk1 hc (t':=.ocell id off) rfl
 obtain ⟨B',hB',hown,hbox⟩:=hG1.objs id cs hcs
 rw [hB] at hB'
 cases hB'
 obtain ⟨l1,l2⟩:=layCells_rel hr hok
 have hlc:off + (layCells c).length≤cs.length:=by rw [layCells_length hok]; omega
 obtain ⟨cur,T,hcur,hfit,hnew⟩:=boxRel_put hbox (us:=(a.eval y).cells.toList) hlc l1 (fun i c' hi=>by
  obtain ⟨u,q1,q2,q3,q4⟩:=l2 i c' hi
  refine ⟨u,q1,q2,q3,fun how w' hw'=>?_⟩
  obtain ⟨rfl,rfl,rfl⟩:=q4 how
  exact owned_other (by rw [hown]; intro h; cases h) hw' (hO how)) (fun i c' u hi how h w' hw'=>owned_other (by rw [hown]; intro h; cases h) hw' h)
 have hvs:(a.eval y).cells.size=k:=by rw [← Array.length_toList,l1,layCells_length hok,hlen]
 have hrun:=run_storeVar_of (P:=P) hsz hcur (v:=a.eval y) hvs hfit (hr.cellsRel hok).2
 generalize hw':w.setRow B _=w' at hrun hnew
 have hE2:Evo ι j own1 w ι j own1 w' (fun u=>u=.obj id):=hw' ▸ setRow_evo hcur _ hown
 have hG2:GSim ι j own1 {σ with objs:=aset σ.objs id (putCells cs off (layCells c))} w':=by
  refine ⟨fun b' o' v h=>?_,hG1.noimm,fun id' cs' h=>?_,fun id' t' cs' h1 h2 b' hb'=>?_,fun id' x' h=>?_,hG1.jlt,fun b' u h=>Nat.lt_of_lt_of_le (hG1.ownlt b' u h) hE2.size⟩
  ·have hne:b'≠B:=fun e=>by
    rw [e,hG1.noimm B _ hown rfl o'] at h
    cases h
   rw [← hw',cell_setRow_other w B _ _ hne]
   exact hG1.holds b' o' v h
  ·simp only [aget_aset] at h
   by_cases hid:id=id'
   ·subst hid
    rw [if_pos rfl] at h
    cases h
    exact ⟨B,hB,hown,hnew⟩
   ·rw [if_neg hid] at h
    obtain ⟨B2,q1,q2,q3⟩:=hG1.objs id' cs' h
    exact ⟨B2,q1,q2,hE2.boxRel q2 (fun h=>by cases h; exact hid rfl) (fun _ _ _ _ h=>by cases h) q3⟩
  ·have hex:∃ cs0,aget σ.objs id'=some cs0:=by
    simp only [aget_aset] at h2
    split at h2
    ·rename_i hh; subst hh; exact ⟨cs,hcs⟩
    ·exact ⟨cs',h2⟩
   obtain ⟨cs0,hcs0⟩:=hex
   have hty:=hG1.tys id' t' cs0 h1 hcs0 b' hb'
   by_cases hbB:b'=B
   ·subst hbB
    obtain ⟨row,hrow,hsz⟩:=hty
    have hrc:=hrow
    rw [hcur] at hrc
    cases hrc
    refine ⟨_,hw' ▸ setRow_heap w b' _ _ t'.t (0,0) hrow,fun h0=>?_⟩
    obtain ⟨c0,e1,e2,e3⟩:=hsz h0
    refine ⟨c0,e1,?_,e3⟩
    rw [← e2]
    simp only [List.size_toArray,List.length_append,List.length_take,List.length_drop,Array.length_toList]
    rw [Array.length_toList] at hfit
    omega
   ·exact hty.keep (by rw [← hw',setRow_other w B b' _ hbB]) (fun _ _ h=>h)
  ·obtain ⟨B2,q1,q2,q3⟩:=hG1.oth id' x' h
   have hbB:B2≠B:=fun e=>by
    subst e
    exact q3.notCells hcur
   exact ⟨B2,q1,q2,q3.keep (by rw [← hw',setRow_other w B B2 _ hbB]) (fun _ _ _ h=>h) (fun _ _ h=>h)⟩
 have hL2:LSim ι j own1 lb N (y'.drop e) a w':=hL1.evo hE2 (fun _ _ _ _ h=>by cases h) (fun _ _ _=>⟨(fun h=>by cases h),(fun _ _ _ _ h=>by cases h)⟩)
 refine ⟨.skip,w',_,?_,.inr (.inl ⟨rfl,rfl⟩),ι,j,own1,lb,hG2,?_,hE1.trans (hE2.weaken fun _ _=>trivial)⟩
 ·simp only [execOp,ho,hx,Instr.storeAt,Instr.sureAddr,Sem.run_bind,Sem.run_pure,Result.andThen_ok,hrun]
 ·cases hds:o.dst with
  | none=>exact hL2
  | some s=>exact hL2.putC (hd s hds) ⟨by simp only [Rep],fun h=>by cases h⟩
end
end Go.Mx
namespace Go.Mx
open Go
section
variable [LoopKit] {P:Program} {ι:Imm} {j:Lay} {own:Own} {lb:Lay} {N:Nat} {e:Env} {a:Go.Act} {w:World} {σ:Store}
def flat (xs:List Value):List Value:=xs.flatMap fun x=>x.cells.toList
theorem flat_length {sz:Nat}:∀ {xs:List Value},(∀ x∈xs,x.cells.size=sz)→(flat xs).length=xs.length * sz
 | [],_=>by simp [flat]
 | x :: xs,h=>by
  have ih:=flat_length (xs:=xs) fun y hy=>h y (by simp [hy])
  simp only [flat,List.flatMap_cons,List.length_append,List.length_cons,Array.length_toList] at ih ⊢
  rw [ih,h x (by simp),Nat.add_mul]
  omega
theorem flat_inv {sz:Nat} (hsz:0 < sz):∀ {xs:List Value},(∀ x∈xs,x.cells.size=sz)→∀ (n:Nat) (y:Value),(flat xs)[n]?=some y→∃ x,xs[n / sz]?=some x∧x.cells[n % sz]?=some y
 | [],_,n,y,hn=>by simp [flat] at hn
 | z :: xs,h,n,y,hn=>by
  have hz:=h z (by simp)
  simp only [flat,List.flatMap_cons] at hn
  by_cases hlt:n < sz
  ·rw [List.getElem?_append_left (by rw [Array.length_toList,hz]; exact hlt),Array.getElem?_toList] at hn
   rw [Nat.div_eq_of_lt hlt,Nat.mod_eq_of_lt hlt]
   exact ⟨z,rfl,hn⟩
  ·rw [List.getElem?_append_right (by rw [Array.length_toList,hz]; omega),Array.length_toList,hz] at hn
   obtain ⟨x,h1,h2⟩:=flat_inv hsz (xs:=xs) (fun y hy=>h y (by simp [hy])) (n - sz) y hn
   have hge:sz≤n:=by omega
   rw [Nat.div_eq_sub_div hsz hge,Nat.mod_eq_sub_mod hge]
   exact ⟨x,by simpa using h1,h2⟩
theorem flat_append (xs ys:List Value):flat (xs ++ ys)=flat xs ++ flat ys:=by simp [flat]
theorem RepRow.vals {sz:Nat}:∀ {es:List D} {b o:Nat},RepRow ι j sz es b o→∃ xs:List Value,RepL ι j es xs∧(∀ x∈xs,x.cells.size=sz)∧∀ (n:Nat) (y:Value),(flat xs)[n]?=some y→ι b (o + n)=some y
 | [],b,o,_=>⟨[],by simp only [RepL],by simp,by simp [flat]⟩
 | d :: es,b,o,h=>by
  simp only [RepRow] at h
  obtain ⟨⟨x,h1,h2,h3⟩,h4⟩:=h
  obtain ⟨xs,k1,k2,k3⟩:=RepRow.vals h4
  refine ⟨x :: xs,by simp only [RepL]; exact ⟨x,xs,rfl,h3,k1⟩,fun y hy=>?_,fun n y hn=>?_⟩
  ·rcases List.mem_cons.1 hy with rfl | hy
   ·exact h2
   ·exact k2 y hy
  ·simp only [flat,List.flatMap_cons] at hn
   by_cases hlt:n < sz
   ·rw [List.getElem?_append_left (by rw [Array.length_toList,h2]; exact hlt),Array.getElem?_toList] at hn
    exact h1 n y hn
   ·rw [List.getElem?_append_right (by rw [Array.length_toList,h2]; omega),Array.length_toList,h2] at hn
    have:=k3 (n - sz) y hn
    rwa [show o + sz + (n - sz)=o + n by omega] at this
theorem RepRow.of_vals {sz:Nat}:∀ {es:List D} {xs:List Value} {b o:Nat},RepL ι j es xs→(∀ x∈xs,x.cells.size=sz)→(∀ (n:Nat) (y:Value),(flat xs)[n]?=some y→ι b (o + n)=some y)→RepRow ι j sz es b o
 | [],_,_,_,_,_,_=>by simp only [RepRow]
 | d :: es,xs,b,o,h,h2,h3=>by
  simp only [RepL] at h
  obtain ⟨x,r,rfl,k1,k2⟩:=h
  have hx:=h2 x (by simp)
  simp only [RepRow]
  refine ⟨⟨x,fun i y hi=>h3 i y ?_,hx,k1⟩,RepRow.of_vals k2 (fun y hy=>h2 y (by simp [hy])) fun n y hn=>?_⟩
  ·have hlt:=(Array.getElem?_eq_some_iff.1 hi).1
   simp only [flat,List.flatMap_cons]
   rw [List.getElem?_append_left (by simpa using hlt),Array.getElem?_toList]
   exact hi
  ·have:=h3 (sz + n) y (by
    simp only [flat,List.flatMap_cons]
    rw [List.getElem?_append_right (by rw [Array.length_toList,hx]; omega),Array.length_toList,hx,← hn]
    congr 1
    omega)
   rwa [← Nat.add_assoc] at this
theorem allSize_rel {sz:Nat}:∀ {ds:List D} {xs:List Value},allSize sz ds=true→RepL ι j ds xs→(∀ x∈xs,x.cells.size=sz)∧∀ u∈flat xs,u.oneCell'=true
 | [],xs,_,h=>by simp only [RepL] at h; subst h; simp [flat]
 | d :: ds,xs,hs,h=>by
  simp only [RepL] at h
  obtain ⟨x,r,rfl,h1,h2⟩:=h
  simp only [allSize,Bool.and_eq_true,beq_iff_eq] at hs
  obtain ⟨⟨hok,hn⟩,hs⟩:=hs
  obtain ⟨k1,k2⟩:=allSize_rel hs h2
  obtain ⟨_,q2⟩:=h1.cellsRel hok
  refine ⟨fun y hy=>?_,fun u hu=>?_⟩
  ·rcases List.mem_cons.1 hy with rfl | hy
   ·rw [h1.cellsSize hok]; exact hn
   ·exact k1 y hy
  ·simp only [flat,List.flatMap_cons,List.mem_append] at hu
   rcases hu with hu | hu
   ·exact q2 u hu
   ·exact k2 u hu
/-! ### New memory that never changes -/
def addImm (ι:Imm) (B lo hi:Nat) (f:Nat→Option Value):Imm:=fun b o=>if b=B∧lo≤o∧o < hi then f o else ι b o
theorem newImm_evo (hG:GSim ι j own σ w) {w':World} {ob:Obj} (hw:w'=w.alloc ob∨w'=w.drew.alloc ob) (hi:Nat) (f:Nat→Option Value) (t:Tag) :
  Evo ι j own w (addImm ι w.heap.size 0 hi f) j (fun b=>if b=w.heap.size then some t else own b) w' (fun _=>False):=by
 have key:∀ b,b < w.heap.size→w'.heap[b]?=w.heap[b]?:=by
  intro b hb
  rcases hw with rfl | rfl
  ·exact heap_alloc_old w ob hb
  ·exact heap_alloc_old w.drew ob hb
 have hs:w.heap.size≤w'.heap.size:=by rcases hw with rfl | rfl <;> simp
 refine ⟨by rcases hw with rfl | rfl <;> rfl,by rcases hw with rfl | rfl <;> rfl,by rcases hw with rfl | rfl <;> rfl,hs,fun b o v h=>?_,fun _ _ h=>h,fun b hb _=>⟨key b hb,if_neg (by omega),fun o=>if_neg (by omega)⟩⟩
 have:=imm_lt hG h
 unfold addImm
 rw [if_neg (by omega)]
 exact h
theorem newImm_gsim (hG:GSim ι j own σ w) {w':World} {cur:Array Value} {T:TypeId} (hw:w'=w.alloc (.cells cur T)∨w'=w.drew.alloc (.cells cur T)) (hi:Nat) {f:Nat→Option Value} (hf:∀ o v,o < hi→f o=some v→cur[o]?=some v) {t:Tag} (ht:t.isBox=false) :
  GSim (addImm ι w.heap.size 0 hi f) j (fun b=>if b=w.heap.size then some t else own b) σ w':=by
 have hE:=newImm_evo hG hw hi f t
 have hnew:w'.heap[w.heap.size]?=some (.cells cur T (0,0)):=by
  rcases hw with rfl | rfl
  ·exact heap_alloc_new w _
  ·exact heap_alloc_new w.drew _
 have hlt':w.heap.size < w'.heap.size:=(Array.getElem?_eq_some_iff.1 hnew).1
 refine hG.evo hE (fun b o v h=>?_) (fun b u h hu o=>?_) (fun b u h=>?_) hG.jlt (fun _ _ _=>⟨fun h=>h,fun _ _ _ _ h=>h⟩) (fun _ _ _ h=>h)
 ·unfold addImm at h
  by_cases hc:b=w.heap.size∧0≤o∧o < hi
  ·rw [if_pos hc] at h
   obtain ⟨rfl,_,ho⟩:=hc
   rw [cell_of_row w' _ o cur T (0,0) hnew]
   exact hf o v ho h
  ·rw [if_neg hc] at h
   have hb:=imm_lt hG h
   have:=hG.holds b o v h
   rw [World.cell?_of_block (w:=w) (w':=w') (a:=⟨b,o,none⟩) (hE.block b hb (fun _ _ h=>h)).1]
   exact this
 ·by_cases hb:b=w.heap.size
  ·simp only [if_pos hb,Option.some.injEq] at h
   subst h
   rw [ht] at hu
   cases hu
  ·simp only [if_neg hb] at h
   unfold addImm
   rw [if_neg (fun hc=>hb hc.1)]
   exact hG.noimm b u h hu o
 ·by_cases hb:b=w.heap.size
  ·subst hb; exact hlt'
  ·simp only [if_neg hb] at h
   have:=hG.ownlt b u h
   omega
theorem newList {w':World} (hG:GSim ι j own σ w) (hL:LSim ι j own lb N e a w) {s:Nat} (hs:s < N) {cur:Array Value} {T:TypeId} (hw:w'=w.alloc (.cells cur T)∨w'=w.drew.alloc (.cells cur T)) {sz:RowK} {cap:Nat} {es:List D} {xs:List Value} (hT:T=sz.el)
  (hx:RepL ι j es xs) (hsz:∀ x∈xs,x.cells.size=sz.sz) (hcur:∀ (n:Nat) (y:Value),(flat xs)[n]?=some y→cur[n]?=some y) (hcs:cur.size=cap * sz.sz) (hle:es.length≤cap) (hmax:cap≤maxLen) :
  ∃ ι' own',GSim ι' j own' σ w'∧LSim ι' j own' lb N (e.put (some s) ⟨true,.list sz es⟩) (a.put (some s) (.slice (some ⟨w.heap.size,0,none⟩) es.length cap)) w'∧Evo ι j own w ι' j own' w' (fun _=>True):=by
 have hE:=newImm_evo hG hw (es.length * sz.sz) (fun o=>(flat xs)[o]?) (.slot s)
 have hG':=newImm_gsim hG hw (es.length * sz.sz) (f:=fun o=>(flat xs)[o]?) (fun o v _ h=>hcur o v h) (t:=.slot s) rfl
 have hnew:w'.heap[w.heap.size]?=some (.cells cur T (0,0)):=by
  rcases hw with rfl | rfl
  ·exact heap_alloc_new w _
  ·exact heap_alloc_new w.drew _
 have hL':=hL.evo hE (fun _ _ _ _ h=>h) (fun _ _ _=>⟨fun h=>h,fun _ _ _ _ h=>h⟩)
 refine ⟨_,_,hG',hL'.putC hs ⟨?_,fun _=>?_⟩,hE.weaken (fun _ h=>h.elim)⟩
 ·simp only [Rep]
  refine ⟨_,cap,rfl,hle,hmax,.inr ⟨w.heap.size,0,rfl,RepRow.of_vals (hE.repL hx) hsz fun n y hn=>?_⟩⟩
  have hlt:=(List.getElem?_eq_some_iff.1 hn).1
  rw [flat_length hsz,hx.length] at hlt
  unfold addImm
  rw [if_pos ⟨rfl,by omega,by omega⟩,Nat.zero_add]
  exact hn
 ·simp only [owned_list,OwnedL]
  refine .inr ⟨w.heap.size,0,cap,cur,T,rfl,if_pos rfl,hnew,⟨hT,by rw [hcs,Nat.zero_add],fun _=>rfl⟩,fun o ho=>?_⟩
  rw [Nat.zero_add] at ho
  unfold addImm
  rw [if_neg (by omega)]
  cases hi:ι w.heap.size o with
  | none=>rfl
  | some v=>have:=imm_lt hG hi; omega
end
end Go.Mx
