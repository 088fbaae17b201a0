/-
 Maps of the store: made,written,struck; slices whose room is bounded; stores to objects that take no mark along.
-/
import Derived.Test.YtieacpoabejcoaaGreatDoorMyArr
import Derived.Carry
import Derived.Laws.Externs
set_option linter.unusedSimpArgs false
set_option linter.unusedVariables false
set_option linter.unusedSectionVars false
namespace Go.Mx
open Go
section
variable [LoopKit] {P:Program} {ι:Imm} {j:Lay} {own:Own} {lb:Lay} {N:Nat} {e:Env} {a:Go.Act} {w:World} {σ:Store}
theorem zaqb (hG:GSim ι j own σ w) (hL:LSim ι j own lb N e a w) {o:Oper} (hd:∀ s,o.dst=some s→s < N) {d:D} {u:Value} (hrun:(execOp a.eval o).run P w=.ok (.value u) w) (hr:Rep ι j d u) (hO:∀ (t':Tag) (own':Own),Owned ι own' w t' d u) :
  Did P N ι j own w o a (e.put o.dst ⟨true,d⟩) σ:=by
 refine ⟨_,_,_,hrun,.inl ⟨_,rfl,rfl⟩,ι,j,own,lb,hG,?_,Evo.refl _ _ _ _ _⟩
 cases hds:o.dst with
 | none=>exact hL
 | some s=>exact hL.putC (hd s hds) ⟨hr,fun _=>hO _ _⟩
theorem zecb (hL:LSim ι j own lb N e a w) {o:Oper} {t:TypeId} {x:Operand} {lo:Option Operand} {lo':Option AOpd} {sz:Nat} (ho:o.op=.slice t x lo none none) (hk1:okOpt lo lo'=true)
  {el:TypeId} (ht:P.underlying t=some (.slice el)) (hsz:sizeB P el=some sz) {l n cap:Nat} {ad:Option Addr} (h2:optLo e lo'=some l) (hx:a.eval x=.slice ad n cap) (hle:l≤n) (hcap:n≤cap) :
  (execOp a.eval o).run P w=.ok (.value (.slice (if cap=l then ad else ad.map (·.add (l * sz))) (n - l) (cap - l))) w:=by
 have hlo:=zrn hL hk1 h2
 have hb:=zdh (P:=P) (w:=w) (isSlice:=true) (len:=n) (cap:=cap) (hi:=none) (h:=n) hlo (.inl ⟨rfl,rfl⟩) hle hcap
 simp only [execOp,ho,Option.map_none,hx,Instr.sliceAt,Instr.slice,Sem.run_bind,run_underlying ht,Result.andThen_ok,hb,za9 hsz,Sem.run_pure]
theorem zarb (hG:GSim ι j own σ w) (hL:LSim ι j own lb N e a w) {o:Oper} {t el:TypeId} {x:Operand} {x':AOpd} {lo:Option Operand} {lo':Option AOpd} {sz s l:Nat} {c:Cell} {d:D} (ho:o.op=.slice t x lo none none) (hd:o.dst=some s) (hs:s < N)
  (hk:okOpd x x'=true) (hk1:okOpt lo lo'=true) (ht:P.underlying t=some (.slice el)) (hsz:sizeB P el=some sz) (h1:opd e x'=some c) (h2:optLo e lo'=some l) (h4:za2 sz c.d l none=some d) (h6:znx c.d=true) :
  Did P N ι j own w o a ((x'.drop e).put o.dst ⟨c.own,d⟩) σ:=by
 have hnb:∀ k es,c.d=.list k es→k.el≠5:=fun k es h=>by
  rw [h] at h6
  simpa [znx] using h6
 obtain ⟨u,r1,r2⟩:=zuk (σ:=σ) (hi:=none) (hi':=none) (v:=.c ⟨false,d⟩) hL ho hk hk1 rfl ht hsz (by
  simp only [evalV,h1,h2,bindO,zab,optHi,h4])
 simp only [zal] at r2
 obtain ⟨own1,hG1,hL1,hO1,hE1⟩:=zf7 hG hL hk h1 (t':=.slot s) rfl
 have hr:=zah hL hk h1
 refine ⟨_,_,_,r1,.inl ⟨_,rfl,rfl⟩,ι,j,own1,lb,hG1,?_,hE1⟩
 rw [hd]
 refine hL1.putC hs ⟨r2,fun how=>?_⟩
 have hO:=hO1 how
 cases hcd:c.d with
 | list k es =>
  rw [hcd] at hO hr h4
  simp only [za2] at h4
  obtain ⟨h5,h4⟩:=zae h4
  simp only [Option.getD_none,Bool.and_eq_true,decide_eq_true_eq,beq_iff_eq] at h5
  cases h4
  obtain ⟨⟨h5,_⟩,rfl⟩:=h5
  simp only [Rep] at hr
  obtain ⟨ad,cap,hx,hcap,hmax,hrow⟩:=hr
  have hrun:=zecb (w:=w) hL ho hk1 ht hsz h2 hx h5 hcap
  rw [r1] at hrun
  simp only [Result.ok.injEq,Next.value.injEq,and_true] at hrun
  subst hrun
  have hlen:((es.drop l).take (Option.getD none es.length - l)).length=es.length - l:=by
   simp only [Option.getD_none,List.length_take,List.length_drop]; omega
  have he5:(k.el=5→es=[])→k.el=5→(es.drop l).take (Option.getD none es.length - l)=[]:=fun h h'=>by rw [h h']; simp
  rw [zed] at hO ⊢
  rcases hO with ⟨a0,hv,h0⟩ | ⟨b,g0,cap2,cur,T,hv,hown,hg,⟨hT,hcs,hby5⟩,hfree⟩
  ·rw [hx] at hv
   simp only [Value.slice.injEq,true_and] at hv
   obtain ⟨rfl,rfl⟩:=hv
   exact .inl ⟨_,by rw [hlen],he5 h0⟩
  ·rw [hx] at hv
   simp only [Value.slice.injEq,true_and] at hv
   obtain ⟨rfl,rfl⟩:=hv
   by_cases hcl:cap=l
   ·refine .inl ⟨some ⟨b,g0,none⟩,?_,fun _=>?_⟩
    ·rw [hlen,if_pos hcl,hcl,Nat.sub_self,show es.length - l=0 by omega]
    ·exact List.eq_nil_of_length_eq_zero (by rw [hlen]; omega)
   ·refine .inr ⟨b,g0 + l * k.sz,cap - l,cur,T,?_,hown,hg,⟨hT,?_,fun h=>absurd h (hnb k es hcd)⟩,fun o' ho'=>hfree o' ?_⟩
    ·rw [hlen,if_neg hcl]
     simp only [Option.map_some,Addr.add_lit]
    ·rw [hcs,Nat.add_assoc,← Nat.add_mul,show l + (cap - l)=cap by omega]
    ·rw [hlen,Nat.add_assoc,← Nat.add_mul,show l + (es.length - l)=es.length by omega] at ho'
     exact ho'
 | nils =>
  rw [hcd] at h4
  simp only [za2] at h4
  obtain ⟨_,h4⟩:=zae h4
  cases h4
  trivial
 | empt =>
  rw [hcd] at h4
  simp only [za2] at h4
  obtain ⟨_,h4⟩:=zae h4
  cases h4
  trivial
 | arr k id off len =>
  rw [hcd] at h4
  simp only [za2] at h4
  obtain ⟨_,h4⟩:=zae h4
  cases h4
  trivial
 | _ =>
  rw [hcd] at h4
  simp only [za2,reduceCtorEq] at h4
theorem zpp (hG:GSim ι j own σ w) (hL:LSim ι j own lb N e a w) {o:Oper} {t:TypeId} {x y:Operand} {x' y':AOpd} {k id off:Nat} {c:Cell} {cs:List Cell} (ho:o.op=.store t x y) (hd:∀ s,o.dst=some s→s < N)
  (hk:okOpd x x'=true) (hk1:okOpd y y'=true) (hsz:sizeB P t=some k) (hp:addr e x'=some (.ptr id off)) (hc:opd e y'=some c) (hcs:aget σ.objs id=some cs) (hf:fits ⟨false,c.d⟩ k off cs=true) :
  Did P N ι j own w o a (e.put o.dst ⟨false,.undef⟩) {σ with objs:=aset σ.objs id (zan cs off (za7 ⟨false,c.d⟩))}:=by
 obtain ⟨hok,hlen,hle⟩:=zsn hf
 simp only at hok hlen
 obtain ⟨B,hB,hx⟩:=zca hL hk hp
 have hr:=zah hL hk1 hc
 obtain ⟨r1,r2⟩:=hr.cellsRel hok
 have hlay:za7 ⟨false,c.d⟩=c.d.cells.map Cell.of:=by
  unfold za7
  simp only
  cases h:c.d.one with
  | true =>
   rw [zac]
   cases hcd:c.d <;> rw [hcd] at h <;> simp only [D.one,Bool.false_eq_true] at h <;> rfl
  | false=>rw [zad]
 rw [hlay]
 have hul:=r1.length
 obtain ⟨cur,T,h2,h3,h4,h5⟩:=zg9b hG hcs hB r1 r2 (off:=off) (by omega)
 have hvs:(a.eval y).cells.size=k:=by rw [← Array.length_toList,r1.length,hlen]
 have hrun:=zfe (P:=P) hsz h2 (v:=a.eval y) hvs h3 r2
 refine ⟨.skip,_,_,?_,.inr (.inl ⟨rfl,rfl⟩),ι,j,own,lb,h4,?_,h5.weaken fun _ _=>trivial⟩
 ·simp only [execOp,ho,hx,Instr.storeAt,Instr.sureAddr,Sem.run_bind,Sem.run_pure,Result.andThen_ok,hrun]
 ·have hL':=hL.evo h5 (fun _ _ _ _ h=>by cases h) (fun _ _ _=>⟨(fun h=>by cases h),(fun _ _ _ _ h=>by cases h)⟩)
  cases hds:o.dst with
  | none=>exact hL'
  | some s=>exact hL'.putC (hd s hds) ⟨by simp only [Rep],fun h=>by cases h⟩
theorem zeg' (hG:GSim ι j own σ w) (hL:LSim ι j own lb N e a w) {o:Oper} (hd:∀ s,o.dst=some s→s < N) {x:Oth} {ob:Obj} {r:D} {v:Value}
  (hx:∀ j':Lay,(∀ i b,j i=some b→j' i=some b)→zei ι j' (w.alloc ob) w.heap.size x) (hrun:(execOp a.eval o).run P w=.ok (.value v) (w.alloc ob)) (hv:∀ j':Lay,j' σ.next=some w.heap.size→Rep ι j' r v) :
  Did P N ι j own w o a (e.put o.dst ⟨false,r⟩) {σ with oth:=(σ.next,x) :: σ.oth,next:=σ.next + 1}:=by
 classical
 let j':Lay:=fun i=>if i=σ.next then some w.heap.size else j i
 have hjn:∀ i b,j i=some b→i≠σ.next:=fun i b h e=>by have:=hG.jlt i b h; omega
 have hE0:=zen hG ob (.obj σ.next)
 have hE:Evo ι j own w ι j' (fun b=>if b=w.heap.size then some (.obj σ.next) else own b) (w.alloc ob) (fun _=>False) :=
  ⟨hE0.os,hE0.tape,hE0.output,hE0.size,hE0.imm,fun i b h=>by simp only [j',if_neg (hjn i b h)]; exact h,hE0.block⟩
 have hG0:=zf3 hG ob (.obj σ.next)
 have hG':GSim ι j' (fun b=>if b=w.heap.size then some (.obj σ.next) else own b) {σ with oth:=(σ.next,x) :: σ.oth,next:=σ.next + 1} (w.alloc ob):=by
  refine ⟨hG0.holds,hG0.noimm,fun id cs h=>?_,fun id t cs h1 h2 b hb=>?_,fun id x' h=>?_,fun id b h=>?_,hG0.ownlt⟩
  ·obtain ⟨B,q1,q2,q3⟩:=hG.objs id cs h
   have hlt:=hG.ownlt B _ q2
   exact ⟨B,hE.lay _ _ q1,by rw [if_neg (by omega)]; exact q2,hE.boxRel q2 (fun h=>h) (fun _ _ _ _ h=>h) q3⟩
  ·obtain ⟨B,q1,q2,q3⟩:=hG.objs id cs h2
   have hb':=hE.lay _ _ q1
   rw [hb] at hb'
   cases hb'
   have hlt:=hG.ownlt b _ q2
   exact (hG.tys id t cs h1 h2 b q1).keep (heap_alloc_old w _ hlt) hE.lay
  ·simp only [zat] at h
   by_cases hid:σ.next=id
   ·rw [if_pos hid] at h
    cases h
    subst hid
    exact ⟨w.heap.size,if_pos rfl,if_pos rfl,hx _ hE.lay⟩
   ·rw [if_neg hid] at h
    obtain ⟨B,q1,q2,q3⟩:=hG.oth id x' h
    have hlt:=hG.ownlt B _ q2
    exact ⟨B,hE.lay _ _ q1,by rw [if_neg (by omega)]; exact q2,q3.keep (heap_alloc_old w _ hlt) hE.imm hE.lay⟩
  ·by_cases hid:id=σ.next
   ·simp only; omega
   ·simp only [j',if_neg hid] at h
    have:=hG.jlt id b h
    simp only; omega
 refine ⟨_,_,_,hrun,.inl ⟨_,rfl,rfl⟩,ι,j',_,lb,hG',?_,hE.weaken (fun _ h=>h.elim)⟩
 have hL':=hL.evo hE (fun _ _ _ _ h=>h) (fun _ _ _=>⟨fun h=>h,fun _ _ _ _ h=>h⟩)
 cases hds:o.dst with
 | none=>exact hL'
 | some d=>exact hL'.putC (hd d hds) ⟨hv j' (if_pos rfl),fun h=>by cases h⟩
theorem zeg (hG:GSim ι j own σ w) (hL:LSim ι j own lb N e a w) {o:Oper} (hd:∀ s,o.dst=some s→s < N) {x:Oth} {ob:Obj} {r:D} {v:Value}
  (hx:∀ (ι':Imm) (j':Lay) (w':World),w'.heap[w.heap.size]?=some ob→zei ι' j' w' w.heap.size x) (hrun:(execOp a.eval o).run P w=.ok (.value v) (w.alloc ob)) (hv:∀ j':Lay,j' σ.next=some w.heap.size→Rep ι j' r v) :
  Did P N ι j own w o a (e.put o.dst ⟨false,r⟩) {σ with oth:=(σ.next,x) :: σ.oth,next:=σ.next + 1} :=
 zeg' hG hL hd (fun j' _=>hx _ _ _ (heap_alloc_new w _)) hrun hv
theorem zya (hG:GSim ι j own σ w) (hL:LSim ι j own lb N e a w) {o:Oper} {t:TypeId} (ho:o.op=.makeMap t none) (hd:∀ s,o.dst=some s→s < N) :
  Did P N ι j own w o a (e.put o.dst ⟨false,.map σ.next⟩) {σ with oth:=(σ.next,.map [] 0) :: σ.oth,next:=σ.next + 1}:=by
 refine zeg hG hL hd (ob:=.map #[] 0) (v:=.map (some w.heap.size)) (fun ι' j' w' h=>⟨[],h,by simp only [zao]⟩) ?_ (fun j' h=>by simp only [Rep]; exact ⟨_,h,rfl⟩)
 have hrun:(Instr.makeMap t none).run P w=.ok (.map (some w.heap.size)) (w.alloc (.map #[] 0)):=rfl
 simp only [execOp,ho,Option.map_none,Sem.run_bind,hrun,Result.andThen_ok,Sem.run_pure]
theorem zvc (hG:GSim ι j own σ w) (hL:LSim ι j own lb N e a w) {o:Oper} {t kt el:TypeId} {k:IntKind} {n:Int} (ho:o.op=.makeMap t (some (.const (.int k n)))) (ht:P.underlying t=some (.map kt el)) (hd:∀ s,o.dst=some s→s < N) :
  Did P N ι j own w o a (e.put o.dst ⟨false,.map σ.next⟩) {σ with oth:=(σ.next,.map [] 0) :: σ.oth,next:=σ.next + 1}:=by
 refine zeg hG hL hd (ob:=.map #[] 0) (v:=.map (some w.heap.size)) (fun ι' j' w' h=>⟨[],h,by simp only [zao]⟩) ?_ (fun j' h=>by simp only [Rep]; exact ⟨_,h,rfl⟩)
 have hc:a.eval (.const (.int k n))=.int k n:=rfl
 have hrun:(Instr.makeMap t (some (.int k n))).run P w=.ok (.map (some w.heap.size)) (w.alloc (.map #[] 0)):=by
  simp only [Instr.makeMap,Sem.run_bind,run_underlying ht,Result.andThen_ok,asInt,asIntOf,Sem.run_pure,run_newObj]
  rfl
 simp only [execOp,ho,Option.map_some,hc,Sem.run_bind,hrun,Result.andThen_ok,Sem.run_pure]
theorem wrap_i64 {n:Int} (h1:-9223372036854775808≤n) (h2:n≤9223372036854775807):IntKind.i64.wrap n=n:=by
 simp [IntKind.wrap,IntKind.bits,IntKind.signed]
 omega
theorem zqh (t ti ty el:TypeId) (i:TypeInfo) (z:Value) (kk:IntKind) (ht:P.underlying t=some (.slice el)) (hti:P.underlying ti=some (.int kk)) (hi:P.info? el=some i) (hz:i.zero=some z) (hsz:¬ i.size=0) (m:Nat) (hm:0 < m) (hm2:m≤1099511627776) (hmb:m * i.bytes≤1099511627776) :
  (Builtin.append_ #[t,ti] ty #[.slice none 0 0,.int .i64 m]).run P w =
   .ok (.slice (some ⟨w.heap.size,0,none⟩) m (grownCap w m 0 el)) (w.drew.alloc (.cells (Builtin.zeroCells z.cells m ++ Builtin.zeroCells z.cells (grownCap w m 0 el - m)) el)):=by
 have hfit:Builtin.nextslicecap m 0 * i.bytes≤281474976710656:=growslice_fits (by omega) (by omega)
 have hw:IntKind.i64.wrap (m:Int)=m:=wrap_i64 (by omega) (by omega)
 have h1:¬ ((m:Int) < 0):=by omega
 have h2:¬ (281474976710656 < (m:Int) * (i.bytes:Int)):=by omega
 have h3:m≠0:=by omega
 have h63':¬ (9223372036854775807 < (m:Int)):=by omega
 have h48':¬ (281474976710656 < Builtin.nextslicecap m 0 * i.bytes):=by omega
 simp [Builtin.append_,run_underlying ht,run_underlying hti,sizeOf,typeInfo,zeroValue,hi,hz,asInt,asIntOf,hw,h1,h2,h3,h63',h48',Question.forced,newRow,grownCap,hsz,Builtin.firstCells]
 intro h
 rcases Nat.mul_eq_zero.1 h with h | h
 ·exact absurd h h3
 ·exact absurd h hsz
theorem zeob (hG:GSim ι j own σ w) (hL:LSim ι j own lb N e a w) {o:Oper} {t ti:TypeId} {k:RowK} {by_:Nat} {x y:Operand} {x' y':AOpd} {z:List D} {zs:List Value} {c d:Cell} {m:Nat}
  (ho:o.op=.call {callee:=.builtin .append,args:=⟨[x,y]⟩,argTypes:=⟨[t,ti]⟩}) (hd:∀ s,o.dst=some s→s < N) (hk:okOpd x x'=true) (hk1:okOpd y y'=true)
  (ht:elemB P t=some k.el) (hti:intB P ti=some .i64) (hsz:sizeB P k.el=some k.sz) (hz:zeroB P k.el=some zs) (hzl:zs.length=k.sz) (hpos:0 < k.sz) (hby:zc7 P k.el=some by_) (hzr:zcb z zs=true)
  (hc:opd e x'=some c) (hcn:c.d=.nils) (hcd:opd e y'=some d) (hm:d.d=.int .i64 m) (hm0:0 < m) (hb1:m * by_≤bound) (hb2:m≤bound) :
  Did P N ι j own w o a (e.put o.dst ⟨false,.arr k σ.next 0 m⟩) (zav σ k (rowOf z m)):=by
 have hu:=zb0 ht
 obtain ⟨ie,zv,i1,i2,i3,i4⟩:=zi5 hsz hz
 have hby':ie.bytes=by_:=by simpa [zc7,i1] using hby
 have hx:=zah hL hk hc
 rw [hcn] at hx
 simp only [Rep] at hx
 have hy:=zah hL hk1 hcd
 rw [hm] at hy
 simp only [Rep] at hy
 have hb1':m * by_≤1099511627776:=hb1
 have hb2':m≤1099511627776:=hb2
 have hiu:P.underlying ti=some (.int .i64):=by
  unfold intB at hti
  split at hti
  ·rename_i k' hk'; cases hti; exact hk'
  ·cases hti
 have hrun:=zqh (P:=P) (w:=w) t ti o.type k.el ie zv .i64 hu hiu i1 i3 (by rw [i2]; omega) m hm0 hb2' (by rw [hby']; exact hb1')
 obtain ⟨z1,z2⟩:=zct ι j z zs hzr
 rw [zmi]
 have hvs:∀ v∈(List.replicate m zs).flatMap id,v.oneCell'=true:=by
  intro v hv
  obtain ⟨i,hi⟩:=List.getElem?_of_mem hv
  exact z2 v (List.mem_of_getElem? (zhf zs m i v hi).2)
 have hcells:zv.cells=zs.toArray:=by rw [← i4]
 have hcapge:m≤grownCap w m 0 k.el:=grownCap_ge w _ _ _
 have hcapmax:grownCap w m 0 k.el≤maxLen:=grownCap_le_maxLen w _ _ _ (by simp only [maxLen]; omega)
 obtain ⟨own',q1,q2⟩:=ziw hG (σ0:=σ) (fun _ _ h=>h) (fun _ _ h=>h) (fun _ _ h=>h) rfl (.inr rfl) (zmh z1 m) hvs (row:=Builtin.zeroCells zv.cells m ++ Builtin.zeroCells zv.cells (grownCap w m 0 k.el - m)) (fun n y hn=>by
  obtain ⟨q1,q2⟩:=zhf zs m n y hn
  rw [Array.getElem?_append_left (by rw [zd4 i4 hzl,← hzl]; exact q1)]
  unfold Builtin.zeroCells
  rw [hcells]
  simp only [Array.getElem?_map,Array.getElem?_range,List.size_toArray,q1,if_true,Option.map_some]
  rw [List.getElem!_toArray,List.getElem!_eq_getElem?_getD,q2]
  rfl) (c:=grownCap w m 0 k.el) (by
  rw [Array.size_append,zd4 i4 hzl,zd4 i4 hzl,← Nat.add_mul]
  congr 1
  omega) hcapmax
 refine zon hL hd q1 q2 (fun _ _ _ _ h=>h) (fun _ _ _=>⟨fun h=>h,fun _ _ _ _ h=>h⟩) hcapge hcapmax ?_
 simp only [execOp,ho,resolve,invoke,builtin,Sem.run_bind,Sem.run_pure,Result.andThen_ok,List.map_toArray,List.map_cons,List.map_nil,hx,hy,hrun]
theorem zh0b (hG:GSim ι j own σ w) (hL:LSim ι j own lb N e a w) {o:Oper} {t:TypeId} {x:Operand} {x':AOpd} {c:Cell} (ho:o.op=.call {callee:=.builtin .cap,args:=⟨[x]⟩,argTypes:=⟨[t]⟩}) (hd:∀ s,o.dst=some s→s < N) (hk:okOpd x x'=true)
  (ht:(elemB P t).isSome=true) (hc:opd e x'=some c) (hcn:c.d=.nils):Did P N ι j own w o a (e.put o.dst ⟨false,.int .i64 0⟩) σ:=by
 have hx:=zah hL hk hc
 rw [hcn] at hx
 simp only [Rep] at hx
 obtain ⟨el,hel⟩:=Option.isSome_iff_exists.1 ht
 have hu:=zb0 hel
 have hrun:(execOp a.eval o).run P w=.ok (.value (.int .i64 0)) w:=by
  simp only [execOp,ho,resolve,invoke,builtin,Sem.run_bind,Sem.run_pure,Result.andThen_ok,List.map_toArray,List.map_cons,List.map_nil,hx]
  simp [Builtin.cap_,run_underlying hu,goInt]
 refine ⟨_,_,_,hrun,.inl ⟨_,rfl,rfl⟩,ι,j,own,lb,hG,?_,Evo.refl _ _ _ _ _⟩
 cases hds:o.dst with
 | none=>exact hL
 | some s=>exact hL.putC (hd s hds) ⟨by simp only [Rep],fun h=>by cases h⟩
def zvw (P:Program) (g:FuncId):Bool:=match P.funcs[g]? with
 | some fn=>fn.name == "maps.clone" && fn.origin == "" && fn.body.isNone
 | none=>false
theorem zc9b {fn:Func} (h:fn.name= "maps.clone"):Extern.find fn=some Extern.MapsClone.clone:=by
 unfold Extern.find
 rw [h]
 have h1:Extern.allGenericRows.lookup "maps.clone"=none:=by kernel_rfl
 have h2:Extern.allTypedRows.lookup "maps.clone"=none:=by kernel_rfl
 have h3:Extern.allRows.lookup "maps.clone"=some Extern.MapsClone.clone:=by kernel_rfl
 simp only [h1,h2,h3]
 rfl
theorem zsm {fn:Func} (h:fn.name= "maps.clone") (h':fn.origin= ""):Extern.findNext fn=none:=by
 unfold Extern.findNext
 rw [h,h']
 have h1:Extern.allNextRows.lookup "maps.clone"=none:=by kernel_rfl
 have h2:Extern.allNextRows.lookup ""=none:=by kernel_rfl
 simp only [h1,h2]
 rfl
theorem zhwb {r:Nat} {es:Array MapEntry} {clock:Nat} (t:TypeId) (hb:w.heap[r]?=some (.map es clock)) :
  (Extern.MapsClone.clone #[.iface t (.map (some r))]).run P w=.ok (.iface t (.map (some w.heap.size))) (w.alloc (.map es clock)):=by
 have e:Extern.MapsClone.clone #[.iface t (.map (some r))]=(getObj r >>= fun o=>match o with
   | .map entries clock=>(newObj (.map entries clock) >>= fun n=>pure (.iface t (.map (some n))))
   | _=>stuck "maps.clone: a map expected"):=rfl
 have hg:(getObj r).run P w=.ok (.map es clock) w:=by simp [getObj,Sem.run,hb]
 rw [e]
 simp only [Sem.run_bind,hg,Result.andThen_ok,run_newObj,Sem.run_pure]
 rfl
theorem zajb (hG:GSim ι j own σ w) (hL:LSim ι j own lb N e a w) {o:Oper} {g:FuncId} {x:Operand} {y:AOpd} {ts:Array TypeId} {t id cl:Nat} {es:List (D × D × Nat)} {b:Bool} (ho:o.op=.call {callee:=.value (.func g),args:=⟨[x]⟩,argTypes:=ts}) (hg:zvw P g=true)
  (hd:∀ s,o.dst=some s→s < N) (hk:okOpd x y=true) (h1:opd e y=some ⟨b,.iface t (.map id)⟩) (h2:aget σ.oth id=some (.map es cl)) :
  Did P N ι j own w o a (e.put o.dst ⟨false,.iface t (.map σ.next)⟩) {σ with oth:=(σ.next,.map es cl) :: σ.oth,next:=σ.next + 1}:=by
 have hr:=zah hL hk h1
 simp only [Rep] at hr
 obtain ⟨v,hv,B,hB,rfl⟩:=hr
 obtain ⟨B',q1,q2,l,q3,q4⟩:=hG.oth id _ h2
 rw [hB] at q1
 cases q1
 unfold zvw at hg
 split at hg
 ·rename_i fn hfn
  simp only [Bool.and_eq_true,beq_iff_eq] at hg
  obtain ⟨⟨n1,n2⟩,n3⟩:=hg
  have hex:=run_callFunc_extern (P:=P) hfn (by rw [n1]; rfl) n3 (zsm n1 n2) (zc9b n1) #[.iface t (.map (some B))] w
  rw [zhwb t q3] at hex
  refine zeg' hG hL hd (x:=.map es cl) (ob:=.map ⟨l⟩ cl) (v:=.iface t (.map (some w.heap.size))) (fun j' hj'=>⟨l,heap_alloc_new w _,q4.mono (fun _ _ _ h=>h) hj'⟩) ?_ (fun j' h=>by simp only [Rep]; exact ⟨_,rfl,_,h,rfl⟩)
  have hev:a.eval (.func g)=.func (.func g) #[] #[]:=rfl
  have hargs:(#[]:Array Value) ++ Array.map a.eval ⟨[x]⟩ ++ #[]=#[.iface t (.map (some B))]:=by
   simp [hv]
  simp only [execOp,ho,resolve,hev,Deferred.ofValue,Sem.run_bind,Sem.run_pure,Result.andThen_ok,invoke]
  rw [hargs,hex]
  rfl
 ·cases hg
theorem zx8 (hG:GSim ι j own σ w) (hL:LSim ι j own lb N e a w) {o:Oper} {x:Operand} {y:AOpd} {t u:TypeId} {c:Cell} {d:D} (ho:o.op=.typeAssert x u t false) (hd:∀ s,o.dst=some s→s < N) (hk:okOpd x y=true) (ht:zd7 P t=some false)
  (h1:opd e y=some c) (h2:c.d=.iface t d):Did P N ι j own w o a (e.put o.dst ⟨false,d⟩) σ:=by
 have hr:=zah hL hk h1
 rw [h2] at hr
 simp only [Rep] at hr
 obtain ⟨v,hv,hrv⟩:=hr
 have ht:∃ d,P.underlying t=some d∧∀ m,d≠.interface m:=by
  cases hd:P.underlying t with
  | none=>unfold zd7 at ht; rw [hd] at ht; cases ht
  | some d =>
   refine ⟨d,rfl,fun m e=>?_⟩
   subst e
   unfold zd7 at ht
   rw [hd] at ht
   simp at ht
 obtain ⟨td,hu,hni⟩:=ht
 have hrun:(execOp a.eval o).run P w=.ok (.value v) w:=by
  simp only [execOp,ho,hv,Sem.run_bind]
  have:(Instr.typeAssert (.iface t v) u t false).run P w=.ok v w:=by
   cases td <;> simp [Instr.typeAssert,run_underlying hu,go_sem,Result.andThen] at hni ⊢
  rw [this]
  rfl
 refine ⟨_,_,_,hrun,.inl ⟨_,rfl,rfl⟩,ι,j,own,lb,hG,?_,Evo.refl _ _ _ _ _⟩
 cases hds:o.dst with
 | none=>exact hL
 | some s=>exact hL.putC (hd s hds) ⟨hrv,fun h=>by cases h⟩
theorem zro (hG:GSim ι j own σ w) {id B:Nat} {x y:Oth} {ob:Obj} (hid:aget σ.oth id=some x) (hB:j id=some B) (hown:own B=some (.obj id)) (hx:∀ w':World,w'.heap[B]?=some ob→zei ι j w' B y) {w':World} (hw':w'={w with heap:=w.heap.setIfInBounds B ob}) :
  GSim ι j own {σ with oth:=aset σ.oth id y} w'∧Evo ι j own w ι j own w' (fun t=>t=.obj id):=by
 obtain ⟨B',hB',_,hrel⟩:=hG.oth id x hid
 rw [hB] at hB'
 cases hB'
 have hBlt:=hrel.lt
 have hoth:∀ b,b≠B→w'.heap[b]?=w.heap[b]?:=fun b hb=>by
  rw [hw']
  simp [Array.getElem?_setIfInBounds_ne (Ne.symm hb)]
 have hnew:w'.heap[B]?=some ob:=by rw [hw']; simp [hBlt]
 have hE:Evo ι j own w ι j own w' (fun t=>t=.obj id):=by
  refine ⟨by rw [hw'],by rw [hw'],by rw [hw'],by rw [hw']; simp,fun _ _ _ h=>h,fun _ _ h=>h,fun b _ hb=>⟨hoth b (fun e=>hb _ (e ▸ hown) rfl),rfl,fun _=>rfl⟩⟩
 refine ⟨?_,hE⟩
 refine ⟨fun b o' v h=>?_,hG.noimm,fun id' cs h=>?_,fun id' t cs h1 h2 b hb=>?_,fun id' x' h=>?_,hG.jlt,fun b t h=>Nat.lt_of_lt_of_le (hG.ownlt b t h) hE.size⟩
 ·have hne:b≠B:=fun e=>by
   rw [e,hG.noimm B _ hown rfl o'] at h
   cases h
  rw [World.cell?_of_block (w:=w) (w':=w') (a:=⟨b,o',none⟩) (hoth b hne)]
  exact hG.holds b o' v h
 ·obtain ⟨B2,q1,q2,q3⟩:=hG.objs id' cs h
  have hne:B2≠B:=fun e=>by
   obtain ⟨vs,T,h1,_⟩:=q3
   rw [e] at h1
   exact hrel.notCells h1
  have hid':id'≠id:=fun e=>by
   subst e
   rw [hB] at q1
   cases q1
   exact hne rfl
  exact ⟨B2,q1,q2,hE.boxRel q2 (fun h=>by cases h; exact hid' rfl) (fun _ _ _ _ h=>by cases h) q3⟩
 ·have hty:=hG.tys id' t cs h1 h2 b hb
  have hne:b≠B:=fun e=>by
   obtain ⟨row,hrow,_⟩:=hty
   rw [e] at hrow
   exact hrel.notCells hrow
  exact hty.keep (hoth b hne) (fun _ _ h=>h)
 ·simp only [zak] at h
  by_cases hid':id=id'
  ·subst hid'
   rw [if_pos rfl] at h
   cases h
   exact ⟨B,hB,hown,hx w' hnew⟩
  ·rw [if_neg hid'] at h
   obtain ⟨B2,q1,q2,q3⟩:=hG.oth id' x' h
   have hne:B2≠B:=fun e=>by
    rw [e,hown] at q2
    cases q2
    exact hid' rfl
   exact ⟨B2,q1,q2,q3.keep (hoth B2 hne) (fun _ _ _ h=>h) (fun _ _ h=>h)⟩
theorem zex {B:Nat} {l l':List MapEntry} {c c':Nat} (h:w.heap[B]?=some (.map ⟨l⟩ c)):(setObj B (.map ⟨l'⟩ c')).run P w=.ok () {w with heap:=w.heap.setIfInBounds B (.map ⟨l'⟩ c')}:=by
 simp [setObj,Sem.run,h]
theorem zoe {ks:Bool} {k:D} {kv:Value} (hkd:keyD ks k=true) (hk:Rep ι j k kv):Instr.sameBits 10000 kv kv=true:=by
 cases k <;> simp only [keyD,Bool.false_eq_true] at hkd <;> simp only [Rep] at hk <;> subst hk
 ·simp [Instr.sameBits]
 ·rename_i s
  simp only [Instr.sameBits,ztu,beq_self_eq_true]
theorem zj5 (hG:GSim ι j own σ w) {d:D} {v:Value} {id:Nat} {es:List (D × D × Nat)} {c:Nat} (hr:Rep ι j d v) (h:mapAt σ.oth d=some (id,es,c)) :
  ∃ b l,d=.map id∧j id=some b∧own b=some (.obj id)∧v=.map (some b)∧aget σ.oth id=some (.map es c)∧w.heap[b]?=some (.map ⟨l⟩ c)∧zao ι j es l:=by
 cases d <;> simp only [mapAt,reduceCtorEq] at h
 case map id' =>
  obtain ⟨x,h1,h⟩:=zaa h
  cases x <;> simp only [reduceCtorEq,Option.some.injEq,Prod.mk.injEq] at h
  obtain ⟨rfl,rfl,rfl⟩:=h
  simp only [Rep] at hr
  obtain ⟨b,hb,hv⟩:=hr
  obtain ⟨b',q1,q2,l,q3,q4⟩:=hG.oth id' _ h1
  rw [hb] at q1
  cases q1
  exact ⟨b,l,rfl,hb,q2,hv,h1,q3,q4⟩
theorem zao.append:∀ {es:List (D × D × Nat)} {l:List MapEntry} {es':List (D × D × Nat)} {l':List MapEntry},zao ι j es l→zao ι j es' l'→zao ι j (es ++ es') (l ++ l')
 | [],l,es',l',h,h'=>by simp only [zao] at h; subst h; exact h'
 | (k,v,b) :: es,l,es',l',h,h'=>by
  simp only [zao] at h
  obtain ⟨e0,l0,rfl,h1,h2,h3,h5⟩:=h
  simp only [List.cons_append,zao]
  exact ⟨e0,_,rfl,h1,h2,h3,h5.append h'⟩
theorem zao.at:∀ {es:List (D × D × Nat)} {l:List MapEntry},zao ι j es l→∀ (n:Nat) (x:D × D × Nat),es[n]?=some x→∃ ent,l[n]?=some ent∧Rep ι j x.1 ent.key∧Rep ι j x.2.1 ent.val∧ent.born=x.2.2
 | [],l,_,n,x,h=>by simp at h
 | (k,v,b) :: es,l,h,n,x,hx=>by
  simp only [zao] at h
  obtain ⟨e0,l0,rfl,h1,h2,h3,h5⟩:=h
  cases n with
  | zero =>
   simp only [List.getElem?_cons_zero,Option.some.injEq] at hx
   subst hx
   exact ⟨e0,rfl,h1,h2,h3⟩
  | succ n=>simpa using zao.at h5 n x (by simpa using hx)
theorem zao.set:∀ {es:List (D × D × Nat)} {l:List MapEntry},zao ι j es l→∀ (n:Nat) (x:D × D × Nat) (ent:MapEntry),Rep ι j x.1 ent.key→Rep ι j x.2.1 ent.val→ent.born=x.2.2→zao ι j (es.set n x) (l.set n ent)
 | [],l,h,n,x,ent,_,_,_=>by simp only [zao] at h; subst h; simp [zao]
 | (k,v,b) :: es,l,h,n,x,ent,q1,q2,q3=>by
  simp only [zao] at h
  obtain ⟨e0,l0,rfl,h1,h2,h3,h5⟩:=h
  cases n with
  | zero =>
   obtain ⟨x1,x2,x3⟩:=x
   simp only [List.set_cons_zero,zao]
   exact ⟨ent,l0,rfl,q1,q2,q3,h5⟩
  | succ n =>
   simp only [List.set_cons_succ,zao]
   exact ⟨e0,_,rfl,h1,h2,h3,h5.set n x ent q1 q2 q3⟩
theorem zao.erase:∀ {es:List (D × D × Nat)} {l:List MapEntry},zao ι j es l→∀ (n:Nat),zao ι j (es.eraseIdx n) (l.eraseIdx n)
 | [],l,h,n=>by simp only [zao] at h; subst h; simp [zao]
 | (k,v,b) :: es,l,h,n=>by
  simp only [zao] at h
  obtain ⟨e0,l0,rfl,h1,h2,h3,h5⟩:=h
  cases n with
  | zero=>simpa using h5
  | succ n =>
   simp only [List.eraseIdx_cons_succ,zao]
   exact ⟨e0,_,rfl,h1,h2,h3,h5.erase n⟩
theorem zl5 {l:List MapEntry} {n:Nat} {ent:MapEntry} (h:l[n]?=some ent) (f:MapEntry→MapEntry):(⟨l⟩:Array MapEntry).modify n f=⟨l.set n (f ent)⟩:=by
 apply Array.ext'
 simp only [Array.toList_modify]
 apply List.ext_getElem?
 intro i
 rw [List.getElem?_modify,List.getElem?_set]
 by_cases hi:n=i
 ·subst hi
  rw [h]
  simp [(List.getElem?_eq_some_iff.1 h).1]
 ·simp [hi]
theorem zg3 (hG:GSim ι j own σ w) (hL:LSim ι j own lb N e a w) {o:Oper} (hd:∀ s,o.dst=some s→s < N) {id b:Nat} {es es':List (D × D × Nat)} {l l':List MapEntry} {c c':Nat} {r:D} {nx:Next} {v:Value} (hid:aget σ.oth id=some (.map es c)) (hB:j id=some b) (hown:own b=some (.obj id))
  (hE:zao ι j es' l') (hrun:(execOp a.eval o).run P w=.ok nx {w with heap:=w.heap.setIfInBounds b (.map ⟨l'⟩ c')}) (hnx:nx=.value v∨nx=.skip∧v=Go.undef) (hv:Rep ι j r v) :
  Did P N ι j own w o a (e.put o.dst ⟨false,r⟩) {σ with oth:=aset σ.oth id (.map es' c')}:=by
 obtain ⟨h4,h5⟩:=zro hG (y:=.map es' c') hid hB hown (fun w' h=>⟨l',h,hE⟩) rfl
 refine ⟨nx,_,a.put o.dst v,hrun,?_,ι,j,own,lb,h4,?_,h5.weaken fun _ _=>trivial⟩
 ·rcases hnx with rfl | ⟨rfl,rfl⟩
  ·exact .inl ⟨_,rfl,rfl⟩
  ·exact .inr (.inl ⟨rfl,rfl⟩)
 ·have hL':=hL.evo h5 (fun _ _ _ _ h=>by cases h) (fun _ _ _=>⟨(fun h=>by cases h),(fun _ _ _ _ h=>by cases h)⟩)
  cases hds:o.dst with
  | none=>exact hL'
  | some s=>exact hL'.putC (hd s hds) ⟨hv,fun h=>by cases h⟩
theorem zatb (hG:GSim ι j own σ w) (hL:LSim ι j own lb N e a w) {o:Oper} {ks:Bool} {t kt el:TypeId} {x i y:Operand} {x' i' y':AOpd} (ho:o.op=.mapUpdate t x i y∨o.op=.insert t x i y) (hd:∀ s,o.dst=some s→s < N)
  (hk:okOpd x x'=true) (hk1:okOpd i i'=true) (hk2:okOpd y y'=true) (ht:mapTB P t=some (kt,el)) (hkt:keyB P ks kt=true) {c k v:Cell} {id:Nat} {es:List (D × D × Nat)} {cl:Nat} {r:Option (D × Nat × Nat)}
  (h1:opd e x'=some c) (h2:opd e i'=some k) (h3:opd e y'=some v) (h4:mapAt σ.oth c.d=some (id,es,cl)) (h5:keyD ks k.d=true) (h6:findM k.d es=some r) :
  Did P N ι j own w o a (e.put o.dst ⟨false,.undef⟩) {σ with oth:=aset σ.oth id (caseO r (.map (es ++ [(k.d,v.d,cl)]) (cl + 1)) fun p=>.map (es.set p.2.2 (k.d,v.d,p.2.1)) cl)}:=by
 have hi:=zah hL hk1 h2
 have hy:=zah hL hk2 h3
 obtain ⟨b,l,_,hB,hown,hv,hid,hh,hE⟩:=zj5 hG (zah hL hk h1) h4
 have hu:=zf6 ht
 have hck:=zfh (P:=P) (w:=w) hkt h5 hi false
 have hfk:=zhl (P:=P) (w:=w) hkt h5 hi hE h6
 have hexec:∀ w',(Instr.mapUpdate t (a.eval x) (a.eval i) (a.eval y)).run P w=.ok () w'→(execOp a.eval o).run P w=.ok .skip w':=by
  intro w' h
  rcases ho with ho | ho <;> simp only [execOp,ho,Sem.run_bind,h,Result.andThen_ok,Sem.run_pure]
 cases r with
 | none =>
  simp only at hfk
  rw [za0]
  refine zg3 hG hL hd (l:=l) (c:=cl) (l':=l ++ [{key:=a.eval i,val:=a.eval y,born:=cl}]) (v:=Go.undef) hid hB hown (hE.append (by simp only [zao]; exact ⟨_,_,rfl,hi,hy,rfl,rfl⟩)) (hexec _ ?_) (.inr ⟨rfl,rfl⟩) (by simp only [Rep])
  rw [hv]
  simp only [Instr.mapUpdate,Sem.run_bind,run_underlying hu,Result.andThen_ok,zc6 hh,hck,hfk]
  have:(⟨l⟩:Array MapEntry).push {key:=a.eval i,val:=a.eval y,born:=cl}=⟨l ++ [{key:=a.eval i,val:=a.eval y,born:=cl}]⟩:=by
   apply Array.ext'
   simp
  rw [this,zex hh]
 | some p =>
  obtain ⟨d,bn,n⟩:=p
  obtain ⟨ent,q1,q2,q3,q4,q5,q6⟩:=hfk
  rw [zab]
  refine zg3 hG hL hd (l:=l) (c:=cl) (l':=l.set n {ent with key:=a.eval i,val:=a.eval y}) (v:=Go.undef) hid hB hown (hE.set n _ _ hi hy q4) (hexec _ ?_) (.inr ⟨rfl,rfl⟩) (by simp only [Rep])
  rw [hv]
  have hst:(Instr.keyThatStays (((((⟨l⟩:Array MapEntry)[n]?).map (·.key)).getD (a.eval i))) (a.eval i)).run P w=.ok (a.eval i) w:=by
   have hq:(⟨l⟩:Array MapEntry)[n]?=some ent:=by simpa using q2
   rw [hq]
   simp only [Option.map_some,Option.getD_some,q5,Instr.keyThatStays,zoe h5 hi,if_true,Sem.run_pure]
  simp only [Instr.mapUpdate,Sem.run_bind,run_underlying hu,Result.andThen_ok,zc6 hh,hck,q1,hst]
  rw [zl5 q2,zex hh]
theorem zalb (hG:GSim ι j own σ w) (hL:LSim ι j own lb N e a w) {o:Oper} {ks:Bool} {t tk kt el:TypeId} {x i:Operand} {x' i':AOpd} (ho:o.op=.call {callee:=.builtin .delete,args:=⟨[x,i]⟩,argTypes:=⟨[t,tk]⟩}) (hd:∀ s,o.dst=some s→s < N)
  (hk:okOpd x x'=true) (hk1:okOpd i i'=true) (ht:mapTB P t=some (kt,el)) (hkt:keyB P ks kt=true) {c k:Cell} {id:Nat} {es:List (D × D × Nat)} {cl:Nat} {r:Option (D × Nat × Nat)}
  (h1:opd e x'=some c) (h2:opd e i'=some k) (h4:mapAt σ.oth c.d=some (id,es,cl)) (h5:keyD ks k.d=true) (h6:findM k.d es=some r) :
  Did P N ι j own w o a (e.put o.dst ⟨false,.tup []⟩) {σ with oth:=aset σ.oth id (.map (caseO r es fun p=>es.eraseIdx p.2.2) cl)}:=by
 have hi:=zah hL hk1 h2
 obtain ⟨b,l,_,hB,hown,hv,hid,hh,hE⟩:=zj5 hG (zah hL hk h1) h4
 have hu:=zf6 ht
 have hck:=zfh (P:=P) (w:=w) hkt h5 hi l.isEmpty
 have hfk:=zhl (P:=P) (w:=w) hkt h5 hi hE h6
 have hexec:∀ w',(Builtin.delete_ #[t,tk] o.type #[a.eval x,a.eval i]).run P w=.ok (.tuple #[]) w'→(execOp a.eval o).run P w=.ok (.value (.tuple #[])) w':=by
  intro w' h
  simp only [execOp,ho,resolve,invoke,builtin,Sem.run_bind,Sem.run_pure,Result.andThen_ok,List.map_toArray,List.map_cons,List.map_nil,h]
 have hrep:Rep ι j (.tup []) (.tuple #[]):=by simp [Rep,RepL]
 cases r with
 | none =>
  simp only at hfk
  rw [za0]
  refine zg3 hG hL hd (l:=l) (c:=cl) (l':=l) hid hB hown hE (hexec _ ?_) (.inl rfl) hrep
  rw [hv]
  simp [Builtin.delete_,run_underlying hu,zc6 hh,hck,hfk,zex hh]
 | some p =>
  obtain ⟨d,bn,n⟩:=p
  obtain ⟨ent,q1,q2,q3,q4,q5,q6⟩:=hfk
  rw [zab]
  refine zg3 hG hL hd (l:=l) (c:=cl) (l':=l.eraseIdx n) hid hB hown (hE.erase n) (hexec _ ?_) (.inl rfl) hrep
  rw [hv]
  have:(⟨l⟩:Array MapEntry).eraseIdxIfInBounds n=⟨l.eraseIdx n⟩:=by
   apply Array.ext'
   simp [Array.eraseIdxIfInBounds,(List.getElem?_eq_some_iff.1 q2).1]
  simp [Builtin.delete_,run_underlying hu,zc6 hh,hck,q1,this,zex hh]
theorem zx0 {α:Type}:∀ (l:List α) (n:Nat) (x:α),l[n]?=some x→l.set n x=l
 | [],n,_,h=>by simp at h
 | y :: l,0,x,h=>by simp at h; subst h; rfl
 | y :: l,n + 1,x,h=>by simp only [List.set_cons_succ,zx0 l n x (by simpa using h)]
theorem zenb (hG:GSim ι j own σ w) (hL:LSim ι j own lb N e a w) {o:Oper} {ks:Bool} {z:D} {zv:Value} {t kt el:TypeId} {x i:Operand} {x' i':AOpd} (ho:o.op=.mapEntry t x i) (hd:∀ s,o.dst=some s→s < N)
  (hk:okOpd x x'=true) (hk1:okOpd i i'=true) (ht:mapTB P t=some (kt,el)) (hkt:keyB P ks kt=true) (hz:(P.info? el).bind (·.zero)=some zv) (hzc:za8 z zv=true) {c k:Cell} {id:Nat} {es:List (D × D × Nat)} {cl:Nat} {r:Option (D × Nat × Nat)}
  (h1:opd e x'=some c) (h2:opd e i'=some k) (h4:mapAt σ.oth c.d=some (id,es,cl)) (h5:keyD ks k.d=true) (h6:findM k.d es=some r) :
  Did P N ι j own w o a (e.put o.dst ⟨false,caseO r (.tup [z,.int .i64 cl]) (fun p=>.tup [p.1,.int .i64 p.2.1])⟩) {σ with oth:=aset σ.oth id (caseO r (.map (es ++ [(k.d,z,cl)]) (cl + 1)) fun _=>.map es cl)}:=by
 have hi:=zah hL hk1 h2
 obtain ⟨b,l,_,hB,hown,hv,hid,hh,hE⟩:=zj5 hG (zah hL hk h1) h4
 have hu:=zf6 ht
 have hzrep:=zfz ι j z zv hzc
 have hzrun:(zeroValue el).run P w=.ok zv w:=by
  cases hie:P.info? el with
  | none=>rw [hie] at hz; cases hz
  | some ie =>
   rw [hie] at hz
   simp only [Option.bind_some] at hz
   simp [zeroValue,typeInfo,hie,hz]
 have hck:=zfh (P:=P) (w:=w) hkt h5 hi false
 have hfk:=zhl (P:=P) (w:=w) hkt h5 hi hE h6
 have hexec:∀ v w',(Instr.mapEntry t (a.eval x) (a.eval i)).run P w=.ok v w'→(execOp a.eval o).run P w=.ok (.value v) w':=by
  intro v w' h
  simp only [execOp,ho,Sem.run_bind,h,Result.andThen_ok,Sem.run_pure]
 cases r with
 | none =>
  simp only at hfk
  rw [za0,za0]
  refine zg3 hG hL hd (l:=l) (c:=cl) (l':=l ++ [{key:=a.eval i,val:=zv,born:=cl}]) (v:=.tuple #[zv,.int .i64 cl]) hid hB hown (hE.append (by simp only [zao]; exact ⟨_,_,rfl,hi,hzrep,rfl,rfl⟩)) (hexec _ _ ?_) (.inl rfl) (by simp only [Rep,RepL]; exact ⟨_,rfl,_,_,rfl,hzrep,_,_,rfl,rfl,rfl⟩)
  rw [hv]
  have hp:(⟨l⟩:Array MapEntry).push {key:=a.eval i,val:=zv,born:=cl}=⟨l ++ [{key:=a.eval i,val:=zv,born:=cl}]⟩:=by
   apply Array.ext'
   simp
  simp only [Instr.mapEntry,Sem.run_bind,run_underlying hu,Result.andThen_ok,zc6 hh,hck,hfk,hzrun,hp,zex hh,Sem.run_pure,goInt]
 | some p =>
  obtain ⟨d,bn,n⟩:=p
  obtain ⟨ent,q1,q2,q3,q4,q5,q6⟩:=hfk
  rw [zab,zab]
  have hq:(⟨l⟩:Array MapEntry)[n]?=some ent:=by simpa using q2
  have hent:({ent with key:=a.eval i}:MapEntry)=ent:=by rw [← q5]
  refine zg3 hG hL hd (l:=l) (c:=cl) (l':=l) (v:=.tuple #[ent.val,.int .i64 bn]) hid hB hown hE (hexec _ _ ?_) (.inl rfl) (by simp only [Rep,RepL]; exact ⟨_,rfl,_,_,rfl,q3,_,_,rfl,rfl,rfl⟩)
  rw [hv]
  have hst:(Instr.keyThatStays ent.key (a.eval i)).run P w=.ok (a.eval i) w:=by
   simp only [q5,Instr.keyThatStays,zoe h5 hi,if_true,Sem.run_pure]
  have hm:(⟨l⟩:Array MapEntry).modify n (fun e=>{e with key:=a.eval i})=⟨l⟩:=by
   rw [zl5 q2,hent,zx0 l n ent q2]
  simp only [Instr.mapEntry,Sem.run_bind,run_underlying hu,Result.andThen_ok,zc6 hh,hck,q1,hq,Option.map_some,Option.getD_some,hst,hm,zex hh,q4,Sem.run_pure,goInt]
theorem zxz {b:Nat} {d:D} {v:Value} (hv:Rep ι j d v):∀ {es:List (D × D × Nat)} {l:List MapEntry},zao ι j es l→hasM b es=true→∃ n ent,l.findIdx? (fun e=>(e.born:Int) == (b:Int))=some n∧l[n]?=some ent∧zao ι j (setM b d es) (l.set n {ent with val:=v})
 | [],l,_,h=>by simp only [hasM,Bool.false_eq_true] at h
 | (k,x,b') :: es,l,hE,h=>by
  simp only [zao] at hE
  obtain ⟨e0,l0,rfl,h1,h2,h3,h5⟩:=hE
  simp only [hasM] at h
  cases hb:b' == b with
  | true =>
   have hbb:b'=b:=by simpa using hb
   refine ⟨0,e0,by simp [List.findIdx?_cons,h3,hbb],rfl,?_⟩
   simp only [setM,hb,zac,List.set_cons_zero,zao]
   exact ⟨_,l0,rfl,h1,hv,h3,h5⟩
  | false =>
   rw [hb,zad] at h
   obtain ⟨n,ent,q1,q2,q3⟩:=zxz hv h5 h
   have hne:((e0.born:Int) == (b:Int))=false:=by
    rw [h3]
    simp only [beq_eq_false_iff_ne,ne_eq] at hb ⊢
    omega
   refine ⟨n + 1,ent,by simp [List.findIdx?_cons,hne,q1],by simpa using q2,?_⟩
   simp only [setM,hb,zad,List.set_cons_succ,zao]
   exact ⟨e0,_,rfl,h1,h2,h3,q3⟩
theorem zr6 (hG:GSim ι j own σ w) (hL:LSim ι j own lb N e a w) {o:Oper} {t:TypeId} {x s y:Operand} {x' s' y':AOpd} (ho:o.op=.entryStore t x s y) (hd:∀ s,o.dst=some s→s < N)
  (hk:okOpd x x'=true) (hk1:okOpd s s'=true) (hk2:okOpd y y'=true) {c b v:Cell} {id bn:Nat} {es:List (D × D × Nat)} {cl:Nat}
  (h1:opd e x'=some c) (h2:opd e s'=some b) (h3:b.d.nat?=some bn) (h4:opd e y'=some v) (h5:mapAt σ.oth c.d=some (id,es,cl)) (h6:hasM bn es=true) :
  Did P N ι j own w o a (e.put o.dst ⟨false,.undef⟩) {σ with oth:=aset σ.oth id (.map (setM bn v.d es) cl)}:=by
 obtain ⟨k,hs⟩:=zfy h3 (zah hL hk1 h2)
 have hy:=zah hL hk2 h4
 obtain ⟨B,l,_,hB,hown,hv,hid,hh,hE⟩:=zj5 hG (zah hL hk h1) h5
 obtain ⟨n,ent,q1,q2,q3⟩:=zxz hy hE h6
 refine zg3 hG hL hd (l:=l) (c:=cl) (l':=l.set n {ent with val:=a.eval y}) (nx:=.skip) (v:=Go.undef) hid hB hown q3 ?_ (.inr ⟨rfl,rfl⟩) (by simp only [Rep])
 have hf:(⟨l⟩:Array MapEntry).findIdx? (fun e=>(e.born:Int) == (bn:Int))=some n:=by
  have:(l.toArray).findIdx? (fun e=>(e.born:Int) == (bn:Int))=l.findIdx? (fun e=>(e.born:Int) == (bn:Int)):=by simp
  exact this.trans q1
 simp only [execOp,ho,hv,hs,Instr.entryStore,Sem.run_bind,zc6 hh,Result.andThen_ok,asInt,asIntOf,Sem.run_pure,hf,zl5 q2,zex hh]
end
end Go.Mx
