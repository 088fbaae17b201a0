/-
 Arrays of the store: made,built,appended to,copied to,cleared.
-/
import Derived.Laws.MakeOwn
import Derived.Laws.CopyRow
import Derived.Test.YtieacpoabejcoaaGreatDoorMyMark
set_option linter.unusedSimpArgs false
set_option linter.unusedVariables false
set_option linter.unusedSectionVars false
namespace Go.Mx
open Go
section
variable [LoopKit] {P:Program} {ι:Imm} {j:Lay} {own:Own} {lb:Lay} {N:Nat} {e:Env} {a:Go.Act} {w:World} {σ:Store}
def zdm (j:Lay) (n b c:Nat):Lay:=fun i=>if i=n then some b else if i=n + 1 then some c else j i
theorem zq5 {n b c:Nat} (hj:∀ i b,j i=some b→i < n):∀ i x,j i=some x→zdm j n b c i=some x:=by
 intro i x h
 have:=hj i x h
 unfold zdm
 rw [if_neg (by omega),if_neg (by omega)]
 exact h
theorem zfj {n b c:Nat}:zdm j n b c n=some b∧zdm j n b c (n + 1)=some c:=by
 unfold zdm
 exact ⟨if_pos rfl,by rw [if_neg (by omega),if_pos rfl]⟩
theorem zvn {σ0:Store} {w':World} {own':Own} {TT:Tag→Prop} {b c:Nat} {k:RowK} {cs:List Cell} (hG:GSim ι j own σ w)
  (ho:∀ id cs,aget σ0.objs id=some cs→aget σ.objs id=some cs∧¬ TT (.obj id)∧∀ (i:Nat) (c:Cell),cs[i]?=some c→c.own=true→¬ TT (.ocell id i))
  (ht:∀ id t,aget σ0.tys id=some t→aget σ.tys id=some t) (hot:∀ id x,aget σ0.oth id=some x→aget σ.oth id=some x∧¬ TT (.obj id)) (hn:σ0.next=σ.next)
  (hE:Evo ι j own w ι (zdm j σ.next b c) own' w' TT) (hob:own' b=some (.obj σ.next)) (hlt:∀ b t,own' b=some t→b < w'.heap.size) (hno:∀ b t,own' b=some t→t.isBox=true→∀ o,ι b o=none)
  (hh:∀ b o v,ι b o=some v→w'.cell? ⟨b,o,none⟩=some v) (hbox:zcl ι (zdm j σ.next b c) own' w' b (.ocell σ.next) cs) {row:Array Value} (hrow:w'.heap[b]?=some (.cells row k.el (0,0))) (hsz:row.size=c * k.sz) (hmax:c≤maxLen) :
  GSim ι (zdm j σ.next b c) own' (zav σ0 k cs) w':=by
 have hjlt:=hG.jlt
 refine ⟨hh,hno,fun id ds h=>?_,fun id t ds h1 h2 b' hb=>?_,fun id x h=>?_,fun id b' h=>?_,hlt⟩
 ·simp only [zav,zat,hn] at h
  by_cases hid:σ.next=id
  ·rw [if_pos hid] at h
   cases h
   subst hid
   exact ⟨b,zfj.1,hob,hbox⟩
  ·rw [if_neg hid] at h
   obtain ⟨h,t1,t2⟩:=ho id ds h
   obtain ⟨B,q1,q2,q3⟩:=hG.objs id ds h
   have hlt:=hG.ownlt B _ q2
   exact ⟨B,hE.lay _ _ q1,(hE.block B hlt (fun t h=>by rw [q2] at h; cases h; exact t1)).2.1.trans q2,hE.boxRel q2 t1 t2 q3⟩
 ·simp only [zav,zat,hn] at h1 h2
  by_cases hid:σ.next=id
  ·rw [if_pos hid] at h1
   cases h1
   subst hid
   rw [zfj.1] at hb
   cases hb
   exact ⟨row,hrow,fun _=>⟨c,zfj.2,hsz,hmax⟩⟩
  ·rw [if_neg hid] at h1 h2
   obtain ⟨h2,t1,t2⟩:=ho id ds h2
   obtain ⟨B,q1,q2,q3⟩:=hG.objs id ds h2
   have hb':=hE.lay _ _ q1
   rw [hb] at hb'
   cases hb'
   have hty:=hG.tys id t ds (ht id t h1) h2 b' q1
   have hlt:=hG.ownlt b' _ q2
   exact hty.keep (hE.block b' hlt (fun t h=>by rw [q2] at h; cases h; exact t1)).1 hE.lay
 ·obtain ⟨h,t1⟩:=hot id x h
  obtain ⟨B,q1,q2,q3⟩:=hG.oth id x h
  obtain ⟨b1,b2,_⟩:=hE.block B q3.lt (fun t h=>by rw [q2] at h; cases h; exact t1)
  exact ⟨B,hE.lay _ _ q1,b2.trans q2,q3.keep b1 hE.imm hE.lay⟩
 ·simp only [zav,hn]
  by_cases h1:id=σ.next
  ·omega
  ·by_cases h2:id=σ.next + 1
   ·omega
   ·unfold zdm at h
    rw [if_neg h1,if_neg h2] at h
    have:=hjlt id b' h
    omega
theorem ziw (hG:GSim ι j own σ w) {σ0:Store} (ho:∀ id cs,aget σ0.objs id=some cs→aget σ.objs id=some cs) (ht:∀ id t,aget σ0.tys id=some t→aget σ.tys id=some t) (hot:∀ id x,aget σ0.oth id=some x→aget σ.oth id=some x) (hn:σ0.next=σ.next)
  {w':World} {row:Array Value} {k:RowK} {c:Nat} (hw:w'=w.alloc (.cells row k.el)∨w'=w.drew.alloc (.cells row k.el)) {ds:List D} {vs:List Value} (hr:RepL ι j ds vs) (h1:∀ x∈vs,x.oneCell'=true) (hcur:∀ (n:Nat) (y:Value),vs[n]?=some y→row[n]?=some y) (hsz:row.size=c * k.sz) (hmax:c≤maxLen) :
  ∃ own',GSim ι (zdm j σ.next w.heap.size c) own' (zav σ0 k (ds.map Cell.of)) w'∧Evo ι j own w ι (zdm j σ.next w.heap.size c) own' w' (fun _=>False):=by
 have hnew:w'.heap[w.heap.size]?=some (.cells row k.el (0,0)):=by
  rcases hw with rfl | rfl
  ·exact heap_alloc_new w _
  ·exact heap_alloc_new w.drew _
 have hold:∀ b,b < w.heap.size→w'.heap[b]?=w.heap[b]?:=by
  intro b hb
  rcases hw with rfl | rfl
  ·exact heap_alloc_old w _ hb
  ·exact heap_alloc_old w.drew _ hb
 have hlt':w.heap.size < w'.heap.size:=(Array.getElem?_eq_some_iff.1 hnew).1
 have hE:Evo ι j own w ι (zdm j σ.next w.heap.size c) (fun b=>if b=w.heap.size then some (.obj σ.next) else own b) w' (fun _=>False):=by
  refine ⟨by rcases hw with rfl | rfl <;> rfl,by rcases hw with rfl | rfl <;> rfl,by rcases hw with rfl | rfl <;> rfl,by omega,fun _ _ _ h=>h,zq5 hG.jlt,fun b hb _=>⟨hold b hb,if_neg (by omega),fun _=>rfl⟩⟩
 refine ⟨_,zvn hG (fun id cs h=>⟨ho id cs h,fun h=>h,fun _ _ _ _ h=>h⟩) ht (fun id x h=>⟨hot id x h,fun h=>h⟩) hn hE (if_pos rfl) (fun b t h=>?_) (fun b t h hb o=>?_) (fun b o v h=>?_) ?_ hnew hsz hmax,hE⟩
 ·by_cases hb:b=w.heap.size
  ·omega
  ·simp only [if_neg hb] at h
   have:=hG.ownlt b t h
   omega
 ·by_cases hb':b=w.heap.size
  ·cases hi:ι b o with
   | none=>rfl
   | some v=>have:=ze3 hG hi; omega
  ·simp only [if_neg hb'] at h
   exact hG.noimm b t h hb o
 ·have hb:=ze3 hG h
  rw [World.cell?_of_block (w:=w) (w':=w') (a:=⟨b,o,none⟩) (hold b hb)]
  exact hG.holds b o v h
 ·refine ⟨row.toList,k.el,hnew,?_,fun i cc hi=>?_⟩
  ·rw [List.length_map,← hr.length]
   apply Nat.le_of_not_lt
   intro hlt
   have hl:row.toList.length < vs.length:=hlt
   have:=hcur row.toList.length (vs[row.toList.length]'hl) (List.getElem?_eq_getElem hl)
   rw [← Array.getElem?_toList] at this
   have:=(List.getElem?_eq_some_iff.1 this).1
   omega
  ·rw [List.getElem?_map] at hi
   cases hd:ds[i]? with
   | none=>rw [hd] at hi; cases hi
   | some d =>
    rw [hd] at hi
    simp only [Option.map_some,Option.some.injEq] at hi
    subst hi
    obtain ⟨v,hv,hrv⟩:=hr.at i d hd
    exact ⟨v,by rw [Array.getElem?_toList]; exact hcur i v hv,h1 v (List.mem_of_getElem? hv),hE.rep hrv,fun h=>by cases h⟩
theorem zon (hL:LSim ι j own lb N e a w) {o:Oper} (hd:∀ s,o.dst=some s→s < N) {σ':Store} {w':World} {own':Own} {TT:Tag→Prop} {n b c len:Nat} {k:RowK} (hG':GSim ι (zdm j n b c) own' σ' w') (hE:Evo ι j own w ι (zdm j n b c) own' w' TT)
  (hs:∀ s c,aget e.slots s=some c→c.own=true→¬ TT (.slot s)) (hb:∀ s cs,aget e.boxes s=some cs→¬ TT (.box s)∧∀ (i:Nat) (c:Cell),cs[i]?=some c→c.own=true→¬ TT (.cell s i))
  (hle:len≤c) (hmax:c≤maxLen) (hrun:(execOp a.eval o).run P w=.ok (.value (.slice (some ⟨b,0,none⟩) len c)) w'):Did P N ι j own w o a (e.put o.dst ⟨false,.arr k n 0 len⟩) σ':=by
 refine ⟨_,w',_,hrun,.inl ⟨_,rfl,rfl⟩,ι,_,own',lb,hG',?_,hE.weaken fun _ _=>trivial⟩
 have hL':=hL.evo hE hs hb
 cases hds:o.dst with
 | none=>exact hL'
 | some s =>
  refine hL'.putC (hd s hds) ⟨?_,fun h=>by cases h⟩
  simp only [Rep]
  exact ⟨b,c,⟨b,0,none⟩,zfj.1,zfj.2,by omega,rfl,.inr (by rw [Nat.zero_mul])⟩
theorem zgq:∀ ds:List D,cellsOf ds=(ds.flatMap fun d=>d.cells).map Cell.of
 | []=>rfl
 | d :: ds=>by simp only [cellsOf,zgq ds,List.flatMap_cons,List.map_append]
theorem zjj {sz:Nat}:∀ {ds:List D} {us:List Value},zau sz ds=true→RepL ι j ds us→RepL ι j (ds.flatMap fun d=>d.cells) (flat us)
 | [],us,_,h=>by simp only [RepL] at h; subst h; simp [flat,RepL]
 | d :: ds,us,hs,h=>by
  simp only [RepL] at h
  obtain ⟨x,r,rfl,h1,h2⟩:=h
  simp only [zau,Bool.and_eq_true,beq_iff_eq] at hs
  obtain ⟨⟨hok,hn⟩,hs⟩:=hs
  have:=(h1.cellsRel hok).1.append (zjj hs h2)
  simpa [flat] using this
theorem zahb (hG:GSim ι j own σ w) (hL:LSim ι j own lb N e a w) {o:Oper} {t:TypeId} {k:RowK} {len:Nat} {parts:Array (Nat × Operand)} {qs:List AOpd} {zs:List Value} {ds:List D} (ho:o.op=.buildSlice t len parts)
  (hd:∀ s,o.dst=some s→s < N) (hk:okRow 0 parts.toList qs=true) (hlen:len=qs.length) (ht:elemB P t=some k.el) (hsz:sizeB P k.el=some k.sz) (hz:zeroB P k.el=some zs) (hzl:zs.length=k.sz) (hpos:0 < k.sz)
  (hds:opds e qs=some ds) (hall:zau k.sz ds=true) (hsm:ds.length * k.sz≤16777216):Did P N ι j own w o a (e.put o.dst ⟨false,.arr k σ.next 0 ds.length⟩) (zav σ k (cellsOf ds)):=by
 obtain ⟨xs,hx,hp⟩:=zn2 hL hk hds
 obtain ⟨x1,x2⟩:=ze6 hall hx
 obtain ⟨ie,z,i1,i2,i3,i4⟩:=zi5 hsz hz
 have hxl:=hx.length
 have hu:=zb0 ht
 have hparts:(parts.map fun (i,x)=>(i,a.eval x)).toList=(xs.zipIdx 0).map fun x=>(x.2,x.1):=by
  rw [← hp,Array.toList_map]
 have hzc:z.cells.size=ie.size:=by rw [← Array.length_toList,i4,hzl,i2]
 obtain ⟨cur,c1,c2,c3⟩:=zh6 (w:=w) t k.el xs _ ie z hu i1 i3 hzc (by omega) (by rw [i2]; exact x1) (by rw [hxl,i2]; exact hsm) hparts
 have hll:len=ds.length:=by rw [hlen,zko hds]
 rw [hxl] at c1
 have hmax:ds.length≤maxLen:=by
  have:ds.length≤ds.length * k.sz:=Nat.le_mul_of_pos_right _ hpos
  simp only [maxLen]
  omega
 rw [zgq]
 obtain ⟨own',k1,k2⟩:=ziw hG (σ0:=σ) (fun _ _ h=>h) (fun _ _ h=>h) (fun _ _ h=>h) rfl (.inl rfl) (zjj hall hx) x2 c3 (c:=ds.length) (by rw [c2,hxl,i2]) hmax
 refine zon hL hd k1 k2 (fun _ _ _ _ h=>h) (fun _ _ _=>⟨fun h=>h,fun _ _ _ _ h=>h⟩) (Nat.le_refl _) hmax ?_
 simp only [execOp,ho,hll,Sem.run_bind]
 rw [c1]
 rfl
theorem zmi (z:List D):∀ n,rowOf z n=((List.replicate n z).flatMap id).map Cell.of
 | 0=>rfl
 | n + 1=>by simp only [rowOf,zmi z n,List.replicate_succ,List.flatMap_cons,List.map_append,id]
theorem zmh {z:List D} {zs:List Value} (h:RepL ι j z zs):∀ n,RepL ι j ((List.replicate n z).flatMap id) ((List.replicate n zs).flatMap id)
 | 0=>by simp [RepL]
 | n + 1=>by
  simp only [List.replicate_succ,List.flatMap_cons,id]
  exact h.append (zmh h n)
theorem zhf {α:Type} (zs:List α):∀ (n i:Nat) (y:α),((List.replicate n zs).flatMap id)[i]?=some y→i < n * zs.length∧zs[i % zs.length]?=some y
 | 0,i,y,h=>by simp at h
 | n + 1,i,y,h=>by
  simp only [List.replicate_succ,List.flatMap_cons,id] at h
  by_cases hi:i < zs.length
  ·rw [List.getElem?_append_left hi] at h
   refine ⟨by rw [Nat.add_mul]; omega,?_⟩
   rw [Nat.mod_eq_of_lt hi]
   exact h
  ·rw [List.getElem?_append_right (by omega)] at h
   obtain ⟨h1,h2⟩:=zhf zs n (i - zs.length) y h
   refine ⟨by rw [Nat.add_mul]; omega,?_⟩
   rw [Nat.mod_eq_sub_mod (by omega)]
   exact h2
theorem zhp {α:Type} (zs:List α):∀ n,((List.replicate n zs).flatMap id).length=n * zs.length
 | 0=>by simp
 | n + 1=>by simp only [List.replicate_succ,List.flatMap_cons,id,List.length_append,zhp zs n,Nat.add_mul]; omega
theorem zeqb (hG:GSim ι j own σ w) (hL:LSim ι j own lb N e a w) {o:Oper} {t:TypeId} {k:RowK} {by_ l:Nat} {x y:Operand} {x' y':AOpd} {z:List D} {zs:List Value} {c d:Cell} (ho:o.op=.makeSlice t x y)
  (hd:∀ s,o.dst=some s→s < N) (hk:okOpd x x'=true) (hk1:okOpd y y'=true) (ht:elemB P t=some k.el) (hsz:sizeB P k.el=some k.sz) (hz:zeroB P k.el=some zs) (hzl:zs.length=k.sz) (hpos:0 < k.sz) (hzr:zcb z zs=true) (hby:zc7 P k.el=some by_)
  (hc:opd e x'=some c) (hcd:opd e y'=some d) (h1:c.d.nat?=some l) (h2:d.d.nat?=some l) (hb1:l * by_≤bound) (hb2:l≤bound):Did P N ι j own w o a (e.put o.dst ⟨false,.arr k σ.next 0 l⟩) (zav σ k (rowOf z l)):=by
 obtain ⟨k1,hx⟩:=zfy h1 (zah hL hk hc)
 obtain ⟨k2,hy⟩:=zfy h2 (zah hL hk1 hcd)
 obtain ⟨ie,zv,i1,i2,i3,i4⟩:=zi5 hsz hz
 have hu:=zb0 ht
 have hby':ie.bytes=by_:=by simpa [zc7,i1] using hby
 have hb1':l * by_≤1099511627776:=hb1
 have hb2':l≤1099511627776:=hb2
 have hrun:=run_make (P:=P) w t k.el ie zv hu i1 i3 k1 k2 l l (by omega) (by omega) (by rw [hby',Int.mul_comm]; have:((l * by_:Nat):Int)≤1099511627776:=by omega
                                                                                        rw [Int.natCast_mul] at this; omega) (by omega)
 simp only [Int.toNat_natCast] at hrun
 obtain ⟨z1,z2⟩:=zct ι j z zs hzr
 rw [zmi]
 have hvs:∀ v∈(List.replicate l zs).flatMap id,v.oneCell'=true:=by
  intro v hv
  obtain ⟨i,hi⟩:=List.getElem?_of_mem hv
  exact z2 v (List.mem_of_getElem? (zhf zs l i v hi).2)
 have hcells:zv.cells=zs.toArray:=by rw [← i4]
 obtain ⟨own',q1,q2⟩:=ziw hG (σ0:=σ) (fun _ _ h=>h) (fun _ _ h=>h) (fun _ _ h=>h) rfl (.inl rfl) (zmh z1 l) hvs (row:=madeCells zv.cells (l * ie.size)) (fun n y hn=>by
  obtain ⟨q1,q2⟩:=zhf zs l n y hn
  rw [i2,← hzl]
  unfold madeCells
  rw [hcells]
  simp only [Array.getElem?_map,Array.getElem?_range,q1,if_true,Option.map_some,List.size_toArray]
  have hlt:=(List.getElem?_eq_some_iff.1 q2).1
  rw [List.getElem!_toArray,List.getElem!_eq_getElem?_getD,q2]
  rfl) (c:=l) (by rw [size_madeCells,i2]) (by simp only [maxLen]; omega)
 refine zon hL hd q1 q2 (fun _ _ _ _ h=>h) (fun _ _ _=>⟨fun h=>h,fun _ _ _ _ h=>h⟩) (Nat.le_refl _) (by simp only [maxLen]; omega) ?_
 simp only [execOp,ho,hx,hy,Sem.run_bind]
 rw [hrun]
 rfl
theorem zoj (hG:GSim ι j own σ w) (hL:LSim ι j own lb N e a w) {o:Oper} {t:TypeId} {k:RowK} {by_:Nat} {x y:Operand} {x' y':AOpd} {zs:List Value} {c d:Cell} {ys:List D} {r:D × Store}
  (ho:o.op=.call {callee:=.builtin .append,args:=⟨[x,y]⟩,argTypes:=⟨[t,t]⟩}) (hd:∀ s,o.dst=some s→s < N) (hk:okOpd x x'=true) (hk1:okOpd y y'=true)
  (ht:elemB P t=some k.el) (hsz:sizeB P k.el=some k.sz) (hz:zeroB P k.el=some zs) (hzl:zs.length=k.sz) (hpos:0 < k.sz) (hby:zc7 P k.el=some by_)
  (hc:opd e x'=some c) (hcd:opd e y'=some d) (hys:listOf σ.objs d.d=some ys) (hr:zbr σ k by_ c.d ys=some r):Did P N ι j own w o a (e.put o.dst ⟨false,r.1⟩) r.2:=by
 unfold zbr at hr
 obtain ⟨hall,hr⟩:=zae hr
 have hu:=zb0 ht
 obtain ⟨us,hyu,hus,hu1,hsrc⟩:=zq8 hG hu (zah hL hk1 hcd) hys hall
 obtain ⟨ie,z,i1,i2,i3,i4⟩:=zi5 hsz hz
 have hby':ie.bytes=by_:=by simpa [zc7,i1] using hby
 have hx:=zah hL hk hc
 rw [← i2] at hsrc
 have hul:=hyu.length
 have hfl:(flat us).length=ys.length * k.sz:=by rw [zb6 hus,hul]
 have hexec:∀ v w',(Builtin.append_ #[t,t] o.type #[a.eval x,a.eval y]).run P w=.ok v w'→(execOp a.eval o).run P w=.ok (.value v) w':=by
  intro v w' h
  simp only [execOp,ho,resolve,invoke,builtin,Sem.run_bind,Sem.run_pure,Result.andThen_ok,List.map_toArray,List.map_cons,List.map_nil,h]
 -- nothing happens
 have same:∀ {base:Option Addr} {sLen sCap:Nat},a.eval x=.slice base sLen sCap→sLen≤sCap→ys=[]→(execOp a.eval o).run P w=.ok (.value (a.eval x)) w:=by
  intro base sLen sCap hv hle hye
  refine hexec _ _ ?_
  rw [hv]
  subst hye
  have hu0:us=[]:=by simpa only [RepL] using hyu
  subst hu0
  exact zj7 (P:=P) (w:=w) t t o.type k.el ie hu i1 base sLen sCap hle _ hsrc
 have stay:∀ {base:Option Addr},a.eval x=.slice base 0 0→ys=[]→r=(c.d,σ)→Did P N ι j own w o a (e.put o.dst ⟨false,r.1⟩) r.2:=by
  rintro base hv hye rfl
  refine ⟨_,w,_,same hv (Nat.le_refl _) hye,.inl ⟨_,rfl,rfl⟩,ι,j,own,lb,hG,?_,Evo.refl _ _ _ _ _⟩
  cases hds:o.dst with
  | none=>exact hL
  | some s=>exact hL.putC (hd s hds) ⟨hx,fun h=>by cases h⟩
 -- it grows
 have grow:∀ {base:Option Addr} {n cap:Nat} {ds:List D} {vs:List Value} {σ0:Store},a.eval x=.slice base n cap→(Builtin.firstCells ie.size n (.slice base n cap)).run P w.drew=.ok vs.toArray w.drew→RepL ι j ds vs→(∀ x∈vs,x.oneCell'=true)→vs.length=n * k.sz→n≤cap→¬ n + ys.length≤cap →
   (∀ id cs,aget σ0.objs id=some cs→aget σ.objs id=some cs)→σ0.tys=σ.tys→σ0.oth=σ.oth→σ0.next=σ.next→(n + ys.length) * by_≤bound→n + ys.length≤bound →
   Did P N ι j own w o a (e.put o.dst ⟨false,.arr k σ.next 0 (n + ys.length)⟩) (zav σ0 k (ds.map Cell.of ++ cellsOf ys)):=by
  intro base n cap ds vs σ0 hv hfirst hds h1 hvl hle hroom s1 s2 s3 s4 hb1 hb2
  have hb1':(n + ys.length) * by_≤1099511627776:=hb1
  have hb2':n + ys.length≤1099511627776:=hb2
  have hfit:Builtin.nextslicecap (n + ys.length) cap * ie.bytes≤281474976710656:=growslice_fits (by omega) (by rw [hby']; omega)
  have hcapge:n + ys.length≤grownCap w (n + ys.length) cap k.el:=grownCap_ge w _ _ _
  have hcapmax:grownCap w (n + ys.length) cap k.el≤maxLen:=grownCap_le_maxLen w _ _ _ (by simp only [maxLen]; omega)
  have hrun:=hexec _ _ (by
   rw [hv]
   exact run_append_grow_src (P:=P) w t t o.type k.el ie z hu i1 i3 base n cap vs hfirst _ ys.length (flat us) hsrc (by omega) (by omega) hfit)
  have hrep:RepL ι j (ds ++ ys.flatMap fun d=>d.cells) (vs ++ flat us):=hds.append (zjj hall hyu)
  have hcells:ds.map Cell.of ++ cellsOf ys=(ds ++ ys.flatMap fun d=>d.cells).map Cell.of:=by rw [zgq,List.map_append]
  rw [hcells]
  obtain ⟨own',q1,q2⟩:=ziw hG (σ0:=σ0) s1 (fun id t h=>by rw [← s2]; exact h) (fun id x h=>by rw [← s3]; exact h) s4 (.inr rfl) hrep (fun x hx=>by
   rcases List.mem_append.1 hx with h | h
   ·exact h1 x h
   ·exact hu1 x h) (row:=(vs ++ flat us).toArray ++ Builtin.zeroCells z.cells (grownCap w (n + ys.length) cap k.el - (n + ys.length))) (fun i y hi=>by
   have hlt:=(List.getElem?_eq_some_iff.1 hi).1
   rw [Array.getElem?_append_left (by simpa using hlt)]
   simpa using hi) (c:=grownCap w (n + ys.length) cap k.el) (by
   rw [Array.size_append,zd4 i4 hzl,List.size_toArray,List.length_append,hfl,hvl,← Nat.add_mul,← Nat.add_mul]
   congr 1
   omega) hcapmax
  exact zon hL hd q1 q2 (fun _ _ _ _ h=>h) (fun _ _ _=>⟨fun h=>h,fun _ _ _ _ h=>h⟩) hcapge hcapmax hrun
 have fresh:∀ {base:Option Addr},a.eval x=.slice base 0 0→ys≠[]→ys.length * by_≤bound→ys.length≤bound→Did P N ι j own w o a (e.put o.dst ⟨false,.arr k σ.next 0 ys.length⟩) (zav σ k (cellsOf ys)):=by
  intro base hv hye hb1 hb2
  have hl:0 < ys.length:=List.length_pos_iff.2 hye
  have:=grow (ds:=[]) (vs:=[]) (σ0:=σ) hv (by
   cases base with
   | none=>exact run_firstCells_none _ _ _ _ _
   | some ad=>exact run_firstCells_some (P:=P) w.drew ie.size 0 ad 0 0 [] (by simp) (by simp)) (by simp only [RepL]) (by simp) (by simp) (Nat.le_refl 0) (by omega) (fun _ _ h=>h) rfl rfl rfl (by simpa using hb1) (by simpa using hb2)
  simpa using this
 cases hcd':c.d with
 | nils =>
  rw [hcd'] at hr
  have hv:a.eval x=.slice none 0 0:=by rw [hcd'] at hx; simpa only [Rep] using hx
  simp only at hr
  cases he:ys.isEmpty with
  | true =>
   rw [he,zac] at hr
   simp only [Option.some.injEq] at hr
   exact stay hv (List.isEmpty_iff.1 he) (by rw [hcd']; exact hr.symm)
  | false =>
   rw [he,zad] at hr
   obtain ⟨hb,hr⟩:=zae hr
   cases hr
   simp only [Bool.and_eq_true,decide_eq_true_eq] at hb
   exact fresh hv (by rintro rfl; cases he) hb.1 hb.2
 | empt =>
  rw [hcd'] at hr
  obtain ⟨ad,hv⟩:∃ ad,a.eval x=.slice ad 0 0:=by rw [hcd'] at hx; simpa only [Rep] using hx
  simp only at hr
  cases he:ys.isEmpty with
  | true =>
   rw [he,zac] at hr
   simp only [Option.some.injEq] at hr
   exact stay hv (List.isEmpty_iff.1 he) (by rw [hcd']; exact hr.symm)
  | false =>
   rw [he,zad] at hr
   obtain ⟨hb,hr⟩:=zae hr
   cases hr
   simp only [Bool.and_eq_true,decide_eq_true_eq] at hb
   exact fresh hv (by rintro rfl; cases he) hb.1 hb.2
 | arr k' id off n =>
  rw [hcd'] at hr
  simp only at hr
  obtain ⟨cs,h1,hr⟩:=zaa hr
  obtain ⟨ty,h2,hr⟩:=zaa hr
  obtain ⟨hb,hr⟩:=zae hr
  cases hr
  simp only [Bool.and_eq_true,decide_eq_true_eq,beq_iff_eq] at hb
  obtain ⟨⟨⟨⟨⟨⟨b1,b2⟩,b3⟩,b4⟩,b5⟩,b6⟩,b7⟩:=hb
  subst b4
  have b1:=RowK.same_eq b1
  rw [hcd'] at hx
  simp only [Rep] at hx
  obtain ⟨b,cap,ad,r1,r2,r3,hv,r4⟩:=hx
  obtain ⟨r3,_⟩:=r3
  rw [Nat.zero_add] at r3
  rw [Nat.sub_zero] at hv
  obtain ⟨B,q1,q2,q3⟩:=hG.objs id cs h1
  rw [r1] at q1
  cases q1
  obtain ⟨row,hrow,hcap⟩:=hG.tys id ty cs h2 h1 b r1
  obtain ⟨cap',hc1,hrs,hmax⟩:=hcap (by omega)
  rw [r2] at hc1
  cases hc1
  rw [b2] at hrow
  rw [b3] at hrs
  obtain ⟨vs,T,g1,g2,g3,g4⟩:=q3.dats
  rw [hrow] at g1
  simp only [Option.some.injEq,Obj.cells.injEq,and_true] at g1
  obtain ⟨rfl,rfl⟩:=g1
  have hrs':vs.length=cap * k.sz:=hrs
  have hcl:=g3.length
  simp only [List.length_map] at hcl
  have g3':RepL ι j ((cs.take (n * k.sz)).map fun c=>c.d) (vs.take (n * k.sz)):=RepL.of (by simp; omega) fun i dd hi=>by
   rw [List.getElem?_map,List.getElem?_take] at hi
   split at hi
   ·rename_i hlt
    obtain ⟨v,k1,k2⟩:=g3.at i dd (by rw [List.getElem?_map]; exact hi)
    rw [List.getElem?_take] at k1
    split at k1
    ·exact ⟨v,by rw [List.getElem?_take,if_pos hlt]; exact k1,k2⟩
    ·cases k1
   ·cases hi
  have hmap:(cs.take (n * k.sz)).map (fun c=>Cell.of c.d)=((cs.take (n * k.sz)).map fun c=>c.d).map Cell.of:=by simp only [List.map_map,Function.comp_def]
  have hone:∀ x∈vs.take (n * k.sz),x.oneCell'=true:=fun x hx=>by
   refine g4 x ?_
   have:vs.take (n * k.sz)=(vs.take cs.length).take (n * k.sz):=by rw [List.take_take,Nat.min_eq_left b5]
   rw [this] at hx
   exact List.mem_of_mem_take hx
  by_cases hroom:n + ys.length≤cap
  · -- in place
   have hjn:∀ i b,j i=some b→i < σ.next:=hG.jlt
   have ze1:∀ {w':World} {ad':Addr} {row':Array Value},(execOp a.eval o).run P w=.ok (.value (.slice (some ad') (n + ys.length) cap)) w'→(0=cap∨ad'=⟨b,0,none⟩)→w'=w.setRow b row'→row'.size=cap * k.sz →
     (∀ (i:Nat) (y:Value),(vs.take (n * k.sz) ++ flat us)[i]?=some y→row'[i]?=some y) →
     Did P N ι j own w o a (e.put o.dst ⟨false,.arr k σ.next 0 (n + ys.length)⟩) (zav {σ with objs:=adel1 σ.objs id} k ((cs.take (n * k.sz)).map (fun c=>Cell.of c.d) ++ cellsOf ys)):=by
    intro w' ad' row' hrun had hw' hsize hat
    have hnew:w'.heap[b]?=some (.cells row' k.el (0,0)):=hw' ▸ setRow_heap w b _ _ k.el (0,0) hrow
    have hoth:∀ b',b'≠b→w'.heap[b']?=w.heap[b']?:=fun b' hb'=>hw' ▸ setRow_other w b b' _ hb'
    have hws:w'.heap.size=w.heap.size:=by rw [hw']; simp [World.setRow]
    have hE:Evo ι j own w ι (zdm j σ.next b cap) (fun x=>if x=b then some (.obj σ.next) else own x) w' (fun t=>t=.obj id):=by
     refine ⟨by rw [hw']; rfl,by rw [hw']; rfl,by rw [hw']; rfl,by omega,fun _ _ _ h=>h,zq5 hG.jlt,fun b' _ hb'=>?_⟩
     have hne:b'≠b:=fun e=>hb' _ (e ▸ q2) rfl
     exact ⟨hoth b' hne,if_neg hne,fun _=>rfl⟩
    rw [hmap,zgq,← List.map_append]
    have hrep:RepL ι (zdm j σ.next b cap) (((cs.take (n * k.sz)).map fun c=>c.d) ++ ys.flatMap fun d=>d.cells) (vs.take (n * k.sz) ++ flat us):=hE.repL (g3'.append (zjj hall hyu))
    have hG':=zvn (σ0:={σ with objs:=adel1 σ.objs id}) (b:=b) (c:=cap) (k:=k) (cs:=(((cs.take (n * k.sz)).map fun c=>c.d) ++ ys.flatMap fun d=>d.cells).map Cell.of) hG (fun id' cs' h=>by
      simp only [zam] at h
      split at h
      ·cases h
      ·rename_i hne
       exact ⟨h,fun h=>by cases h; exact hne rfl,fun _ _ _ _ h=>by cases h⟩) (fun _ _ h=>h) (fun id' x h=>⟨h,fun hh=>by
      cases hh
      obtain ⟨B,k1,_,k3⟩:=hG.oth id x h
      rw [r1] at k1
      cases k1
      exact k3.notCells hrow⟩) rfl hE (if_pos rfl) (fun b' t h=>by
      by_cases hb':b'=b
      ·subst hb'
       rw [hws]
       exact hG.ownlt b' _ q2
      ·simp only [if_neg hb'] at h
       rw [hws]
       exact hG.ownlt b' t h) (fun b' t h hb' o'=>by
      by_cases hbb:b'=b
      ·subst hbb
       exact hG.noimm b' _ q2 rfl o'
      ·simp only [if_neg hbb] at h
       exact hG.noimm b' t h hb' o') (fun b' o' v h=>by
      have hne:b'≠b:=fun e=>by
       rw [e,hG.noimm b _ q2 rfl o'] at h
       cases h
      rw [World.cell?_of_block (w:=w) (w':=w') (a:=⟨b',o',none⟩) (hoth b' hne)]
      exact hG.holds b' o' v h) ⟨row'.toList,k.el,hnew,by
       have hl1:=hrep.length
       rw [List.length_map,← hl1]
       apply Nat.le_of_not_lt
       intro hlt
       have:=hat row'.toList.length _ (List.getElem?_eq_getElem hlt)
       rw [← Array.getElem?_toList] at this
       have:=(List.getElem?_eq_some_iff.1 this).1
       omega,fun i cc hi=>by
       rw [List.getElem?_map] at hi
       cases hdd:(((cs.take (n * k.sz)).map fun c=>c.d) ++ ys.flatMap fun d=>d.cells)[i]? with
       | none=>rw [hdd] at hi; cases hi
       | some dd =>
        rw [hdd] at hi
        simp only [Option.map_some,Option.some.injEq] at hi
        subst hi
        obtain ⟨v,hv',hrv⟩:=hrep.at i dd hdd
        exact ⟨v,by rw [Array.getElem?_toList]; exact hat i v hv',(by
         rcases List.mem_append.1 (List.mem_of_getElem? hv') with h | h
         ·exact hone v h
         ·exact hu1 v h),hrv,fun h=>by cases h⟩⟩ hnew hsize hmax
    refine ⟨_,w',_,hrun,.inl ⟨_,rfl,rfl⟩,ι,_,_,lb,hG',?_,hE.weaken fun _ _=>trivial⟩
    have hL':=hL.evo hE (fun _ _ _ _ h=>by cases h) (fun _ _ _=>⟨(fun h=>by cases h),(fun _ _ _ _ h=>by cases h)⟩)
    cases hds:o.dst with
    | none=>exact hL'
    | some s =>
     refine hL'.putC (hd s hds) ⟨?_,fun h=>by cases h⟩
     simp only [Rep]
     refine ⟨b,cap,ad',zfj.1,zfj.2,by omega,rfl,?_⟩
     rw [Nat.zero_mul]
     exact had
   rcases r4 with h0 | rfl
   · -- no room at all,and nothing to append
    have hn0:n=0:=by omega
    have hy0:ys=[]:=List.eq_nil_of_length_eq_zero (by omega)
    have hrun:=same hv r3 hy0
    rw [hv] at hrun
    subst hn0 hy0
    have hu0:us=[]:=by simpa only [RepL] using hyu
    subst hu0
    have:=ze1 (w':=w) (ad':=ad) (row':=⟨vs⟩) hrun (.inl h0) (setRow_self w b ⟨vs⟩ k.el (0,0) hrow).symm hrs (fun i y hi=>by simp [flat] at hi)
    simpa using this
   ·have hfit':n * k.sz + (flat us).length≤(⟨vs⟩:Array Value).size:=by
     show _≤vs.length
     rw [hfl,hrs',← Nat.add_mul]
     exact Nat.mul_le_mul_right _ hroom
    rw [Nat.zero_mul] at hv
    have hrun:=hexec _ _ (by
     rw [hv]
     exact zob (P:=P) t t o.type k.el k.el ie hu i1 b n cap ⟨vs⟩ hrow _ ys.length (flat us) hsrc hroom (by rw [i2]; exact hfit'))
    have hfit2:n * k.sz + (flat us).length≤vs.length:=hfit'
    refine ze1 hrun (.inr rfl) (by rw [i2]) (row':=(vs.take (n * k.sz) ++ flat us ++ vs.drop (n * k.sz + (flat us).length)).toArray) ?_ (fun i y hi=>?_)
    ·rw [← hrs']
     simp only [List.size_toArray,List.length_append,List.length_take,List.length_drop]
     omega
    ·have hlt:=(List.getElem?_eq_some_iff.1 hi).1
     rw [List.getElem?_toArray,List.getElem?_append_left hlt]
     exact hi
  · -- it grows
   rw [hmap]
   refine grow (base:=some ad) (vs:=vs.take (n * k.sz)) hv ?_ g3' hone (by rw [List.length_take,hrs']; exact Nat.min_eq_left (Nat.mul_le_mul_right _ r3)) r3 hroom (fun id' cs' h=>?_) rfl rfl rfl b6 b7
   ·have hvl:(vs.take (n * k.sz)).length=n * ie.size:=by rw [List.length_take,hrs',i2]; exact Nat.min_eq_left (Nat.mul_le_mul_right _ r3)
    refine run_firstCells_some (P:=P) w.drew ie.size n ad n cap _ hvl (fun i u hi=>?_)
    rcases r4 with h0 | rfl
    ·have hn0:n=0:=by omega
     subst hn0
     simp at hi
    ·rw [Nat.zero_mul,Addr.add_lit,Nat.zero_add]
     have hdrew:w.drew.cell? ⟨b,i,none⟩=w.cell? ⟨b,i,none⟩:=rfl
     rw [hdrew,cell_of_row w b i _ _ (0,0) hrow]
     rw [List.getElem?_take] at hi
     split at hi
     ·simpa using hi
     ·cases hi
   ·simp only [zam] at h
    split at h
    ·cases h
    ·exact h
 | _=>rw [hcd'] at hr; simp only [reduceCtorEq] at hr
theorem zgtb (hG:GSim ι j own σ w) {d:D} {v:Value} {sz:Nat} {ys:List D} (hr:Rep ι j d v) (hy:listOf σ.objs d=some ys) (hall:zau sz ys=true) :
  ∃ ad cap us,v=.slice ad ys.length cap∧RepL ι j ys us∧(∀ x∈us,x.cells.size=sz)∧(∀ u∈flat us,u.oneCell'=true)∧(ys=[]∨∃ b o,ad=some ⟨b,o,none⟩∧∀ (n:Nat) (u:Value),(flat us)[n]?=some u→w.cell? ⟨b,o + n,none⟩=some u):=by
 have main:∀ {d':D},asList d'=some ys→Rep ι j d' v→∃ ad cap us,v=.slice ad ys.length cap∧RepL ι j ys us∧(∀ x∈us,x.cells.size=sz)∧(∀ u∈flat us,u.oneCell'=true)∧(ys=[]∨∃ b o,ad=some ⟨b,o,none⟩∧∀ (n:Nat) (u:Value),(flat us)[n]?=some u→w.cell? ⟨b,o + n,none⟩=some u):=by
  intro d' hy hr
  obtain ⟨ady,capy,us,hyv,hyu,hus,hu1,hyl⟩:=zt3 hr hy hall
  exact ⟨ady,capy,us,hyv,hyu,hus,hu1,hyl.imp id fun ⟨b,o,h1,h2⟩=>⟨b,o,h1,fun n u h=>hG.holds _ _ _ (h2 n u h)⟩⟩
 cases d with
 | arr k id off len =>
  simp only [listOf] at hy
  obtain ⟨cs,hc,hy⟩:=zaa hy
  obtain ⟨hb,hy⟩:=zae hy
  cases hy
  simp only [Bool.and_eq_true,decide_eq_true_eq] at hb
  obtain ⟨b,us,e1,_,e2,e3,e4⟩:=znh hG hb.1 hc hb.2
  obtain ⟨s1,s2⟩:=ze6 hall e2
  simp only [Rep] at hr
  obtain ⟨b',c,ad,r1,r2,r3,rfl,r4⟩:=hr
  rw [e1] at r1
  cases r1
  refine ⟨some ad,c - off,us,by rw [e3],e2,s1,s2,?_⟩
  rcases r4 with rfl | rfl
  ·have hlen:len=0:=by omega
   exact .inl (List.eq_nil_of_length_eq_zero (by omega))
  ·exact .inr ⟨b,_,rfl,e4⟩
 | _=>simp only [listOf] at hy; exact main hy hr
theorem zg9b (hG:GSim ι j own σ w) {id B off:Nat} {cs:List Cell} {ds:List D} {us:List Value} (hcs:aget σ.objs id=some cs) (hB:j id=some B) (hr:RepL ι j ds us) (h1:∀ x∈us,x.oneCell'=true) (hle:off + ds.length≤cs.length) :
  ∃ (cur:Array Value) (T:TypeId),w.heap[B]?=some (.cells cur T (0,0))∧off + us.length≤cur.size∧GSim ι j own {σ with objs:=aset σ.objs id (zan cs off (ds.map Cell.of))} (w.setRow B (cur.toList.take off ++ us ++ cur.toList.drop (off + us.length)).toArray) ∧
   Evo ι j own w ι j own (w.setRow B (cur.toList.take off ++ us ++ cur.toList.drop (off + us.length)).toArray) (fun u=>u=.obj id):=by
 obtain ⟨B',hB',hown,hbox⟩:=hG.objs id cs hcs
 rw [hB] at hB'
 cases hB'
 have hlen:=hr.length
 obtain ⟨cur,T,hcur,hfit,hnew⟩:=zin hbox (us:=us) (new:=ds.map Cell.of) (off:=off) (by simpa using hle) (by simpa using hlen) (fun i c' hi=>by
  rw [List.getElem?_map] at hi
  cases hd:ds[i]? with
  | none=>rw [hd] at hi; cases hi
  | some d =>
   rw [hd] at hi
   simp only [Option.map_some,Option.some.injEq] at hi
   subst hi
   obtain ⟨u,q1,q2⟩:=hr.at i d hd
   exact ⟨u,q1,h1 u (List.mem_of_getElem? q1),q2,fun how=>by cases how⟩) (fun i c' u hi how h w' hw'=>zdq (by rw [hown]; intro h; cases h) hw' h)
 refine ⟨cur,T,hcur,hfit,?_⟩
 generalize hw':w.setRow B _=w' at hnew
 have hE2:Evo ι j own w ι j own w' (fun u=>u=.obj id):=hw' ▸ ziz hcur _ hown
 refine ⟨?_,hE2⟩
 refine ⟨fun b' o' v h=>?_,hG.noimm,fun id' cs' h=>?_,fun id' t' cs' h1 h2 b' hb'=>?_,fun id' x' h=>?_,hG.jlt,fun b' u h=>Nat.lt_of_lt_of_le (hG.ownlt b' u h) hE2.size⟩
 ·have hne:b'≠B:=fun e=>by
   rw [e,hG.noimm B _ hown rfl o'] at h
   cases h
  rw [← hw',cell_setRow_other w B _ _ hne]
  exact hG.holds b' o' v h
 ·simp only [zak] at h
  by_cases hid:id=id'
  ·subst hid
   rw [if_pos rfl] at h
   cases h
   exact ⟨B,hB,hown,hnew⟩
  ·rw [if_neg hid] at h
   obtain ⟨B2,q1,q2,q3⟩:=hG.objs id' cs' h
   exact ⟨B2,q1,q2,hE2.boxRel q2 (fun h=>by cases h; exact hid rfl) (fun _ _ _ _ h=>by cases h) q3⟩
 ·have hex:∃ cs0,aget σ.objs id'=some cs0:=by
   simp only [zak] at h2
   split at h2
   ·rename_i hh; subst hh; exact ⟨cs,hcs⟩
   ·exact ⟨cs',h2⟩
  obtain ⟨cs0,hcs0⟩:=hex
  have hty:=hG.tys id' t' cs0 h1 hcs0 b' hb'
  by_cases hbB:b'=B
  ·subst hbB
   obtain ⟨row,hrow,hsz⟩:=hty
   have hrc:=hrow
   rw [hcur] at hrc
   cases hrc
   refine ⟨_,hw' ▸ setRow_heap w b' _ _ t'.t (0,0) hrow,fun h0=>?_⟩
   obtain ⟨c0,e1,e2,e3⟩:=hsz h0
   refine ⟨c0,e1,?_,e3⟩
   rw [← e2]
   simp only [List.size_toArray,List.length_append,List.length_take,List.length_drop,Array.length_toList]
   omega
  ·exact hty.keep (by rw [← hw',setRow_other w B b' _ hbB]) (fun _ _ h=>h)
 ·obtain ⟨B2,q1,q2,q3⟩:=hG.oth id' x' h
  have hbB:B2≠B:=fun e=>by
   subst e
   exact q3.notCells hcur
  exact ⟨B2,q1,q2,q3.keep (by rw [← hw',setRow_other w B B2 _ hbB]) (fun _ _ _ h=>h) (fun _ _ h=>h)⟩
theorem zre (hG:GSim ι j own σ w) (hL:LSim ι j own lb N e a w) {o:Oper} (hd:∀ s,o.dst=some s→s < N) {id B off:Nat} {cs:List Cell} {ds:List D} {us:List Value} (hcs:aget σ.objs id=some cs) (hB:j id=some B) (hr:RepL ι j ds us) (h1:∀ x∈us,x.oneCell'=true) (hle:off + ds.length≤cs.length)
  {r:D} {v:Value} (hv:Rep ι j r v) (hrun:∀ (cur:Array Value) (T:TypeId),w.heap[B]?=some (.cells cur T (0,0))→off + us.length≤cur.size→(execOp a.eval o).run P w=.ok (.value v) (w.setRow B (cur.toList.take off ++ us ++ cur.toList.drop (off + us.length)).toArray)) :
  Did P N ι j own w o a (e.put o.dst ⟨false,r⟩) {σ with objs:=aset σ.objs id (zan cs off (ds.map Cell.of))}:=by
 obtain ⟨cur,T,h2,h3,h4,h5⟩:=zg9b hG hcs hB hr h1 hle
 refine ⟨_,_,_,hrun cur T h2 h3,.inl ⟨_,rfl,rfl⟩,ι,j,own,lb,h4,?_,h5.weaken fun _ _=>trivial⟩
 have hL':=hL.evo h5 (fun _ _ _ _ h=>by cases h) (fun _ _ _=>⟨(fun h=>by cases h),(fun _ _ _ _ h=>by cases h)⟩)
 cases hds:o.dst with
 | none=>exact hL'
 | some s=>exact hL'.putC (hd s hds) ⟨hv,fun h=>by cases h⟩
theorem znf (hG:GSim ι j own σ w) (hL:LSim ι j own lb N e a w) {o:Oper} (hd:∀ s,o.dst=some s→s < N) {r:D} {v:Value} (hv:Rep ι j r v) (hrun:(execOp a.eval o).run P w=.ok (.value v) w):Did P N ι j own w o a (e.put o.dst ⟨false,r⟩) σ:=by
 refine ⟨_,_,_,hrun,.inl ⟨_,rfl,rfl⟩,ι,j,own,lb,hG,?_,Evo.refl _ _ _ _ _⟩
 cases hds:o.dst with
 | none=>exact hL
 | some s=>exact hL.putC (hd s hds) ⟨hv,fun h=>by cases h⟩
theorem RepL.take (n:Nat) {ds:List D} {vs:List Value} (h:RepL ι j ds vs):RepL ι j (ds.take n) (vs.take n):=RepL.of (by simp [h.length]) fun i d hi=>by
 rw [List.getElem?_take] at hi ⊢
 split at hi
 ·rename_i hlt; rw [if_pos hlt]; exact h.at i d hi
 ·cases hi
theorem zm4 {sz:Nat}:∀ {ds:List D} (n:Nat),zau sz ds=true→zau sz (ds.take n)=true
 | [],n,_=>by simp [zau]
 | d :: ds,0,_=>by simp [zau]
 | d :: ds,n + 1,h=>by
  simp only [List.take_succ_cons,zau,Bool.and_eq_true] at h ⊢
  exact ⟨h.1,zm4 n h.2⟩
theorem znl {sz:Nat}:∀ {us:List Value} (n:Nat),(∀ x∈us,x.cells.size=sz)→flat (us.take n)=(flat us).take (n * sz)
 | [],n,_=>by simp [flat]
 | u :: us,0,_=>by simp [flat]
 | u :: us,n + 1,h=>by
  have ih:=znl (us:=us) n fun x hx=>h x (by simp [hx])
  have hu:=h u (by simp)
  simp only [flat,List.take_succ_cons,List.flatMap_cons] at ih ⊢
  rw [ih,List.take_append,Array.length_toList,hu,List.take_of_length_le (l:=u.cells.toList) (by rw [Array.length_toList,hu,Nat.add_mul]; omega),Nat.add_mul,Nat.one_mul,Nat.add_sub_cancel]
theorem zemb (hG:GSim ι j own σ w) (hL:LSim ι j own lb N e a w) {o:Oper} {t t' el el':TypeId} {sz:Nat} {x y:Operand} {x' y':AOpd} {c d:Cell} {ys:List D} {r:Nat × Store}
  (ho:o.op=.call {callee:=.builtin .copy,args:=⟨[x,y]⟩,argTypes:=⟨[t,t']⟩}) (hd:∀ s,o.dst=some s→s < N) (hk:okOpd x x'=true) (hk1:okOpd y y'=true)
  (ht:elemB P t=some el) (ht':elemB P t'=some el') (hsz:sizeB P el=some sz)
  (hc:opd e x'=some c) (hcd:opd e y'=some d) (hys:listOf σ.objs d.d=some ys) (hr:zvx σ sz c.d ys=some r):Did P N ι j own w o a (e.put o.dst ⟨false,.int .i64 r.1⟩) r.2:=by
 have hu:=zb0 ht
 have hx:=zah hL hk hc
 have hy:=zah hL hk1 hcd
 obtain ⟨ie,i1,i2⟩:∃ ie,P.info? el=some ie∧ie.size=sz:=by
  simp only [sizeB,Option.map_eq_some_iff] at hsz
  exact hsz
 have hexec:∀ v w',(Builtin.copy_ #[t,t'] o.type #[a.eval x,a.eval y]).run P w=.ok v w'→(execOp a.eval o).run P w=.ok (.value v) w':=by
  intro v w' h
  simp only [execOp,ho,resolve,invoke,builtin,Sem.run_bind,Sem.run_pure,Result.andThen_ok,List.map_toArray,List.map_cons,List.map_nil,h]
 -- nothing is copied
 have none0:∀ {base:Option Addr} {dLen dCap n':Nat},a.eval x=.slice base dLen dCap→(∃ ad cap,a.eval y=.slice ad n' cap)→Nat.min n' dLen=0→Did P N ι j own w o a (e.put o.dst ⟨false,.int .i64 (0:Nat)⟩) σ:=by
  rintro base dLen dCap n' hv ⟨ad,cap,hyv⟩ hmin
  refine znf hG hL hd (v:=.int .i64 (0:Nat)) (by simp only [Rep]) (hexec _ _ ?_)
  rw [hv,hyv]
  have hfirst:(Builtin.firstCells ie.size 0 (.slice ad n' cap)).run P w=.ok (#[]:Array Value) w:=by
   cases ad with
   | none=>exact run_firstCells_none _ _ _ _ _
   | some ad=>exact run_firstCells_some (P:=P) w ie.size 0 ad n' cap [] (by simp) (by simp)
  cases base <;> simp [Builtin.copy_,run_underlying hu,Builtin.lenOf,sizeOf,typeInfo,i1,hmin,hfirst,storeCells,goInt]
 unfold zvx at hr
 have hyslice:∃ ad cap,a.eval y=.slice ad ys.length cap:=by
  have main:∀ {d':D},asList d'=some ys→Rep ι j d' (a.eval y)→∃ ad cap,a.eval y=.slice ad ys.length cap:=by
   intro d' hyy hrr
   clear hr hys
   cases d' <;> simp only [asList,reduceCtorEq,Option.some.injEq] at hyy <;> subst hyy <;> simp only [Rep] at hrr
   ·exact ⟨none,0,hrr⟩
   ·obtain ⟨ad,cap,hv,_⟩:=hrr
    exact ⟨ad,cap,hv⟩
   ·obtain ⟨ad,hv⟩:=hrr
    exact ⟨ad,0,hv⟩
  cases hdd:d.d with
  | arr k id off len =>
   rw [hdd] at hys hy
   simp only [listOf] at hys
   obtain ⟨cs,hcs,hys⟩:=zaa hys
   obtain ⟨hb,hys⟩:=zae hys
   cases hys
   simp only [Bool.and_eq_true,decide_eq_true_eq] at hb
   obtain ⟨b,us,e1,_,e2,e3,e4⟩:=znh hG hb.1 hcs hb.2
   simp only [Rep] at hy
   obtain ⟨b',c,ad,r1,r2,r3,hv,r4⟩:=hy
   exact ⟨some ad,c - off,by rw [e3]; exact hv⟩
  | _=>rw [hdd] at hys hy; simp only [listOf] at hys; exact main hys hy
 cases hcd':c.d with
 | nils =>
  rw [hcd'] at hr hx
  simp only [Option.some.injEq] at hr
  subst hr
  simp only [Rep] at hx
  exact none0 hx hyslice (by simp)
 | empt =>
  rw [hcd'] at hr hx
  simp only [Option.some.injEq] at hr
  subst hr
  simp only [Rep] at hx
  obtain ⟨ad,hx⟩:=hx
  exact none0 hx hyslice (by simp)
 | arr k id off len =>
  rw [hcd'] at hr hx
  simp only at hr
  obtain ⟨cs,h1,hr⟩:=zaa hr
  obtain ⟨hb,hr⟩:=zae hr
  cases hr
  simp only [Bool.and_eq_true,beq_iff_eq,decide_eq_true_eq] at hb
  obtain ⟨⟨b1,b2⟩,b3⟩:=hb
  obtain ⟨ady,capy,us,hyv,hyu,hus,hu1,hyl⟩:=zgtb hG hy hys b2
  simp only [Rep] at hx
  obtain ⟨b,cc,ad,r1,r2,r3,hv,r4⟩:=hx
  rw [zgq]
  have hfr:=zjj (zm4 len b2) (hyu.take len)
  have hone:∀ x∈flat (us.take len),x.oneCell'=true:=fun x hx=>by
   rw [znl len hus] at hx
   exact hu1 x (List.mem_of_mem_take hx)
  have hul:=hyu.length
  have hfl:(flat (us.take len)).length=min len ys.length * sz:=by
   rw [zb6 (sz:=sz) (fun x hx=>hus x (List.mem_of_mem_take hx)),List.length_take,hul]
  have hdl:=hfr.length
  rw [Nat.add_mul] at b3
  refine zre hG hL hd h1 r1 hfr hone ?_ (v:=.int .i64 ((min len ys.length:Nat):Int)) (by simp only [Rep]) (fun cur T hcur hfit=>hexec _ _ ?_)
  ·rw [← hdl,hfl]
   have:min len ys.length * sz≤len * sz:=Nat.mul_le_mul_right _ (Nat.min_le_left _ _)
   omega
  ·have hmin:Nat.min ys.length len=min len ys.length:=Nat.min_comm _ _
   have hfirst:(Builtin.firstCells ie.size (min len ys.length) (.slice ady ys.length capy)).run P w=.ok (flat (us.take len)).toArray w:=by
    rcases hyl with rfl | ⟨b',o',rfl,hat⟩
    ·have hu0:us=[]:=by simpa only [RepL] using hyu
     subst hu0
     cases ady with
     | none=>simpa [flat] using run_firstCells_none (P:=P) w ie.size (min len 0) 0 capy
     | some ad=>simpa [flat] using run_firstCells_some (P:=P) w ie.size (min len 0) ad 0 capy [] (by simp) (by simp)
    ·refine run_firstCells_some (P:=P) w ie.size _ ⟨b',o',none⟩ _ capy _ (by rw [hfl,i2]) (fun n u hn=>?_)
     rw [Addr.add_lit]
     rw [znl len hus,List.getElem?_take] at hn
     split at hn
     ·exact hat n u hn
     ·cases hn
   rw [hv,hyv]
   rcases r4 with h0 | rfl
   ·have hlen:len=0:=by omega
    subst hlen
    simp only [Nat.zero_min] at hfirst hmin
    simp only [List.take_zero] at hfirst ⊢
    have hf0:(flat ([]:List Value))=[]:=rfl
    rw [hf0] at hfirst ⊢
    simp [Builtin.copy_,run_underlying hu,Builtin.lenOf,sizeOf,typeInfo,i1,hfirst,storeCells,goInt]
    exact (setRow_self w b cur T (0,0) hcur).symm
   ·have hst:=run_storeCells_at (P:=P) b (off * k.sz) T (flat (us.take len)) 0 cur w hcur (by rw [b1]; simpa using hfit) hone
    simp only [Nat.add_zero] at hst
    rw [b1] at hst
    simp [Builtin.copy_,run_underlying hu,Builtin.lenOf,sizeOf,typeInfo,i1,hmin,hfirst,b1,hst,goInt]
 | _=>rw [hcd'] at hr; simp only [reduceCtorEq] at hr
theorem zaib (hG:GSim ι j own σ w) (hL:LSim ι j own lb N e a w) {o:Oper} {t el:TypeId} {sz:Nat} {x:Operand} {x':AOpd} {z:List D} {zs:List Value} {c:Cell} {σ':Store}
  (ho:o.op=.call {callee:=.builtin .clear,args:=⟨[x]⟩,argTypes:=⟨[t]⟩}) (hd:∀ s,o.dst=some s→s < N) (hk:okOpd x x'=true)
  (ht:elemB P t=some el) (hsz:sizeB P el=some sz) (hz:zeroB P el=some zs) (hzr:zcb z zs=true)
  (hc:opd e x'=some c) (hr:zg2 σ sz z c.d=some σ'):Did P N ι j own w o a (e.put o.dst ⟨false,.tup []⟩) σ':=by
 have hu:=zb0 ht
 have hx:=zah hL hk hc
 have hexec:∀ v w',(Builtin.clear_ #[t] o.type #[a.eval x]).run P w=.ok v w'→(execOp a.eval o).run P w=.ok (.value v) w':=by
  intro v w' h
  simp only [execOp,ho,resolve,invoke,builtin,Sem.run_bind,Sem.run_pure,Result.andThen_ok,List.map_toArray,List.map_cons,List.map_nil,h]
 have hrep:Rep ι j (.tup []) (.tuple #[]):=by simp [Rep,RepL]
 unfold zg2 at hr
 cases hcd':c.d with
 | nils =>
  rw [hcd'] at hr hx
  simp only [Option.some.injEq] at hr
  subst hr
  simp only [Rep] at hx
  refine znf hG hL hd hrep (hexec _ _ ?_)
  rw [hx]
  simp [Builtin.clear_,run_underlying hu]
 | empt =>
  rw [hcd'] at hr hx
  simp only [Option.some.injEq] at hr
  subst hr
  simp only [Rep] at hx
  obtain ⟨ad,hx⟩:=hx
  refine znf hG hL hd hrep (hexec _ _ ?_)
  rw [hx]
  cases ad <;> simp [Builtin.clear_,run_underlying hu]
 | arr k oid off len =>
  rw [hcd'] at hr hx
  simp only at hr
  obtain ⟨cs,h1,hr⟩:=zaa hr
  obtain ⟨hb,hr⟩:=zae hr
  cases hr
  simp only [Bool.and_eq_true,beq_iff_eq,decide_eq_true_eq] at hb
  obtain ⟨⟨b1,b2⟩,b3⟩:=hb
  simp only [Rep] at hx
  obtain ⟨b,cc,ad,r1,r2,r3,hv,r4⟩:=hx
  obtain ⟨z1,z2⟩:=zct ι j z zs hzr
  have hzl:zs.length=sz:=by rw [z1.length,b2]
  rw [zmi]
  have hone:∀ v∈(List.replicate len zs).flatMap id,v.oneCell'=true:=by
   intro v hv
   obtain ⟨i,hi⟩:=List.getElem?_of_mem hv
   exact z2 v (List.mem_of_getElem? (zhf zs len i v hi).2)
  rw [Nat.add_mul] at b3
  refine zre hG hL hd h1 r1 (zmh z1 len) hone (by rw [zhp,b2]; exact b3) hrep (fun cur T hcur hfit=>hexec _ _ ?_)
  rw [hv]
  by_cases hl0:len=0
  ·subst hl0
   simp [Builtin.clear_,run_underlying hu]
   exact (setRow_self w b cur T (0,0) hcur).symm
  ·rcases r4 with h0 | rfl
   ·omega
   ·obtain ⟨zv,q1,q2⟩:=zh8 (P:=P) (w:=w) hz
    have hst:=run_storeCells_at (P:=P) b (off * k.sz) T ((List.replicate len zs).flatMap id) 0 cur w hcur (by rw [b1]; simpa using hfit) hone
    simp only [Nat.add_zero] at hst
    rw [b1] at hst
    have hzc:(Builtin.zeroCells zv.cells len).toList=(List.replicate len zs).flatMap id:=by
     apply List.ext_getElem?
     intro i
     rw [Array.getElem?_toList]
     unfold Builtin.zeroCells
     rw [q2]
     have hszs:(⟨zs⟩:Array Value).size=zs.length:=rfl
     simp only [Array.getElem?_map,hszs]
     by_cases hi:i < len * zs.length
     ·have hlt:i < ((List.replicate len zs).flatMap id).length:=by rw [zhp]; exact hi
      rw [List.getElem?_eq_getElem hlt]
      obtain ⟨_,h2⟩:=zhf zs len i _ (List.getElem?_eq_getElem hlt)
      rw [Array.getElem?_range,if_pos hi,Option.map_some,List.getElem!_toArray,List.getElem!_eq_getElem?_getD,h2]
      rfl
     ·rw [List.getElem?_eq_none (by rw [zhp]; omega),Array.getElem?_range,if_neg hi]
      rfl
    obtain ⟨n,rfl⟩:∃ n,len=n + 1:=⟨len - 1,by omega⟩
    generalize (List.replicate (n + 1) zs).flatMap id=L at hst hzc ⊢
    simp only [Builtin.clear_,b1]
    simp [run_underlying hu,q1,hzc,hst]
 | _=>rw [hcd'] at hr; simp only [reduceCtorEq] at hr
end
end Go.Mx
