/-
 What a step leaves of the machine's state and the world's: slots,boxes,marks.
-/
import Derived.Test.YtieacpoabejcoaaGreatDoorMyOps3
set_option linter.unusedSimpArgs false
set_option linter.unusedVariables false
set_option linter.unusedSectionVars false
namespace Go.Mx
open Go
theorem zid {a:Go.Act} {s:Nat} {x:Value} (h:s < a.tmps.size):(a.put (some s) x).tmps.getD s Go.undef=x:=by
 simp [Act.put,Array.getD,h]
theorem zdt {a:Go.Act} {s t:Nat} {x:Value} (h:s≠t):(a.put (some s) x).tmps.getD t Go.undef=a.tmps.getD t Go.undef:=by
 simp only [Act.put,Array.getD_eq_getD_getElem?]
 rw [Array.getElem?_setIfInBounds_ne h]
theorem zql {a:Go.Act} {d:Option Nat} {x:Value}:(a.put d x).tmps.size=a.tmps.size:=by
 cases d <;> simp [Act.put]
theorem zlv {a:Go.Act} {d:Option Nat} {x:Value}:(a.put d x).defers=a.defers:=by
 cases d <;> rfl
def zbk (cs cs0:List Cell):Prop:=cs.length=cs0.length∧∀ (i:Nat) (c:Cell),cs[i]?=some c→∃ c0,cs0[i]?=some c0∧c0.d=c.d∧(c.own=true→c0.own=true)
theorem zbk.refl (cs:List Cell):zbk cs cs:=⟨rfl,fun _ c h=>⟨c,h,rfl,id⟩⟩
section
variable [LoopKit] {P:Program} {ι ι':Imm} {j j':Lay} {own own':Own} {lb:Lay} {N:Nat} {e:Env} {a:Go.Act} {w w':World} {σ:Store} {TT:Tag→Prop}
theorem zcw.weaken {t:Tag} {c c0:Cell} {v:Value} (h:zcw ι j own w t c0 v) (hd:c0.d=c.d) (ho:c.own=true→c0.own=true):zcw ι j own w t c v :=
 ⟨hd ▸ h.1,fun x=>hd ▸ h.2 (ho x)⟩
theorem zcl.weaken {b:Nat} {mk:Nat→Tag} {cs cs0:List Cell} (h:zcl ι j own w b mk cs0) (hw:zbk cs cs0):zcl ι j own w b mk cs:=by
 obtain ⟨vs,T,h1,h2,h3⟩:=h
 refine ⟨vs,T,h1,by rw [hw.1]; exact h2,fun i c hi=>?_⟩
 obtain ⟨c0,k1,k2,k3⟩:=hw.2 i c hi
 obtain ⟨v,q1,q2,q3⟩:=h3 i c0 k1
 exact ⟨v,q1,q2,q3.weaken k2 k3⟩
theorem LSim.sub {e':Env} (hL:LSim ι j own lb N e a w) (h1:∀ s c,aget e'.slots s=some c→∃ c0,aget e.slots s=some c0∧c0.d=c.d∧(c.own=true→c0.own=true))
  (h2:∀ s p,aget e'.locs s=some p→aget e.locs s=some p) (h3:∀ s cs,aget e'.boxes s=some cs→∃ cs0,aget e.boxes s=some cs0∧zbk cs cs0) (h4:e'.defers=e.defers):LSim ι j own lb N e' a w where
 size:=hL.size
 slots:=fun s c h=>by
  obtain ⟨c0,k1,k2,k3⟩:=h1 s c h
  exact (hL.slots s c0 k1).weaken k2 k3
 locs:=fun s b o h=>hL.locs s b o (h2 s _ h)
 boxes:=fun s cs h=>by
  obtain ⟨cs0,k1,k2⟩:=h3 s cs h
  obtain ⟨B,q1,q2,q3⟩:=hL.boxes s cs0 k1
  exact ⟨B,q1,q2,q3.weaken k2⟩
 defers:=h4 ▸ hL.defers
theorem LSim.evo (h:Evo ι j own w ι' j' own' w' TT) (hL:LSim ι j own lb N e a w) (hs:∀ s c,aget e.slots s=some c→c.own=true→¬ TT (.slot s))
  (hb:∀ s cs,aget e.boxes s=some cs→¬ TT (.box s)∧∀ (i:Nat) (c:Cell),cs[i]?=some c→c.own=true→¬ TT (.cell s i)):LSim ι' j' own' lb N e a w' where
 size:=hL.size
 slots:=fun s c k=>h.cellRel (hs s c k) (hL.slots s c k)
 locs:=hL.locs
 boxes:=fun s cs k=>by
  obtain ⟨B,q1,q2,q3⟩:=hL.boxes s cs k
  obtain ⟨hb1,hb2⟩:=hb s cs k
  have hlt:B < w.heap.size:=by
   obtain ⟨vs,T,h1,_⟩:=q3
   exact (Array.getElem?_eq_some_iff.1 h1).1
  exact ⟨B,q1,(h.block B hlt (fun t x=>by rw [q2] at x; cases x; exact hb1)).2.1.trans q2,h.boxRel q2 hb1 hb2 q3⟩
 defers:=h.defRel _ _ hL.defers
theorem GSim.evo (h:Evo ι j own w ι' j' own' w' TT) (hG:GSim ι j own σ w) (hh:∀ b o v,ι' b o=some v→w'.cell? ⟨b,o,none⟩=some v) (hn:∀ b t,own' b=some t→t.isBox=true→∀ o,ι' b o=none)
  (hl:∀ b t,own' b=some t→b < w'.heap.size) (hj:∀ id b,j' id=some b→id < σ.next)
  (hb:∀ id cs,aget σ.objs id=some cs→¬ TT (.obj id)∧∀ (i:Nat) (c:Cell),cs[i]?=some c→c.own=true→¬ TT (.ocell id i)) (hi:∀ id x,aget σ.oth id=some x→¬ TT (.obj id)):GSim ι' j' own' σ w' where
 holds:=hh
 noimm:=hn
 objs:=fun id cs k=>by
  obtain ⟨B,q1,q2,q3⟩:=hG.objs id cs k
  obtain ⟨hb1,hb2⟩:=hb id cs k
  have hlt:B < w.heap.size:=by
   obtain ⟨vs,T,h1,_⟩:=q3
   exact (Array.getElem?_eq_some_iff.1 h1).1
  exact ⟨B,h.lay _ _ q1,(h.block B hlt (fun t x=>by rw [q2] at x; cases x; exact hb1)).2.1.trans q2,h.boxRel q2 hb1 hb2 q3⟩
 tys:=fun id t cs h1 h2 b hjb=>by
  obtain ⟨B,q1,q2,q3⟩:=hG.objs id cs h2
  have hB:=h.lay _ _ q1
  rw [hjb] at hB
  cases hB
  have hty:=hG.tys id t cs h1 h2 b q1
  have hlt:b < w.heap.size:=by
   obtain ⟨row,hrow,_⟩:=hty
   exact (Array.getElem?_eq_some_iff.1 hrow).1
  exact hty.keep (h.block b hlt (fun t' x=>by rw [q2] at x; cases x; exact (hb id cs h2).1)).1 h.lay
 oth:=fun id x k=>by
  obtain ⟨B,q1,q2,q3⟩:=hG.oth id x k
  obtain ⟨b1,b2,_⟩:=h.block B q3.lt (fun t x=>by rw [q2] at x; cases x; exact hi id _ k)
  exact ⟨B,h.lay _ _ q1,b2.trans q2,q3.keep b1 h.imm h.lay⟩
 jlt:=hj
 ownlt:=hl
theorem LSim.putC (hL:LSim ι j own lb N e a w) {s:Nat} (hs:s < N) {c:Cell} {x:Value} (hc:zcw ι j own w (.slot s) c x):LSim ι j own lb N (e.put (some s) c) (a.put (some s) x) w where
 size:=by rw [zql]; exact hL.size
 slots:=fun t c' h=>by
  simp only [Env.put,zak] at h
  by_cases hst:s=t
  ·subst hst
   rw [if_pos rfl] at h
   cases h
   rw [zid (by rw [hL.size]; exact hs)]
   exact hc
  ·rw [if_neg hst] at h
   rw [zdt hst]
   exact hL.slots t c' h
 locs:=fun t b o h=>by
  simp only [Env.put,zam] at h
  by_cases hst:s=t
  ·rw [if_pos hst] at h; cases h
  ·rw [if_neg hst] at h
   rw [zdt hst]
   exact hL.locs t b o h
 boxes:=hL.boxes
 defers:=by rw [zlv]; exact hL.defers
theorem LSim.putL (hL:LSim ι j own lb N e a w) {s:Nat} (hs:s < N) {b off B:Nat} (hB:lb b=some B):LSim ι j own lb N (e.putV (some s) (.l b off)) (a.put (some s) (.pointer (some ⟨B,off,none⟩))) w where
 size:=by rw [zql]; exact hL.size
 slots:=fun t c' h=>by
  simp only [Env.putV,zam] at h
  by_cases hst:s=t
  ·rw [if_pos hst] at h; cases h
  ·rw [if_neg hst] at h
   rw [zdt hst]
   exact hL.slots t c' h
 locs:=fun t b' o h=>by
  simp only [Env.putV,zak] at h
  by_cases hst:s=t
  ·subst hst
   rw [if_pos rfl] at h
   cases h
   exact ⟨B,hB,zid (by rw [hL.size]; exact hs)⟩
  ·rw [if_neg hst] at h
   rw [zdt hst]
   exact hL.locs t b' o h
 boxes:=hL.boxes
 defers:=by rw [zlv]; exact hL.defers
theorem LSim.addBox (hL:LSim ι j own lb N e a w) {s B:Nat} {cs:List Cell} (h1:lb s=some B) (h2:own B=some (.box s)) (h3:zcl ι j own w B (.cell s) cs):LSim ι j own lb N {e with boxes:=aset e.boxes s cs} a w where
 size:=hL.size
 slots:=hL.slots
 locs:=hL.locs
 boxes:=fun t cs' h=>by
  simp only [zak] at h
  by_cases hst:s=t
  ·subst hst
   rw [if_pos rfl] at h
   cases h
   exact ⟨B,h1,h2,h3⟩
  ·rw [if_neg hst] at h
   exact hL.boxes t cs' h
 defers:=hL.defers
theorem LSim.newBox (hL:LSim ι j own lb N e a w) {s B:Nat} (hs:s < N) {cs:List Cell} (h2:own B=some (.box s)) (h3:zcl ι j own w B (.cell s) cs) :
  LSim ι j own (fun t=>if t=s then some B else lb t) N (e.box s cs) (a.put (some s) (.pointer (some ⟨B,0,none⟩))) w where
 size:=by rw [zql]; exact hL.size
 slots:=fun t c' h=>by
  simp only [Env.box,zam] at h
  by_cases hst:s=t
  ·rw [if_pos hst] at h; cases h
  ·rw [if_neg hst] at h
   rw [zdt hst]
   exact hL.slots t c' h
 locs:=fun t b o h=>by
  simp only [Env.box,zak] at h
  by_cases hst:s=t
  ·subst hst
   rw [if_pos rfl] at h
   cases h
   exact ⟨B,if_pos rfl,zid (by rw [hL.size]; exact hs)⟩
  ·rw [if_neg hst] at h
   obtain ⟨k1,k2⟩:=zim _ _ _ _ _ h
   rw [zdt hst]
   obtain ⟨B',q1,q2⟩:=hL.locs t b o k2
   exact ⟨B',by rw [if_neg k1]; exact q1,q2⟩
 boxes:=fun t cs' h=>by
  simp only [Env.box,zak] at h
  by_cases hst:s=t
  ·subst hst
   rw [if_pos rfl] at h
   cases h
   exact ⟨B,if_pos rfl,h2,h3⟩
  ·rw [if_neg hst] at h
   obtain ⟨B',q1,q2,q3⟩:=hL.boxes t cs' h
   exact ⟨B',by rw [if_neg (fun x=>hst x.symm)]; exact q1,q2,q3⟩
 defers:=by rw [zlv]; exact hL.defers
/-! ### Marks that are dropped -/
theorem ziwb (x:AOpd):∀ s c,aget (x.drop e).slots s=some c→∃ c0,aget e.slots s=some c0∧c0.d=c.d∧(c.own=true→c0.own=true):=by
 intro s c h
 cases x with
 | mv t =>
  simp only [AOpd.drop] at h
  cases ht:aget e.slots t with
  | none=>rw [ht] at h; exact ⟨c,h,rfl,id⟩
  | some c1 =>
   rw [ht] at h
   simp only [zab,zak] at h
   by_cases hts:t=s
   ·subst hts
    rw [if_pos rfl] at h
    cases h
    exact ⟨c1,ht,rfl,fun h=>by cases h⟩
   ·rw [if_neg hts] at h
    exact ⟨c,h,rfl,id⟩
 | tmp t=>exact ⟨c,h,rfl,id⟩
 | const d=>exact ⟨c,h,rfl,id⟩
theorem zng (x:AOpd):(x.drop e).locs=e.locs∧(x.drop e).boxes=e.boxes∧(x.drop e).defers=e.defers:=by
 cases x with
 | mv t =>
  simp only [AOpd.drop]
  cases aget e.slots t <;> exact ⟨rfl,rfl,rfl⟩
 | _=>exact ⟨rfl,rfl,rfl⟩
theorem LSim.drop (hL:LSim ι j own lb N e a w) (x:AOpd):LSim ι j own lb N (x.drop e) a w:=by
 obtain ⟨h1,h2,h3⟩:=zng (e:=e) x
 exact hL.sub (ziwb x) (fun s p h=>by rw [h1] at h; exact h) (fun s cs h=>by rw [h2] at h; exact ⟨cs,h,zbk.refl cs⟩) h3
theorem zfvb {s:Nat} {t:Nat} {c:Cell} (h:aget ((AOpd.mv s).drop e).slots t=some c) (ho:c.own=true) (hs:(aget e.slots s).isSome=true):t≠s:=by
 intro hts
 subst hts
 simp only [AOpd.drop] at h
 obtain ⟨c1,h1⟩:=Option.isSome_iff_exists.1 hs
 rw [h1] at h
 simp only [zab,zak,if_true] at h
 cases h
 cases ho
theorem retag {t t':Tag} (hb:t.isBox=false) (hb':t'.isBox=false) (hG:GSim ι j own σ w) (hL:LSim ι j own lb N e a w)
  (f1:∀ s c,aget e.slots s=some c→c.own=true→Tag.slot s≠t) (f2:∀ s cs,aget e.boxes s=some cs→∀ (i:Nat) (c:Cell),cs[i]?=some c→c.own=true→Tag.cell s i≠t)
  (f3:∀ id cs,aget σ.objs id=some cs→∀ (i:Nat) (c:Cell),cs[i]?=some c→c.own=true→Tag.ocell id i≠t)
  {d:D} {x:Value} (ho:Owned ι own w t d x):∃ own',GSim ι j own' σ w∧LSim ι j own' lb N e a w∧Owned ι own' w t' d x∧Evo ι j own w ι j own' w (fun u=>u=t):=by
 classical
 let own':Own:=fun b=>if own b=some t then some t' else own b
 have hE:Evo ι j own w ι j own' w (fun u=>u=t) :=
  ⟨rfl,rfl,rfl,Nat.le_refl _,fun _ _ _ h=>h,fun _ _ h=>h,fun b _ ht=>⟨rfl,if_neg (fun h=>ht t h rfl),fun _=>rfl⟩⟩
 have hown:∀ b u,own' b=some u→u.isBox=true→own b=some u:=by
  intro b u h hu
  by_cases hbt:own b=some t
  ·simp only [own',if_pos hbt,Option.some.injEq] at h
   subst h
   rw [hb'] at hu
   cases hu
  ·simpa only [own',if_neg hbt] using h
 refine ⟨own',hG.evo hE hG.holds (fun b u h hu=>hG.noimm b u (hown b u h hu) hu) (fun b u h=>?_) hG.jlt (fun id cs h=>⟨fun k=>by (subst k; cases hb),f3 id cs h⟩) (fun id x _ k=>by (subst k; cases hb)),
  hL.evo hE (fun s c h k=>f1 s c h k) (fun s cs h=>⟨fun k=>by (subst k; cases hb),f2 s cs h⟩),?_,hE⟩
 ·by_cases hbt:own b=some t
  ·exact hG.ownlt b t hbt
  ·exact hG.ownlt b u (by simpa only [own',if_neg hbt] using h)
 ·unfold Owned at ho ⊢
  cases hp:prin d x with
  | none=>trivial
  | some p =>
   rw [hp] at ho
   rcases ho with ho | ⟨b,g0,cap,cur,T,h1,h2,h3,h4,h5⟩
   ·exact .inl ho
   ·exact .inr ⟨b,g0,cap,cur,T,h1,if_pos h2,h3,h4,h5⟩
end
end Go.Mx
namespace Go.Mx
open Go
section
variable [LoopKit] {P:Program} {ι:Imm} {j:Lay} {own:Own} {lb:Lay} {N:Nat} {e:Env} {a:Go.Act} {w:World} {σ:Store}
def Did (P:Program) (N:Nat) (ι:Imm) (j:Lay) (own:Own) (w:World) (o:Oper) (a:Go.Act) (e':Env) (σ':Store):Prop :=
 ∃ nx w' a',(execOp a.eval o).run P w=.ok nx w' ∧
  ((∃ v,nx=.value v∧a'=a.put o.dst v)∨(nx=.skip∧a'=a.put o.dst Go.undef)∨(∃ d,nx=.defer d∧a'=({a with defers:=d :: a.defers}:Go.Act).put o.dst Go.undef)) ∧
  ∃ ι' j' own' lb',GSim ι' j' own' σ' w'∧LSim ι' j' own' lb' N e' a' w'∧Evo ι j own w ι' j' own' w' (fun _=>True)
theorem zen (_hG:GSim ι j own σ w) (ob:Obj) (t:Tag):Evo ι j own w ι j (fun b=>if b=w.heap.size then some t else own b) (w.alloc ob) (fun _=>False) where
 os:=rfl
 tape:=rfl
 output:=rfl
 size:=by simp
 imm:=fun _ _ _ h=>h
 lay:=fun _ _ h=>h
 block:=fun b hb _=>⟨heap_alloc_old w ob hb,if_neg (by omega),fun _=>rfl⟩
theorem ze3 (hG:GSim ι j own σ w) {b o:Nat} {v:Value} (h:ι b o=some v):b < w.heap.size:=World.block_lt_of_cell? w ⟨b,o,none⟩ (hG.holds b o v h)
theorem zf3 (hG:GSim ι j own σ w) (ob:Obj) (t:Tag):GSim ι j (fun b=>if b=w.heap.size then some t else own b) σ (w.alloc ob):=by
 refine hG.evo (zen hG ob t) (fun b o v h=>?_) (fun b u h hu o=>?_) (fun b u h=>?_) hG.jlt (fun _ _ _=>⟨fun h=>h,fun _ _ _ _ h=>h⟩) (fun _ _ _ h=>h)
 ·have hlt:=ze3 hG h
  have:=hG.holds b o v h
  rw [World.cell?_alloc_past ob b o hlt]
  exact this
 ·by_cases hb:b=w.heap.size
  ·cases hi:ι b o with
   | none=>rfl
   | some v=>have:=ze3 hG hi; omega
  ·rw [if_neg hb] at h
   exact hG.noimm b u h hu o
 ·by_cases hb:b=w.heap.size
  ·subst hb; simp
  ·rw [if_neg hb] at h
   have:=hG.ownlt b u h
   simp
   omega
theorem zuv (hG:GSim ι j own σ w) (hL:LSim ι j own lb N e a w) (ob:Obj) (t:Tag):LSim ι j (fun b=>if b=w.heap.size then some t else own b) lb N e a (w.alloc ob) :=
 hL.evo (zen hG ob t) (fun _ _ _ _ h=>h) (fun _ _ _=>⟨fun h=>h,fun _ _ _ _ h=>h⟩)
theorem zqx {own':Own} {w':World} {B:Nat} {T:TypeId} {mk:Nat→Tag} {ds:List D} {vs:List Value} (hh:w'.heap[B]?=some (.cells ⟨vs⟩ T (0,0))) (hr:RepL ι j ds vs) (h1:∀ x∈vs,x.oneCell'=true) :
  zcl ι j own' w' B mk (ds.map Cell.of):=by
 refine ⟨vs,T,hh,by rw [hr.length,List.length_map]; exact Nat.le_refl _,fun i c hi=>?_⟩
 rw [List.getElem?_map] at hi
 cases hd:ds[i]? with
 | none=>rw [hd] at hi; cases hi
 | some d =>
  rw [hd] at hi
  simp at hi
  subst hi
  obtain ⟨v,hv,hrv⟩:=hr.at i d hd
  exact ⟨v,hv,h1 v (List.mem_of_getElem? hv),hrv,fun h=>by cases h⟩
theorem zpn (hG:GSim ι j own σ w) (hL:LSim ι j own lb N e a w) {o:Oper} {s:Nat} (hd:o.dst=some s) (hs:s < N) {T:TypeId} {ds:List D} {vs:List Value} (hr:RepL ι j ds vs) (h1:∀ x∈vs,x.oneCell'=true)
  (hrun:(execOp a.eval o).run P w=.ok (.value (.pointer (some ⟨w.heap.size,0,none⟩))) (w.alloc (.cells ⟨vs⟩ T))):Did P N ι j own w o a (e.box s (ds.map Cell.of)) σ:=by
 refine ⟨_,_,_,hrun,.inl ⟨_,rfl,rfl⟩,ι,j,_,(fun t=>if t=s then some w.heap.size else lb t),zf3 hG _ (.box s),?_,(zen hG _ (.box s)).weaken (fun _ h=>h.elim)⟩
 rw [hd]
 exact (zuv hG hL _ (.box s)).newBox hs (if_pos rfl) (zqx (heap_alloc_new w _) hr h1)
theorem zr4 (hG:GSim ι j own σ w) (hL:LSim ι j own lb N e a w) {o:Oper} {t:TypeId} {z:List D} {zs:List Value} {s:Nat} (ho:o.op=.alloc t) (hd:o.dst=some s) (hs:s < N) (hz:zeroB P t=some zs) (hzr:zcb z zs=true) :
  Did P N ι j own w o a (e.box s (z.map Cell.of)) σ:=by
 obtain ⟨zv,hzrun,hzc⟩:=zh8 (P:=P) (w:=w) hz
 obtain ⟨z1,z2⟩:=zct ι j z zs hzr
 refine zpn hG hL hd hs (T:=t) z1 z2 ?_
 simp only [execOp,ho,Instr.alloc,Sem.run_bind,hzrun,Result.andThen_ok,newVar,newRow,run_newObj,Sem.run_pure,hzc]
 rfl
theorem zx9 (hG:GSim ι j own σ w) (hL:LSim ι j own lb N e a w) {o:Oper} {t:TypeId} {x:Operand} {y:AOpd} {c:Cell} {s:Nat} (ho:o.op=.box t x) (hd:o.dst=some s) (hs:s < N) (hk:okOpd x y=true) (hc:opd e y=some c) (hok:c.d.ok=true) :
  Did P N ι j own w o a (e.box s (c.d.cells.map Cell.of)) σ:=by
 obtain ⟨r1,r2⟩:=(zah hL hk hc).cellsRel hok
 refine zpn hG hL hd hs (T:=t) r1 r2 ?_
 simp only [execOp,ho,Instr.box,Sem.run_bind,newVar,newRow,run_newObj,Sem.run_pure,Result.andThen_ok]
 rfl
theorem zpo (hG:GSim ι j own σ w) (hL:LSim ι j own lb N e a w) {o:Oper} (hs:∀ s,o.dst=some s→s < N) {T:TypeId} {ds:List D} {vs:List Value} (hr:RepL ι j ds vs) (h1:∀ x∈vs,x.oneCell'=true)
  (hrun:(execOp a.eval o).run P w=.ok (.value (.pointer (some ⟨w.heap.size,0,none⟩))) (w.alloc (.cells ⟨vs⟩ T))) :
  Did P N ι j own w o a (e.put o.dst ⟨false,.ptr σ.next 0⟩) {objs:=(σ.next,ds.map Cell.of) :: σ.objs,tys:=(σ.next,⟨T,0⟩) :: σ.tys,oth:=σ.oth,next:=σ.next + 1}:=by
 classical
 let j':Lay:=fun i=>if i=σ.next then some w.heap.size else j i
 have hjn:∀ i b,j i=some b→i≠σ.next:=fun i b h e=>by have:=hG.jlt i b h; omega
 have hE0:=zen hG (.cells ⟨vs⟩ T) (.obj σ.next)
 have hE:Evo ι j own w ι j' (fun b=>if b=w.heap.size then some (.obj σ.next) else own b) (w.alloc (.cells ⟨vs⟩ T)) (fun _=>False) :=
  ⟨hE0.os,hE0.tape,hE0.output,hE0.size,hE0.imm,fun i b h=>by simp only [j',if_neg (hjn i b h)]; exact h,hE0.block⟩
 have hG0:=zf3 hG (.cells ⟨vs⟩ T) (.obj σ.next)
 have hr':RepL ι j' ds vs:=hE.repL hr
 have hG':GSim ι j' (fun b=>if b=w.heap.size then some (.obj σ.next) else own b) {objs:=(σ.next,ds.map Cell.of) :: σ.objs,tys:=(σ.next,⟨T,0⟩) :: σ.tys,oth:=σ.oth,next:=σ.next + 1} (w.alloc (.cells ⟨vs⟩ T)):=by
  refine ⟨hG0.holds,hG0.noimm,fun id cs h=>?_,fun id t cs h1 h2 b hb=>?_,fun id x h=>?_,fun id b h=>?_,hG0.ownlt⟩
  ·simp only [zat] at h
   by_cases hid:σ.next=id
   ·rw [if_pos hid] at h
    cases h
    subst hid
    exact ⟨w.heap.size,if_pos rfl,if_pos rfl,zqx (heap_alloc_new w _) hr' h1⟩
   ·rw [if_neg hid] at h
    obtain ⟨B,q1,q2,q3⟩:=hG.objs id cs h
    have hlt:=hG.ownlt B _ q2
    exact ⟨B,hE.lay _ _ q1,by rw [if_neg (by omega)]; exact q2,hE.boxRel q2 (fun h=>h) (fun _ _ _ _ h=>h) q3⟩
  ·simp only [zat] at h1 h2
   by_cases hid:σ.next=id
   ·rw [if_pos hid] at h1
    cases h1
    subst hid
    simp only [j',if_pos rfl,Option.some.injEq] at hb
    subst hb
    exact ⟨_,heap_alloc_new w _,fun h=>absurd h (Nat.lt_irrefl 0)⟩
   ·rw [if_neg hid] at h1 h2
    simp only [j',if_neg (fun e=>hid (Eq.symm e))] at hb
    have hty:=hG.tys id t cs h1 h2 b hb
    have hlt:b < w.heap.size:=by
     obtain ⟨row,hrow,_⟩:=hty
     exact (Array.getElem?_eq_some_iff.1 hrow).1
    exact hty.keep (heap_alloc_old w _ hlt) hE.lay
  ·obtain ⟨B,q1,q2,q3⟩:=hG.oth id x h
   have hlt:=hG.ownlt B _ q2
   exact ⟨B,hE.lay _ _ q1,by rw [if_neg (by omega)]; exact q2,q3.keep (heap_alloc_old w _ hlt) hE.imm hE.lay⟩
  ·by_cases hid:id=σ.next
   ·simp only; omega
   ·simp only [j',if_neg hid] at h
    have:=hG.jlt id b h
    simp only; omega
 refine ⟨_,_,_,hrun,.inl ⟨_,rfl,rfl⟩,ι,j',_,lb,hG',?_,hE.weaken (fun _ h=>h.elim)⟩
 have hL':=hL.evo hE (fun _ _ _ _ h=>h) (fun _ _ _=>⟨fun h=>h,fun _ _ _ _ h=>h⟩)
 cases hd:o.dst with
 | none=>exact hL'
 | some s =>
  exact hL'.putC (hs s hd) ⟨by simp only [Rep]; exact ⟨w.heap.size,if_pos rfl,rfl⟩,fun h=>by cases h⟩
theorem zanb (hG:GSim ι j own σ w) (hL:LSim ι j own lb N e a w) {o:Oper} {t:TypeId} {z:List D} {zs:List Value} (ho:o.op=.alloc t) (hs:∀ s,o.dst=some s→s < N) (hz:zeroB P t=some zs) (hzr:zcb z zs=true) :
  Did P N ι j own w o a (e.put o.dst ⟨false,.ptr σ.next 0⟩) {objs:=(σ.next,z.map Cell.of) :: σ.objs,tys:=(σ.next,⟨t,0⟩) :: σ.tys,oth:=σ.oth,next:=σ.next + 1}:=by
 obtain ⟨zv,hzrun,hzc⟩:=zh8 (P:=P) (w:=w) hz
 obtain ⟨z1,z2⟩:=zct ι j z zs hzr
 refine zpo hG hL hs (T:=t) z1 z2 ?_
 simp only [execOp,ho,Instr.alloc,Sem.run_bind,hzrun,Result.andThen_ok,newVar,newRow,run_newObj,Sem.run_pure,hzc]
 rfl
theorem zh1b (hG:GSim ι j own σ w) (hL:LSim ι j own lb N e a w) {o:Oper} {t:TypeId} {x:Operand} {y:AOpd} {c:Cell} (ho:o.op=.box t x) (hs:∀ s,o.dst=some s→s < N) (hk:okOpd x y=true) (hc:opd e y=some c) (hok:c.d.ok=true) :
  Did P N ι j own w o a (e.put o.dst ⟨false,.ptr σ.next 0⟩) {objs:=(σ.next,c.d.cells.map Cell.of) :: σ.objs,tys:=(σ.next,⟨t,0⟩) :: σ.tys,oth:=σ.oth,next:=σ.next + 1}:=by
 obtain ⟨r1,r2⟩:=(zah hL hk hc).cellsRel hok
 refine zpo hG hL hs (T:=t) r1 r2 ?_
 simp only [execOp,ho,Instr.box,Sem.run_bind,newVar,newRow,run_newObj,Sem.run_pure,Result.andThen_ok]
 rfl
/-! ### Stores -/
theorem zkq:∀ (cs:List Cell) (off:Nat) (new:List Cell),off + new.length≤cs.length→(zan cs off new).length=cs.length∧∀ k,(zan cs off new)[k]?=if off≤k∧k < off + new.length then new[k - off]? else cs[k]?
 | cs,off,[],_=>by
  have:zan cs off []=cs:=by cases cs <;> cases off <;> rfl
  rw [this]
  exact ⟨rfl,fun k=>by rw [if_neg (by simp only [List.length_nil]; omega)]⟩
 | [],off,x :: new,h=>by simp at h
 | c :: cs,0,x :: new,h=>by
  simp only [zan]
  obtain ⟨h1,h2⟩:=zkq cs 0 new (by simp at h ⊢; omega)
  refine ⟨by simp [h1],fun k=>?_⟩
  cases k with
  | zero=>simp
  | succ k =>
   simp only [List.getElem?_cons_succ,h2 k,List.length_cons]
   by_cases hk:k < new.length
   ·rw [if_pos ⟨by omega,by omega⟩,if_pos ⟨by omega,by omega⟩]
    simp
   ·rw [if_neg (by omega),if_neg (by omega)]
 | c :: cs,off + 1,x :: new,h=>by
  simp only [zan]
  obtain ⟨h1,h2⟩:=zkq cs off (x :: new) (by simp at h ⊢; omega)
  refine ⟨by simp [h1],fun k=>?_⟩
  cases k with
  | zero=>rw [if_neg (by omega)]; simp
  | succ k =>
   simp only [List.getElem?_cons_succ,h2 k]
   by_cases hk:off≤k∧k < off + (x :: new).length
   ·rw [if_pos hk,if_pos ⟨by omega,by omega⟩]
    congr 1
    omega
   ·rw [if_neg hk,if_neg (by omega)]
theorem zin {B:Nat} {mk:Nat→Tag} {cs:List Cell} (hb:zcl ι j own w B mk cs) {off:Nat} {new:List Cell} {us:List Value} (hle:off + new.length≤cs.length) (hu:us.length=new.length)
  (hnew:∀ (i:Nat) (c:Cell),new[i]?=some c→∃ u,us[i]?=some u∧u.oneCell'=true∧Rep ι j c.d u∧(c.own=true→∀ w',(∀ b,b≠B→w'.heap[b]?=w.heap[b]?)→Owned ι own w' (mk (off + i)) c.d u))
  (hold:∀ (i:Nat) (c:Cell) (u:Value),cs[i]?=some c→c.own=true→Owned ι own w (mk i) c.d u→∀ w',(∀ b,b≠B→w'.heap[b]?=w.heap[b]?)→Owned ι own w' (mk i) c.d u) :
  ∃ (cur:Array Value) (T:TypeId),w.heap[B]?=some (.cells cur T (0,0))∧off + us.length≤cur.size ∧
   zcl ι j own (w.setRow B (cur.toList.take off ++ us ++ cur.toList.drop (off + us.length)).toArray) B mk (zan cs off new):=by
 obtain ⟨vs,T,h1,h2,h3⟩:=hb
 obtain ⟨p1,p2⟩:=zkq cs off new hle
 have hrest:∀ row,∀ b,b≠B→(w.setRow B row).heap[b]?=w.heap[b]?:=fun row b hb=>setRow_other w B b row hb
 refine ⟨⟨vs⟩,T,h1,by simp; omega,_,T,setRow_heap w B _ _ T (0,0) h1,?_,fun i c hi=>?_⟩
 ·simp only [List.length_append,List.length_take,List.length_drop]
  omega
 ·rw [p2 i] at hi
  have hget:(vs.take off ++ us ++ vs.drop (off + us.length))[i]?=if off≤i∧i < off + new.length then us[i - off]? else vs[i]?:=by
   by_cases h4:i < off
   ·rw [if_neg (by omega),List.append_assoc,List.getElem?_append_left (by simp; omega),List.getElem?_take,if_pos h4]
   ·by_cases h5:i < off + us.length
    ·rw [if_pos (by omega),List.append_assoc,List.getElem?_append_right (by simp; omega),List.getElem?_append_left (by simp; omega)]
     congr 1
     simp
     omega
    ·rw [if_neg (by omega),List.getElem?_append_right (by simp; omega),List.getElem?_drop]
     congr 1
     simp
     omega
  by_cases hin:off≤i∧i < off + new.length
  ·rw [if_pos hin] at hi hget
   obtain ⟨u,q1,q2,q3,q4⟩:=hnew (i - off) c hi
   refine ⟨u,hget.trans q1,q2,q3,fun ho=>?_⟩
   have:=q4 ho (w.setRow B (vs.take off ++ us ++ vs.drop (off + us.length)).toArray) (hrest _)
   rwa [show off + (i - off)=i by omega] at this
  ·rw [if_neg hin] at hi hget
   obtain ⟨v,q1,q2,q3,q4⟩:=h3 i c hi
   exact ⟨v,hget.trans q1,q2,q3,fun ho=>hold i c v hi ho (q4 ho) (w.setRow B (vs.take off ++ us ++ vs.drop (off + us.length)).toArray) (hrest _)⟩
theorem zd9 {c:Cell} (hok:c.d.ok=true):(za7 c).length=c.d.cells.length:=by
 unfold za7
 cases h:c.d.one with
 | true=>cases c with | mk o d=>cases d <;> simp only [D.one,Bool.false_eq_true] at h <;> rfl
 | false=>simp [ifB]
theorem zdq {t:Tag} {B:Nat} {w':World} (hB:own B≠some t) (hrest:∀ b,b≠B→w'.heap[b]?=w.heap[b]?) {d:D} {v:Value} (k:Owned ι own w t d v):Owned ι own w' t d v:=by
 unfold Owned at k ⊢
 cases hp:prin d v with
 | none=>trivial
 | some p =>
  rw [hp] at k
  rcases k with k | ⟨b,g0,cap,cur,T,h1,h2,h3,h4,h5⟩
  ·exact .inl k
  ·exact .inr ⟨b,g0,cap,cur,T,h1,h2,(hrest b fun e=>hB (e ▸ h2)).trans h3,h4,h5⟩
theorem zf7 (hG:GSim ι j own σ w) (hL:LSim ι j own lb N e a w) {x:Operand} {y:AOpd} (hk:okOpd x y=true) {c:Cell} (hc:opd e y=some c) {t':Tag} (hb':t'.isBox=false) :
  ∃ own',GSim ι j own' σ w∧LSim ι j own' lb N (y.drop e) a w∧(c.own=true→Owned ι own' w t' c.d (a.eval x))∧Evo ι j own w ι j own' w (fun _=>True):=by
 cases ho:c.own with
 | false=>exact ⟨own,hG,hL.drop y,(fun h=>by cases h),Evo.refl _ _ _ _ _⟩
 | true =>
  cases y with
  | tmp s =>
   simp only [opd] at hc
   obtain ⟨c',h1,h2⟩:=zaa hc
   cases h2
   cases ho
  | const d =>
   simp only [opd] at hc
   cases hc
   cases ho
  | mv s =>
   cases x <;> simp only [okOpd,Bool.false_eq_true] at hk
   have hk:=eq_of_beq hk
   subst hk
   simp only [opd] at hc
   have how:=(hL.slots _ c hc).2 ho
   obtain ⟨own',k1,k2,k3,k4⟩:=retag (t:=.slot _) (t':=t') rfl hb' hG (hL.drop (.mv _)) (fun s c' h1 h2 h3=>by
    cases h3
    exact zfvb h1 h2 (by rw [hc]; rfl) rfl) (fun s cs _ i c' _ _ h=>by cases h) (fun id cs _ i c' _ _ h=>by cases h) how
   exact ⟨own',k1,k2,fun _=>k3,k4.weaken fun _ _=>trivial⟩
theorem ziz {B:Nat} {cur:Array Value} {T:TypeId} (_h:w.heap[B]?=some (.cells cur T (0,0))) (row:Array Value) {t:Tag} (ht:own B=some t):Evo ι j own w ι j own (w.setRow B row) (fun u=>u=t) where
 os:=rfl
 tape:=rfl
 output:=rfl
 size:=by simp [World.setRow]
 imm:=fun _ _ _ h=>h
 lay:=fun _ _ h=>h
 block:=fun b _ hb=>⟨setRow_other w B b row (fun e=>hb t (e ▸ ht) rfl),rfl,fun _=>rfl⟩
theorem zfe {t:TypeId} {k:Nat} (hk:sizeB P t=some k) {B off:Nat} {cur:Array Value} {T:TypeId} (h:w.heap[B]?=some (.cells cur T (0,0))) {v:Value} (hv:v.cells.size=k) (hle:off + v.cells.toList.length≤cur.size) (h1:∀ x∈v.cells.toList,x.oneCell'=true) :
  (storeVar t ⟨B,off,none⟩ v).run P w=.ok () (w.setRow B (cur.toList.take off ++ v.cells.toList ++ cur.toList.drop (off + v.cells.toList.length)).toArray):=by
 have hs:=run_storeCells_at (P:=P) B off T v.cells.toList 0 cur w h (by simpa using hle) h1
 simp only [Nat.add_zero] at hs
 simp only [storeVar,Sem.run_bind,za9 hk,Result.andThen_ok,hv]
 rw [if_neg (by simp)]
 exact hs
theorem znu {c:Cell} {v:Value} (hr:Rep ι j c.d v) (hok:c.d.ok=true):v.cells.toList.length=(za7 c).length ∧
  ∀ (i:Nat) (c':Cell),(za7 c)[i]?=some c'→∃ u,v.cells.toList[i]?=some u∧u.oneCell'=true∧Rep ι j c'.d u∧(c'.own=true→i=0∧c'=c∧u=v):=by
 obtain ⟨r1,r2⟩:=hr.cellsRel hok
 refine ⟨by rw [zd9 hok]; exact r1.length,fun i c' hi=>?_⟩
 unfold za7 at hi
 cases h:c.d.one with
 | true =>
  rw [h,zac] at hi
  obtain ⟨h1,h2⟩:=hr.oneCell h
  cases i with
  | zero =>
   simp at hi
   subst hi
   exact ⟨v,by rw [h2]; rfl,h1,hr,fun _=>⟨rfl,rfl,rfl⟩⟩
  | succ i=>simp at hi
 | false =>
  rw [h,zad,List.getElem?_map] at hi
  cases hd:c.d.cells[i]? with
  | none=>rw [hd] at hi; cases hi
  | some d =>
   rw [hd] at hi
   simp at hi
   subst hi
   obtain ⟨u,hu,hru⟩:=r1.at i d hd
   exact ⟨u,hu,r2 u (List.mem_of_getElem? hu),hru,fun h=>by cases h⟩
theorem zsn {c:Cell} {k off:Nat} {cs:List Cell} (h:fits c k off cs=true):c.d.ok=true∧c.d.cells.length=k∧off + k≤cs.length:=by
 simp only [fits,Bool.and_eq_true,beq_iff_eq,decide_eq_true_eq] at h
 exact ⟨h.1.1,h.1.2,h.2⟩
theorem zms (hG:GSim ι j own σ w) (hL:LSim ι j own lb N e a w) {o:Oper} {t:TypeId} {x y:Operand} {x' y':AOpd} {k b off:Nat} {c:Cell} {cs:List Cell} (ho:o.op=.store t x y) (hd:∀ s,o.dst=some s→s < N)
  (hk:okOpd x x'=true) (hk1:okOpd y y'=true) (hsz:sizeB P t=some k) (hp:addr e x'=some (.loc b off)) (hc:opd e y'=some c) (hcs:aget e.boxes b=some cs) (hf:fits c k off cs=true) :
  Did P N ι j own w o a (Env.put {y'.drop e with boxes:=aset e.boxes b (zan cs off (za7 c))} o.dst ⟨false,.undef⟩) σ:=by
 obtain ⟨hok,hlen,hle⟩:=zsn hf
 obtain ⟨B,hB,hx⟩:=zca hL hk hp
 have hr:=zah hL hk1 hc
 obtain ⟨own1,hG1,hL1,hO,hE1⟩:=zf7 hG hL hk1 hc (t':=.cell b off) rfl
 obtain ⟨_,hbx,_⟩:=zng (e:=e) y'
 obtain ⟨B',hB',hown,hbox⟩:=hL1.boxes b cs (by rw [hbx]; exact hcs)
 rw [hB] at hB'
 cases hB'
 obtain ⟨l1,l2⟩:=znu hr hok
 have hlc:off + (za7 c).length≤cs.length:=by rw [zd9 hok]; omega
 obtain ⟨cur,T,hcur,hfit,hnew⟩:=zin hbox (us:=(a.eval y).cells.toList) hlc l1 (fun i c' hi=>by
  obtain ⟨u,q1,q2,q3,q4⟩:=l2 i c' hi
  refine ⟨u,q1,q2,q3,fun how w' hw'=>?_⟩
  obtain ⟨rfl,rfl,rfl⟩:=q4 how
  exact zdq (by rw [hown]; intro h; cases h) hw' (hO how)) (fun i c' u hi how h w' hw'=>zdq (by rw [hown]; intro h; cases h) hw' h)
 have hvs:(a.eval y).cells.size=k:=by rw [← Array.length_toList,l1,zd9 hok,hlen]
 have hrun:=zfe (P:=P) hsz hcur (v:=a.eval y) hvs hfit (hr.cellsRel hok).2
 generalize hw':w.setRow B _=w' at hrun hnew
 have hE2:Evo ι j own1 w ι j own1 w' (fun u=>u=.box b):=hw' ▸ ziz hcur _ hown
 have hG2:GSim ι j own1 σ w':=by
  refine hG1.evo hE2 (fun b' o' v h=>?_) hG1.noimm (fun b' u h=>Nat.lt_of_lt_of_le (hG1.ownlt b' u h) hE2.size) hG1.jlt (fun id cs _=>⟨(fun h=>by cases h),(fun _ _ _ _ h=>by cases h)⟩) (fun _ _ _ h=>by cases h)
  have hne:b'≠B:=fun e=>by
   rw [e,hG1.noimm B _ hown rfl o'] at h
   cases h
  rw [← hw',cell_setRow_other w B _ _ hne]
  exact hG1.holds b' o' v h
 have hL2:LSim ι j own1 lb N {y'.drop e with boxes:=aset e.boxes b (zan cs off (za7 c))} a w':=by
  have h0:LSim ι j own1 lb N {y'.drop e with boxes:=adel1 e.boxes b} a w :=
   hL1.sub (fun s c h=>⟨c,h,rfl,fun h=>h⟩) (fun _ _ h=>h) (fun s cs h=>by
    simp only [zam] at h
    split at h
    ·cases h
    ·exact ⟨cs,by rw [hbx]; exact h,zbk.refl cs⟩) rfl
  have h1:=(h0.evo hE2 (fun _ _ _ _ h=>by cases h) (fun s cs h=>⟨(fun e=>by
   cases e
   simp only [zam,if_true] at h
   cases h),(fun _ _ _ _ h=>by cases h)⟩)).addBox hB hown hnew
  refine h1.sub (fun s c h=>⟨c,h,rfl,fun h=>h⟩) (fun _ _ h=>h) (fun s cs h=>⟨cs,?_,zbk.refl cs⟩) rfl
  simp only [zak,zam] at h ⊢
  split
  ·rename_i hs; rw [if_pos hs] at h; exact h
  ·rename_i hs; rw [if_neg hs] at h; exact h
 refine ⟨.skip,w',_,?_,.inr (.inl ⟨rfl,rfl⟩),ι,j,own1,lb,hG2,?_,hE1.trans (hE2.weaken fun _ _=>trivial)⟩
 ·simp only [execOp,ho,hx,Instr.storeAt,Instr.sureAddr,Sem.run_bind,Sem.run_pure,Result.andThen_ok,hrun]
 ·cases hds:o.dst with
  | none=>exact hL2
  | some s=>exact hL2.putC (hd s hds) ⟨by simp only [Rep],fun h=>by cases h⟩
theorem zvd (hG:GSim ι j own σ w) (hL:LSim ι j own lb N e a w) {o:Oper} {t:TypeId} {x y:Operand} {x' y':AOpd} {k id off:Nat} {c:Cell} {cs:List Cell} (ho:o.op=.store t x y) (hd:∀ s,o.dst=some s→s < N)
  (hk:okOpd x x'=true) (hk1:okOpd y y'=true) (hsz:sizeB P t=some k) (hp:addr e x'=some (.ptr id off)) (hc:opd e y'=some c) (hcs:aget σ.objs id=some cs) (hf:fits c k off cs=true) :
  Did P N ι j own w o a ((y'.drop e).put o.dst ⟨false,.undef⟩) {σ with objs:=aset σ.objs id (zan cs off (za7 c))}:=by
 obtain ⟨hok,hlen,hle⟩:=zsn hf
 obtain ⟨B,hB,hx⟩:=zca hL hk hp
 have hr:=zah hL hk1 hc
 obtain ⟨own1,hG1,hL1,hO,hE1⟩:=zf7 hG hL hk1 hc (t':=.ocell id off) rfl
 obtain ⟨B',hB',hown,hbox⟩:=hG1.objs id cs hcs
 rw [hB] at hB'
 cases hB'
 obtain ⟨l1,l2⟩:=znu hr hok
 have hlc:off + (za7 c).length≤cs.length:=by rw [zd9 hok]; omega
 obtain ⟨cur,T,hcur,hfit,hnew⟩:=zin hbox (us:=(a.eval y).cells.toList) hlc l1 (fun i c' hi=>by
  obtain ⟨u,q1,q2,q3,q4⟩:=l2 i c' hi
  refine ⟨u,q1,q2,q3,fun how w' hw'=>?_⟩
  obtain ⟨rfl,rfl,rfl⟩:=q4 how
  exact zdq (by rw [hown]; intro h; cases h) hw' (hO how)) (fun i c' u hi how h w' hw'=>zdq (by rw [hown]; intro h; cases h) hw' h)
 have hvs:(a.eval y).cells.size=k:=by rw [← Array.length_toList,l1,zd9 hok,hlen]
 have hrun:=zfe (P:=P) hsz hcur (v:=a.eval y) hvs hfit (hr.cellsRel hok).2
 generalize hw':w.setRow B _=w' at hrun hnew
 have hE2:Evo ι j own1 w ι j own1 w' (fun u=>u=.obj id):=hw' ▸ ziz hcur _ hown
 have hG2:GSim ι j own1 {σ with objs:=aset σ.objs id (zan cs off (za7 c))} w':=by
  refine ⟨fun b' o' v h=>?_,hG1.noimm,fun id' cs' h=>?_,fun id' t' cs' h1 h2 b' hb'=>?_,fun id' x' h=>?_,hG1.jlt,fun b' u h=>Nat.lt_of_lt_of_le (hG1.ownlt b' u h) hE2.size⟩
  ·have hne:b'≠B:=fun e=>by
    rw [e,hG1.noimm B _ hown rfl o'] at h
    cases h
   rw [← hw',cell_setRow_other w B _ _ hne]
   exact hG1.holds b' o' v h
  ·simp only [zak] at h
   by_cases hid:id=id'
   ·subst hid
    rw [if_pos rfl] at h
    cases h
    exact ⟨B,hB,hown,hnew⟩
   ·rw [if_neg hid] at h
    obtain ⟨B2,q1,q2,q3⟩:=hG1.objs id' cs' h
    exact ⟨B2,q1,q2,hE2.boxRel q2 (fun h=>by cases h; exact hid rfl) (fun _ _ _ _ h=>by cases h) q3⟩
  ·have hex:∃ cs0,aget σ.objs id'=some cs0:=by
    simp only [zak] at h2
    split at h2
    ·rename_i hh; subst hh; exact ⟨cs,hcs⟩
    ·exact ⟨cs',h2⟩
   obtain ⟨cs0,hcs0⟩:=hex
   have hty:=hG1.tys id' t' cs0 h1 hcs0 b' hb'
   by_cases hbB:b'=B
   ·subst hbB
    obtain ⟨row,hrow,hsz⟩:=hty
    have hrc:=hrow
    rw [hcur] at hrc
    cases hrc
    refine ⟨_,hw' ▸ setRow_heap w b' _ _ t'.t (0,0) hrow,fun h0=>?_⟩
    obtain ⟨c0,e1,e2,e3⟩:=hsz h0
    refine ⟨c0,e1,?_,e3⟩
    rw [← e2]
    simp only [List.size_toArray,List.length_append,List.length_take,List.length_drop,Array.length_toList]
    rw [Array.length_toList] at hfit
    omega
   ·exact hty.keep (by rw [← hw',setRow_other w B b' _ hbB]) (fun _ _ h=>h)
  ·obtain ⟨B2,q1,q2,q3⟩:=hG1.oth id' x' h
   have hbB:B2≠B:=fun e=>by
    subst e
    exact q3.notCells hcur
   exact ⟨B2,q1,q2,q3.keep (by rw [← hw',setRow_other w B B2 _ hbB]) (fun _ _ _ h=>h) (fun _ _ h=>h)⟩
 have hL2:LSim ι j own1 lb N (y'.drop e) a w':=hL1.evo hE2 (fun _ _ _ _ h=>by cases h) (fun _ _ _=>⟨(fun h=>by cases h),(fun _ _ _ _ h=>by cases h)⟩)
 refine ⟨.skip,w',_,?_,.inr (.inl ⟨rfl,rfl⟩),ι,j,own1,lb,hG2,?_,hE1.trans (hE2.weaken fun _ _=>trivial)⟩
 ·simp only [execOp,ho,hx,Instr.storeAt,Instr.sureAddr,Sem.run_bind,Sem.run_pure,Result.andThen_ok,hrun]
 ·cases hds:o.dst with
  | none=>exact hL2
  | some s=>exact hL2.putC (hd s hds) ⟨by simp only [Rep],fun h=>by cases h⟩
end
end Go.Mx
