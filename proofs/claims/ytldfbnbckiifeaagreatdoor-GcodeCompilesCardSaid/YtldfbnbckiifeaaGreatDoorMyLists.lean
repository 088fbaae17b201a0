/- A part of the proof. -/
import Derived.Test.YtldfbnbckiifeaaGreatDoorMyState
set_option linter.all false
namespace Go.Mx
open Go
section
variable[kQ]{P:Program}{I:fU}{j:fJ}{own:gZ}{lb:fJ}{N:Nat}{e:Env}{a:Go.Act}{w:World}{O:Store}
def jF(P:Program)(N:Nat)(I:fU)(j:fJ)(own:gZ)(w:World)(o:Oper)(a:Go.Act)(e':Env)(O':Store):Prop :=
 ∃nx w' a',(execOp a.eval o).run P w=.ok nx w' /\
  ((∃v,nx=.value v/\a'=a.put o.dst v)\/(nx=.skip/\a'=a.put o.dst Go.undef)\/(∃d,nx=.defer d/\a'=({a with defers:=d::a.defers}:Go.Act).put o.dst Go.undef)) /\
  ∃I' j' own' lb',eH I' j' own' O' w'/\eI I' j' own' lb' N e' a' w'/\fD I j own w I' j' own' w' (fun _=>True)
theorem Zx(_hG:eH I j own O w)(ob:Obj)(t:Tag):fD I j own w I j (fun b=>if b=w.heap.size then some t else own b) (w.alloc ob) (fun _=>False) where
 os:=rfl
 tape:=rfl
 output:=rfl
 size:=by simp
 qY:=fun _ _ _ h=>h
 lay:=fun _ _ h=>h
 block:=fun b hb _=>⟨heap_alloc_old w ob hb,if_neg (by omega),fun _=>rfl⟩
theorem Ef(hG:eH I j own O w){b o:Nat}{v:Value}(h:I b o=some v):b<w.heap.size:=World.block_lt_of_cell? w ⟨b,o,none⟩ (hG.holds b o v h)
theorem KW(hG:eH I j own O w)(ob:Obj)(t:Tag):eH I j (fun b=>if b=w.heap.size then some t else own b) O (w.alloc ob):=by
 refine hG.kN (Zx hG ob t) (fun b o v h=>?_) (fun b u h hu o=>?_) (fun b u h=>?_) hG.mG (fun _ _ _=>⟨fun h=>h,fun _ _ _ _ h=>h⟩) (fun _ _ _ h=>h)
 ·have hlt:=Ef hG h;have:=hG.holds b o v h;rw[World.cell?_alloc_past ob b o hlt];exact this
 ·by_cases hb:b=w.heap.size
  ·cases hi:I b o with
   |none=>rfl
   |some v=>have:=Ef hG hi;omega
  ·rw[if_neg hb]at h;exact hG.kS b u h hu o
 ·by_cases hb:b=w.heap.size
  ·subst hb;simp
  ·rw[if_neg hb]at h;have:=hG.jU b u h;simp;omega
theorem zoz(hG:eH I j own O w)(hL:eI I j own lb N e a w)(ob:Obj)(t:Tag):eI I j (fun b=>if b=w.heap.size then some t else own b) lb N e a (w.alloc ob) :=
 hL.kN (Zx hG ob t) (fun _ _ _ _ h=>h) (fun _ _ _=>⟨fun h=>h,fun _ _ _ _ h=>h⟩)
theorem zbl{own':gZ}{w':World}{B:Nat}{T:TypeId}{mk:Nat->Tag}{ds:List D}{vs:List Value}(hh:w'.heap[B]?=some (.cells ⟨vs⟩ T (0,0)))(hr:dV I j ds vs)(h1:∀x∈vs,x.oneCell'=true) :
  sJ I j own' w' B mk (ds.map Cell.of):=by
 refine⟨vs,T,hh,by rw[hr.length,aJ];exact aM _,fun i c hi=>?_⟩;rw[List.getElem?_map]at hi;cases hd:ds[i]? with
 |none=>rw[hd]at hi;cases hi
 |some d =>rw[hd]at hi;simp at hi;subst hi;obtain⟨v,hv,Za⟩:=hr.at i d hd;exact⟨v,hv,h1 v (List.mem_of_getElem? hv),Za,fun h=>by cases h⟩
theorem zbh(hG:eH I j own O w)(hL:eI I j own lb N e a w){o:Oper}{s:Nat}(hd:o.dst=some s)(hs:s<N){T:TypeId}{ds:List D}{vs:List Value}(hr:dV I j ds vs)(h1:∀x∈vs,x.oneCell'=true)
  (hrun:(execOp a.eval o).run P w=.ok (.value (.pointer (some ⟨w.heap.size,0,none⟩))) (w.alloc (.cells ⟨vs⟩ T))):jF P N I j own w o a (e.box s (ds.map Cell.of)) O:=by
 refine⟨_,_,_,hrun,.inl ⟨_,rfl,rfl⟩,I,j,_,(fun t=>if t=s then some w.heap.size else lb t),KW hG _ (.box s),?_,(Zx hG _ (.box s)).weaken (fun _ h=>h.elim)⟩;rw[hd];exact(zoz hG hL _ (.box s)).zi7b hs (if_pos rfl) (zbl (heap_alloc_new w _) hr h1)
theorem zce(hG:eH I j own O w)(hL:eI I j own lb N e a w){o:Oper}{t:TypeId}{z:List D}{zs:List Value}{s:Nat}(ho:o.op=.alloc t)(hd:o.dst=some s)(hs:s<N)(hz:rQ P t=some zs)(As:xA z zs=true) :
  jF P N I j own w o a (e.box s (z.map Cell.of)) O:=by
 obtain⟨zv,Hl,hzc⟩:=NH (P:=P) (w:=w) hz;obtain⟨z1,z2⟩:=Om I j z zs As;refine zbh hG hL hd hs (T:=t) z1 z2 ?_;simp only[execOp,ho,Instr.alloc,Sem.run_bind,Hl,Result.andThen_ok,newVar,newRow,run_newObj,Sem.run_pure,hzc];rfl
theorem zfg(hG:eH I j own O w)(hL:eI I j own lb N e a w){o:Oper}{t:TypeId}{x:Operand}{y:dS}{c:Cell}{s:Nat}(ho:o.op=.box t x)(hd:o.dst=some s)(hs:s<N)(hk:dT x y=true)(hc:eE e y=some c)(hok:c.d.ok=true) :
  jF P N I j own w o a (e.box s (c.d.cells.map Cell.of)) O:=by
 obtain⟨r1,r2⟩:=(gW hL hk hc).Gu hok;refine zbh hG hL hd hs (T:=t) r1 r2 ?_;simp only[execOp,ho,Instr.box,Sem.run_bind,newVar,newRow,run_newObj,Sem.run_pure,Result.andThen_ok];rfl
theorem zbi(hG:eH I j own O w)(hL:eI I j own lb N e a w){o:Oper}(hs:∀s,o.dst=some s->s<N){T:TypeId}{ds:List D}{vs:List Value}(hr:dV I j ds vs)(h1:∀x∈vs,x.oneCell'=true)
  (hrun:(execOp a.eval o).run P w=.ok (.value (.pointer (some ⟨w.heap.size,0,none⟩))) (w.alloc (.cells ⟨vs⟩ T))) :
  jF P N I j own w o a (e.put o.dst ⟨false,.ptr O.next 0⟩) {dE:=(O.next,ds.map Cell.of)::O.dE,fH:=(O.next,⟨T,0⟩)::O.fH,dP:=O.dP,next:=O.next+1}:=by
 classical
 let j':fJ:=fun i=>if i=O.next then some w.heap.size else j i
 have hjn:∀i b,j i=some b->i≠O.next:=fun i b h e=>by have:=hG.mG i b h;omega
 have hE0:=Zx hG (.cells ⟨vs⟩ T) (.obj O.next);have hE:fD I j own w I j' (fun b=>if b=w.heap.size then some (.obj O.next)else own b) (w.alloc (.cells ⟨vs⟩ T)) (fun _=>False) :=
  ⟨hE0.os,hE0.tape,hE0.output,hE0.size,hE0.qY,fun i b h=>by simp only[j',if_neg (hjn i b h)];exact h,hE0.block⟩
 have hG0:=KW hG (.cells ⟨vs⟩ T) (.obj O.next);have hr':dV I j' ds vs:=hE.Nj hr;have hG':eH I j' (fun b=>if b=w.heap.size then some (.obj O.next)else own b) {dE:=(O.next,ds.map Cell.of)::O.dE,fH:=(O.next,⟨T,0⟩)::O.fH,dP:=O.dP,next:=O.next+1} (w.alloc (.cells ⟨vs⟩ T)):=by
  refine⟨hG0.holds,hG0.kS,fun id cs h=>?_,fun id t cs h1 h2 b hb=>?_,fun id x h=>?_,fun id b h=>?_,hG0.jU⟩
  ·simp only[nH]at h;by_cases hid:O.next=id
   ·rw[if_pos hid]at h;cases h;subst hid;exact⟨w.heap.size,if_pos rfl,if_pos rfl,zbl (heap_alloc_new w _) hr' h1⟩
   ·rw[if_neg hid]at h;obtain⟨B,q1,q2,q3⟩:=hG.dE id cs h;have hlt:=hG.jU B _ q2;exact⟨B,hE.lay _ _ q1,by rw[if_neg (by omega)];exact q2,hE.zB q2 (fun h=>h) (fun _ _ _ _ h=>h) q3⟩
  ·simp only[nH]at h1 h2;by_cases hid:O.next=id
   ·rw[if_pos hid]at h1;cases h1;subst hid;simp only[j',if_pos rfl,aA]at hb;subst hb;exact⟨_,heap_alloc_new w _,fun h=>absurd h (Nat.lt_irrefl 0)⟩
   ·rw[if_neg hid]at h1 h2;simp only[j',if_neg (fun e=>hid (Eq.symm e))]at hb;have hty:=hG.fH id t cs h1 h2 b hb;have hlt:b<w.heap.size:=by
     obtain⟨row,hrow,_⟩:=hty;exact(Array.getElem?_eq_some_iff.1 hrow).1
    exact hty.keep (heap_alloc_old w _ hlt) hE.lay
  ·obtain⟨B,q1,q2,q3⟩:=hG.dP id x h;have hlt:=hG.jU B _ q2;exact⟨B,hE.lay _ _ q1,by rw[if_neg (by omega)];exact q2,q3.keep (heap_alloc_old w _ hlt) hE.qY hE.lay⟩
  ·by_cases hid:id=O.next
   ·simp only;omega
   ·simp only[j',if_neg hid]at h;have:=hG.mG id b h;simp only;omega
 refine⟨_,_,_,hrun,.inl ⟨_,rfl,rfl⟩,I,j',_,lb,hG',?_,hE.weaken (fun _ h=>h.elim)⟩;have hL':=hL.kN hE (fun _ _ _ _ h=>h) (fun _ _ _=>⟨fun h=>h,fun _ _ _ _ h=>h⟩);cases hd:o.dst with
 |none=>exact hL'
 |some s =>exact hL'.qV (hs s hd) ⟨by simp only[dL];exact⟨w.heap.size,if_pos rfl,rfl⟩,fun h=>by cases h⟩
theorem ztf(hG:eH I j own O w)(hL:eI I j own lb N e a w){o:Oper}{t:TypeId}{z:List D}{zs:List Value}(ho:o.op=.alloc t)(hs:∀s,o.dst=some s->s<N)(hz:rQ P t=some zs)(As:xA z zs=true) :
  jF P N I j own w o a (e.put o.dst ⟨false,.ptr O.next 0⟩) {dE:=(O.next,z.map Cell.of)::O.dE,fH:=(O.next,⟨t,0⟩)::O.fH,dP:=O.dP,next:=O.next+1}:=by
 obtain⟨zv,Hl,hzc⟩:=NH (P:=P) (w:=w) hz;obtain⟨z1,z2⟩:=Om I j z zs As;refine zbi hG hL hs (T:=t) z1 z2 ?_;simp only[execOp,ho,Instr.alloc,Sem.run_bind,Hl,Result.andThen_ok,newVar,newRow,run_newObj,Sem.run_pure,hzc];rfl
theorem zzq(hG:eH I j own O w)(hL:eI I j own lb N e a w){o:Oper}{t:TypeId}{x:Operand}{y:dS}{c:Cell}(ho:o.op=.box t x)(hs:∀s,o.dst=some s->s<N)(hk:dT x y=true)(hc:eE e y=some c)(hok:c.d.ok=true) :
  jF P N I j own w o a (e.put o.dst ⟨false,.ptr O.next 0⟩) {dE:=(O.next,c.d.cells.map Cell.of)::O.dE,fH:=(O.next,⟨t,0⟩)::O.fH,dP:=O.dP,next:=O.next+1}:=by
 obtain⟨r1,r2⟩:=(gW hL hk hc).Gu hok;refine zbi hG hL hs (T:=t) r1 r2 ?_;simp only[execOp,ho,Instr.box,Sem.run_bind,newVar,newRow,run_newObj,Sem.run_pure,Result.andThen_ok];rfl
/-! ### Stores -/
theorem BG:∀(cs:List Cell)(off:Nat)(new:List Cell),off+new.length<=cs.length->(putCells cs off new).length=cs.length/\∀k,(putCells cs off new)[k]?=if off<=k/\k<off+new.length then new[k-off]? else cs[k]?
 |cs,off,[],_=>by
  have:putCells cs off []=cs:=by cases cs<;>cases off<;>rfl
  rw[this];exact⟨rfl,fun k=>by rw[if_neg (by simp only[aH];omega)]⟩
 |[],off,x::new,h=>by simp at h
 |c::cs,0,x::new,h=>by
  simp only[putCells];obtain⟨h1,h2⟩:=BG cs 0 new (by simp at h ⊢;omega);refine⟨by simp[h1],fun k=>?_⟩;cases k with
  |zero=>simp
  |succ k =>
   simp only[List.getElem?_cons_succ,h2 k,aG];by_cases hk:k<new.length
   ·rw[if_pos ⟨by omega,by omega⟩,if_pos ⟨by omega,by omega⟩];simp
   ·rw[if_neg (by omega),if_neg (by omega)]
 |c::cs,off+1,x::new,h=>by
  simp only[putCells];obtain⟨h1,h2⟩:=BG cs off (x::new) (by simp at h ⊢;omega);refine⟨by simp[h1],fun k=>?_⟩;cases k with
  |zero=>rw[if_neg (by omega)];simp
  |succ k =>
   simp only[List.getElem?_cons_succ,h2 k];by_cases hk:off<=k/\k<off+(x::new).length
   ·rw[if_pos hk,if_pos ⟨by omega,by omega⟩];congr 1;omega
   ·rw[if_neg hk,if_neg (by omega)]
theorem LJ{B:Nat}{mk:Nat->Tag}{cs:List Cell}(hb:sJ I j own w B mk cs){off:Nat}{new:List Cell}{us:List Value}(hle:off+new.length<=cs.length)(hu:us.length=new.length)
  (hnew:∀(i:Nat)(c:Cell),new[i]?=some c->∃u,us[i]?=some u/\u.oneCell'=true/\dL I j c.d u/\(c.own=true->∀w',(∀b,b≠B->w'.heap[b]?=w.heap[b]?)->mD I own w' (mk (off+i)) c.d u))
  (hold:∀(i:Nat)(c:Cell)(u:Value),cs[i]?=some c->c.own=true->mD I own w (mk i) c.d u->∀w',(∀b,b≠B->w'.heap[b]?=w.heap[b]?)->mD I own w' (mk i) c.d u) :
  ∃(cur:Array Value)(T:TypeId),w.heap[B]?=some (.cells cur T (0,0))/\off+us.length<=cur.size /\
   sJ I j own (w.setRow B (cur.toList.take off++us++cur.toList.drop (off+us.length)).toArray) B mk (putCells cs off new):=by
 obtain⟨vs,T,h1,h2,h3⟩:=hb;obtain⟨p1,p2⟩:=BG cs off new hle;have hrest:∀row,∀b,b≠B->(w.setRow B row).heap[b]?=w.heap[b]?:=fun row b hb=>setRow_other w B b row hb;refine⟨⟨vs⟩,T,h1,by simp;omega,_,T,setRow_heap w B _ _ T (0,0) h1,?_,fun i c hi=>?_⟩
 ·simp only[aF,bI,List.length_drop];omega
 ·rw[p2 i]at hi;have hget:(vs.take off++us++vs.drop (off+us.length))[i]?=if off<=i/\i<off+new.length then us[i-off]? else vs[i]?:=by
   by_cases h4:i<off
   ·rw[if_neg (by omega),bR,List.getElem?_append_left (by simp;omega),List.getElem?_take,if_pos h4]
   ·by_cases h5:i<off+us.length
    ·rw[if_pos (by omega),bR,List.getElem?_append_right (by simp;omega),List.getElem?_append_left (by simp;omega)];congr 1;simp;omega
    ·rw[if_neg (by omega),List.getElem?_append_right (by simp;omega),List.getElem?_drop];congr 1;simp;omega
  by_cases hin:off<=i/\i<off+new.length
  ·rw[if_pos hin]at hi hget;obtain⟨u,q1,q2,q3,q4⟩:=hnew (i-off) c hi;refine⟨u,hget.trans q1,q2,q3,fun ho=>?_⟩;have:=q4 ho (w.setRow B (vs.take off++us++vs.drop (off+us.length)).toArray) (hrest _)
   rwa [show off+(i-off)=i by omega]at this
  ·rw[if_neg hin]at hi hget;obtain⟨v,q1,q2,q3,q4⟩:=h3 i c hi;exact⟨v,hget.trans q1,q2,q3,fun ho=>hold i c v hi ho (q4 ho) (w.setRow B (vs.take off++us++vs.drop (off+us.length)).toArray) (hrest _)⟩
theorem AR{c:Cell}(hok:c.d.ok=true):(pK c).length=c.d.cells.length:=by
 unfold pK;cases h:c.d.one with
 |true=>cases c with|mk o d=>cases d<;>simp only[D.one,aE]at h<;>rfl
 |false=>simp[dK]
theorem On{t:Tag}{B:Nat}{w':World}(hB:own B≠some t)(hrest:∀b,b≠B->w'.heap[b]?=w.heap[b]?){d:D}{v:Value}(k:mD I own w t d v):mD I own w' t d v:=by
 unfold mD at k ⊢;cases hp:yJ d v with
 |none=>trivial
 |some p =>
  rw[hp]at k;rcases k with k|⟨b,cap,cur,T,h1,h2,h3,h4,h5⟩
  ·exact .inl k
  ·exact .inr ⟨b,cap,cur,T,h1,h2,(hrest b fun e=>hB (e▸h2)).trans h3,h4,h5⟩
theorem A9(hG:eH I j own O w)(hL:eI I j own lb N e a w){x:Operand}{y:dS}(hk:dT x y=true){c:Cell}(hc:eE e y=some c){t':Tag}(hb':t'.Qp=false) :
  ∃own',eH I j own' O w/\eI I j own' lb N (y.drop e) a w/\(c.own=true->mD I own' w t' c.d (a.eval x))/\fD I j own w I j own' w (fun _=>True):=by
 cases ho:c.own with
 |false=>exact⟨own,hG,hL.drop y,(fun h=>by cases h),fD.refl _ _ _ _ _⟩
 |true =>
  cases y with
  |tmp s =>simp only[eE]at hc;obtain⟨c',h1,h2⟩:=dJ hc;cases h2;cases ho
  |const d =>simp only[eE]at hc;cases hc;cases ho
  |mv s =>
   cases x<;>simp only[dT,aE]at hk;have hk:=eq_of_beq hk;subst hk;simp only[eE]at hc;have how:=(hL.slots _ c hc).2 ho
   obtain⟨own',k1,k2,k3,k4⟩:=TY (t:=.slot _) (t':=t') rfl hb' hG (hL.drop (.mv _)) (fun s c' h1 h2 h3=>by
    cases h3;exact zx9 h1 h2 (by rw[hc];rfl) rfl) (fun s cs _ i c' _ _ h=>by cases h) (fun id cs _ i c' _ _ h=>by cases h) how
   exact⟨own',k1,k2,fun _=>k3,k4.weaken fun _ _=>trivial⟩
theorem MF{B:Nat}{cur:Array Value}{T:TypeId}(_h:w.heap[B]?=some (.cells cur T (0,0)))(row:Array Value){t:Tag}(ht:own B=some t):fD I j own w I j own (w.setRow B row) (fun u=>u=t) where
 os:=rfl
 tape:=rfl
 output:=rfl
 size:=by simp[World.setRow]
 qY:=fun _ _ _ h=>h
 lay:=fun _ _ h=>h
 block:=fun b _ hb=>⟨setRow_other w B b row (fun e=>hb t (e▸ht) rfl),rfl,fun _=>rfl⟩
theorem KT{t:TypeId}{k:Nat}(hk:jV P t=some k){B off:Nat}{cur:Array Value}{T:TypeId}(h:w.heap[B]?=some (.cells cur T (0,0))){v:Value}(hv:v.cells.size=k)(hle:off+v.cells.toList.length<=cur.size)(h1:∀x∈v.cells.toList,x.oneCell'=true) :
  (storeVar t ⟨B,off,none⟩ v).run P w=.ok () (w.setRow B (cur.toList.take off++v.cells.toList++cur.toList.drop (off+v.cells.toList.length)).toArray):=by
 have hs:=run_storeCells_at (P:=P) B off T v.cells.toList 0 cur w h (by simpa using hle) h1;simp only[Nat.add_zero]at hs;simp only[storeVar,Sem.run_bind,Az hk,Result.andThen_ok,hv];rw[if_neg (by simp)];exact hs
theorem zan{c:Cell}{v:Value}(hr:dL I j c.d v)(hok:c.d.ok=true):v.cells.toList.length=(pK c).length /\
  ∀(i:Nat)(c':Cell),(pK c)[i]?=some c'->∃u,v.cells.toList[i]?=some u/\u.oneCell'=true/\dL I j c'.d u/\(c'.own=true->i=0/\c'=c/\u=v):=by
 obtain⟨r1,r2⟩:=hr.Gu hok;refine⟨by rw[AR hok];exact r1.length,fun i c' hi=>?_⟩;unfold pK at hi;cases h:c.d.one with
 |true =>
  rw[h,dQ]at hi;obtain⟨h1,h2⟩:=hr.oneCell h;cases i with
  |zero =>simp at hi;subst hi;exact⟨v,by rw[h2];rfl,h1,hr,fun _=>⟨rfl,rfl,rfl⟩⟩
  |succ i=>simp at hi
 |false =>
  rw[h,dX,List.getElem?_map]at hi;cases hd:c.d.cells[i]? with
  |none=>rw[hd]at hi;cases hi
  |some d =>rw[hd]at hi;simp at hi;subst hi;obtain⟨u,hu,nU⟩:=r1.at i d hd;exact⟨u,hu,r2 u (List.mem_of_getElem? hu),nU,fun h=>by cases h⟩
theorem bz{c:Cell}{k off:Nat}{cs:List Cell}(h:sM c k off cs=true):c.d.ok=true/\c.d.cells.length=k/\off+k<=cs.length:=by simp only[sM,aC,beq_iff_eq,cE]at h;exact⟨h.1.1,h.1.2,h.2⟩
theorem zab(hG:eH I j own O w)(hL:eI I j own lb N e a w){o:Oper}{t:TypeId}{x y:Operand}{x' y':dS}{k b off:Nat}{c:Cell}{cs:List Cell}(ho:o.op=.store t x y)(hd:∀s,o.dst=some s->s<N)
  (hk:dT x x'=true) (hk1:dT y y'=true) (hsz:jV P t=some k) (hp:kL e x'=some (.loc b off)) (hc:eE e y'=some c) (hcs:dC e.boxes b=some cs) (hf:sM c k off cs=true) :
  jF P N I j own w o a (Env.put {y'.drop e with boxes:=fF e.boxes b (putCells cs off (pK c))} o.dst ⟨false,.undef⟩) O:=by
 obtain⟨hok,hlen,hle⟩:=bz hf;obtain⟨B,hB,hx⟩:=Be hL hk hp;have hr:=gW hL hk1 hc;obtain⟨jQ,hG1,hL1,hO,hE1⟩:=A9 hG hL hk1 hc (t':=.cell b off) rfl;obtain⟨_,hbx,_⟩:=YD (e:=e) y';obtain⟨B',hB',hown,oD⟩:=hL1.boxes b cs (by rw[hbx];exact hcs);rw[hB]at hB';cases hB';obtain⟨l1,l2⟩:=zan hr hok;have hlc:off+(pK c).length<=cs.length:=by rw[AR hok];omega
 obtain⟨cur,T,oH,hfit,hnew⟩:=LJ oD (us:=(a.eval y).cells.toList) hlc l1 (fun i c' hi=>by
  obtain⟨u,q1,q2,q3,q4⟩:=l2 i c' hi;refine⟨u,q1,q2,q3,fun how w' hw'=>?_⟩;obtain⟨rfl,rfl,rfl⟩:=q4 how;exact On (by rw[hown];intro h;cases h) hw' (hO how)) (fun i c' u hi how h w' hw'=>On (by rw[hown];intro h;cases h) hw' h)
 have hvs:(a.eval y).cells.size=k:=by rw[<-Array.length_toList,l1,AR hok,hlen]
 have hrun:=KT (P:=P) hsz oH (v:=a.eval y) hvs hfit (hr.Gu hok).2;generalize hw':w.setRow B _=w' at hrun hnew;have hE2:fD I j jQ w I j jQ w' (fun u=>u=.box b):=hw'▸MF oH _ hown;have hG2:eH I j jQ O w':=by
  refine hG1.kN hE2 (fun b' o' v h=>?_) hG1.kS (fun b' u h=>aP (hG1.jU b' u h) hE2.size) hG1.mG (fun id cs _=>⟨(fun h=>by cases h),(fun _ _ _ _ h=>by cases h)⟩) (fun _ _ _ h=>by cases h);have hne:b'≠B:=fun e=>by
   rw[e,hG1.kS B _ hown rfl o']at h;cases h
  rw[<-hw',cell_setRow_other w B _ _ hne];exact hG1.holds b' o' v h
 have hL2:eI I j jQ lb N {y'.drop e with boxes:=fF e.boxes b (putCells cs off (pK c))} a w':=by
  have h0:eI I j jQ lb N {y'.drop e with boxes:=gI e.boxes b} a w :=
   hL1.sub (fun s c h=>⟨c,h,rfl,fun h=>h⟩) (fun _ _ h=>h) (fun s cs h=>by
    simp only[mK]at h;split at h
    ·cases h
    ·exact⟨cs,by rw[hbx];exact h,pL.refl cs⟩) rfl
  have h1:=(h0.kN hE2 (fun _ _ _ _ h=>by cases h) (fun s cs h=>⟨(fun e=>by
   cases e;simp only[mK,if_true]at h;cases h),(fun _ _ _ _ h=>by cases h)⟩)).jd hB hown hnew
  refine h1.sub (fun s c h=>⟨c,h,rfl,fun h=>h⟩) (fun _ _ h=>h) (fun s cs h=>⟨cs,?_,pL.refl cs⟩) rfl;simp only[jM,mK]at h ⊢;split
  ·rename_i hs;rw[if_pos hs]at h;exact h
  ·rename_i hs;rw[if_neg hs]at h;exact h
 refine⟨.skip,w',_,?_,.inr (.inl ⟨rfl,rfl⟩),I,j,jQ,lb,hG2,?_,hE1.trans (hE2.weaken fun _ _=>trivial)⟩
 ·simp only[execOp,ho,hx,Instr.storeAt,Instr.sureAddr,Sem.run_bind,Sem.run_pure,Result.andThen_ok,hrun]
 ·cases hds:o.dst with
  |none=>exact hL2
  |some s=>exact hL2.qV (hd s hds) ⟨by simp only[dL],fun h=>by cases h⟩
theorem zpl(hG:eH I j own O w)(hL:eI I j own lb N e a w){o:Oper}{t:TypeId}{x y:Operand}{x' y':dS}{k id off:Nat}{c:Cell}{cs:List Cell}(ho:o.op=.store t x y)(hd:∀s,o.dst=some s->s<N)
  (hk:dT x x'=true) (hk1:dT y y'=true) (hsz:jV P t=some k) (hp:kL e x'=some (.ptr id off)) (hc:eE e y'=some c) (hcs:dC O.dE id=some cs) (hf:sM c k off cs=true) :
  jF P N I j own w o a ((y'.drop e).put o.dst ⟨false,.undef⟩) {O with dE:=fF O.dE id (putCells cs off (pK c))}:=by
 obtain⟨hok,hlen,hle⟩:=bz hf;obtain⟨B,hB,hx⟩:=Be hL hk hp;have hr:=gW hL hk1 hc;obtain⟨jQ,hG1,hL1,hO,hE1⟩:=A9 hG hL hk1 hc (t':=.uV id off) rfl;obtain⟨B',hB',hown,oD⟩:=hG1.dE id cs hcs;rw[hB]at hB';cases hB';obtain⟨l1,l2⟩:=zan hr hok;have hlc:off+(pK c).length<=cs.length:=by rw[AR hok];omega
 obtain⟨cur,T,oH,hfit,hnew⟩:=LJ oD (us:=(a.eval y).cells.toList) hlc l1 (fun i c' hi=>by
  obtain⟨u,q1,q2,q3,q4⟩:=l2 i c' hi;refine⟨u,q1,q2,q3,fun how w' hw'=>?_⟩;obtain⟨rfl,rfl,rfl⟩:=q4 how;exact On (by rw[hown];intro h;cases h) hw' (hO how)) (fun i c' u hi how h w' hw'=>On (by rw[hown];intro h;cases h) hw' h)
 have hvs:(a.eval y).cells.size=k:=by rw[<-Array.length_toList,l1,AR hok,hlen]
 have hrun:=KT (P:=P) hsz oH (v:=a.eval y) hvs hfit (hr.Gu hok).2;generalize hw':w.setRow B _=w' at hrun hnew;have hE2:fD I j jQ w I j jQ w' (fun u=>u=.obj id):=hw'▸MF oH _ hown;have hG2:eH I j jQ {O with dE:=fF O.dE id (putCells cs off (pK c))} w':=by
  refine⟨fun b' o' v h=>?_,hG1.kS,fun id' cs' h=>?_,fun id' t' cs' h1 h2 b' hb'=>?_,fun id' x' h=>?_,hG1.mG,fun b' u h=>aP (hG1.jU b' u h) hE2.size⟩
  ·have hne:b'≠B:=fun e=>by
    rw[e,hG1.kS B _ hown rfl o']at h;cases h
   rw[<-hw',cell_setRow_other w B _ _ hne];exact hG1.holds b' o' v h
  ·simp only[jM]at h;by_cases hid:id=id'
   ·subst hid;rw[if_pos rfl]at h;cases h;exact⟨B,hB,hown,hnew⟩
   ·rw[if_neg hid]at h;obtain⟨B2,q1,q2,q3⟩:=hG1.dE id' cs' h;exact⟨B2,q1,q2,hE2.zB q2 (fun h=>by cases h;exact hid rfl) (fun _ _ _ _ h=>by cases h) q3⟩
  ·have hex:∃cs0,dC O.dE id'=some cs0:=by
    simp only[jM]at h2;split at h2
    ·rename_i hh;subst hh;exact⟨cs,hcs⟩
    ·exact⟨cs',h2⟩
   obtain⟨cs0,JM⟩:=hex;have hty:=hG1.fH id' t' cs0 h1 JM b' hb';by_cases yQ:b'=B
   ·subst yQ;obtain⟨row,hrow,hsz⟩:=hty;have hrc:=hrow;rw[oH]at hrc;cases hrc;refine⟨_,hw'▸setRow_heap w b' _ _ t'.t (0,0) hrow,fun h0=>?_⟩;obtain⟨c0,e1,e2,e3⟩:=hsz h0;refine⟨c0,e1,?_,e3⟩;rw[<-e2];simp only[List.size_toArray,aF,bI,List.length_drop,Array.length_toList];rw[Array.length_toList]at hfit;omega
   ·exact hty.keep (by rw[<-hw',setRow_other w B b' _ yQ]) (fun _ _ h=>h)
  ·obtain⟨B2,q1,q2,q3⟩:=hG1.dP id' x' h;have yQ:B2≠B:=fun e=>by
    subst e;exact q3.Jt oH
   exact⟨B2,q1,q2,q3.keep (by rw[<-hw',setRow_other w B B2 _ yQ]) (fun _ _ _ h=>h) (fun _ _ h=>h)⟩
 have hL2:eI I j jQ lb N (y'.drop e) a w':=hL1.kN hE2 (fun _ _ _ _ h=>by cases h) (fun _ _ _=>⟨(fun h=>by cases h),(fun _ _ _ _ h=>by cases h)⟩);refine⟨.skip,w',_,?_,.inr (.inl ⟨rfl,rfl⟩),I,j,jQ,lb,hG2,?_,hE1.trans (hE2.weaken fun _ _=>trivial)⟩
 ·simp only[execOp,ho,hx,Instr.storeAt,Instr.sureAddr,Sem.run_bind,Sem.run_pure,Result.andThen_ok,hrun]
 ·cases hds:o.dst with
  |none=>exact hL2
  |some s=>exact hL2.qV (hd s hds) ⟨by simp only[dL],fun h=>by cases h⟩
end
section
variable[kQ]{P:Program}{I:fU}{j:fJ}{own:gZ}{lb:fJ}{N:Nat}{e:Env}{a:Go.Act}{w:World}{O:Store}
def fL(xs:List Value):List Value:=xs.flatMap fun x=>x.cells.toList
theorem Bc{sz:Nat}:∀{xs:List Value},(∀x∈xs,x.cells.size=sz)->(fL xs).length=xs.length*sz
 |[],_=>by simp[fL]
 |x::xs,h=>by
  have ih:=Bc (xs:=xs) fun y hy=>h y (by simp[hy]);simp only[fL,bE,aF,aG,Array.length_toList]at ih ⊢;rw[ih,h x (by simp),Nat.add_mul];omega
theorem zef{sz:Nat}(hsz:0<sz):∀{xs:List Value},(∀x∈xs,x.cells.size=sz)->∀(n:Nat)(y:Value),(fL xs)[n]?=some y->∃x,xs[n / sz]?=some x/\x.cells[n%sz]?=some y
 |[],_,n,y,hn=>by simp[fL]at hn
 |z::xs,h,n,y,hn=>by
  have hz:=h z (by simp);simp only[fL,bE]at hn;by_cases hlt:n<sz
  ·rw[List.getElem?_append_left (by rw[Array.length_toList,hz];exact hlt),Array.getElem?_toList]at hn;rw[Nat.div_eq_of_lt hlt,Nat.mod_eq_of_lt hlt];exact⟨z,rfl,hn⟩
  ·rw[List.getElem?_append_right (by rw[Array.length_toList,hz];omega),Array.length_toList,hz]at hn;obtain⟨x,h1,h2⟩:=zef hsz (xs:=xs) (fun y hy=>h y (by simp[hy])) (n-sz) y hn;have hge:sz<=n:=by omega
   rw[Nat.div_eq_sub_div hsz hge,Nat.mod_eq_sub_mod hge];exact⟨x,by simpa using h1,h2⟩
theorem zaz(xs ys:List Value):fL (xs++ys)=fL xs++fL ys:=by simp[fL]
theorem jS.vals{sz:Nat}:∀{es:List D}{b o:Nat},jS I j sz es b o->∃xs:List Value,dV I j es xs/\(∀x∈xs,x.cells.size=sz)/\∀(n:Nat)(y:Value),(fL xs)[n]?=some y->I b (o+n)=some y
 |[],b,o,_=>⟨[],by simp only[dV],by simp,by simp[fL]⟩
 |d::es,b,o,h=>by
  simp only[jS]at h;obtain⟨⟨x,h1,h2,h3⟩,h4⟩:=h;obtain⟨xs,k1,k2,k3⟩:=jS.vals h4;refine⟨x::xs,by simp only[dV];exact⟨x,xs,rfl,h3,k1⟩,fun y hy=>?_,fun n y hn=>?_⟩
  ·rcases aS.1 hy with rfl|hy
   ·exact h2
   ·exact k2 y hy
  ·simp only[fL,bE]at hn;by_cases hlt:n<sz
   ·rw[List.getElem?_append_left (by rw[Array.length_toList,h2];exact hlt),Array.getElem?_toList]at hn;exact h1 n y hn
   ·rw[List.getElem?_append_right (by rw[Array.length_toList,h2];omega),Array.length_toList,h2]at hn;have:=k3 (n-sz) y hn
    rwa [show o+sz+(n-sz)=o+n by omega]at this
theorem jS.EE{sz:Nat}:∀{es:List D}{xs:List Value}{b o:Nat},dV I j es xs->(∀x∈xs,x.cells.size=sz)->(∀(n:Nat)(y:Value),(fL xs)[n]?=some y->I b (o+n)=some y)->jS I j sz es b o
 |[],_,_,_,_,_,_=>by simp only[jS]
 |d::es,xs,b,o,h,h2,h3=>by
  simp only[dV]at h;obtain⟨x,r,rfl,k1,k2⟩:=h;have hx:=h2 x (by simp);simp only[jS];refine⟨⟨x,fun i y hi=>h3 i y ?_,hx,k1⟩,jS.EE k2 (fun y hy=>h2 y (by simp[hy])) fun n y hn=>?_⟩
  ·have hlt:=(Array.getElem?_eq_some_iff.1 hi).1;simp only[fL,bE];rw[List.getElem?_append_left (by simpa using hlt),Array.getElem?_toList];exact hi
  ·have:=h3 (sz+n) y (by
    simp only[fL,bE];rw[List.getElem?_append_right (by rw[Array.length_toList,hx];omega),Array.length_toList,hx,<-hn];congr 1;omega)
   rwa [<-Nat.add_assoc]at this
theorem Zy{sz:Nat}:∀{ds:List D}{xs:List Value},jZ sz ds=true->dV I j ds xs->(∀x∈xs,x.cells.size=sz)/\∀u∈fL xs,u.oneCell'=true
 |[],xs,_,h=>by simp only[dV]at h;subst h;simp[fL]
 |d::ds,xs,hs,h=>by
  simp only[dV]at h;obtain⟨x,r,rfl,h1,h2⟩:=h;simp only[jZ,aC,beq_iff_eq]at hs;obtain⟨⟨hok,hn⟩,hs⟩:=hs;obtain⟨k1,k2⟩:=Zy hs h2;obtain⟨_,q2⟩:=h1.Gu hok;refine⟨fun y hy=>?_,fun u hu=>?_⟩
  ·rcases aS.1 hy with rfl|hy
   ·rw[h1.zcw hok];exact hn
   ·exact k1 y hy
  ·simp only[fL,bE,bJ]at hu;rcases hu with hu|hu
   ·exact q2 u hu
   ·exact k2 u hu
/-! ### New memory that never changes -/
def rN(I:fU)(B lo hi:Nat)(f:Nat->Option Value):fU:=fun b o=>if b=B/\lo<=o/\o<hi then f o else I b o
theorem zb3(hG:eH I j own O w){w':World}{ob:Obj}(hw:w'=w.alloc ob\/w'=w.drew.alloc ob)(hi:Nat)(f:Nat->Option Value)(t:Tag) :
  fD I j own w (rN I w.heap.size 0 hi f) j (fun b=>if b=w.heap.size then some t else own b) w' (fun _=>False):=by
 have key:∀b,b<w.heap.size->w'.heap[b]?=w.heap[b]?:=by
  intro b hb;rcases hw with rfl|rfl
  ·exact heap_alloc_old w ob hb
  ·exact heap_alloc_old w.drew ob hb
 have hs:w.heap.size<=w'.heap.size:=by rcases hw with rfl|rfl<;>simp
 refine⟨by rcases hw with rfl|rfl<;>rfl,by rcases hw with rfl|rfl<;>rfl,by rcases hw with rfl|rfl<;>rfl,hs,fun b o v h=>?_,fun _ _ h=>h,fun b hb _=>⟨key b hb,if_neg (by omega),fun o=>if_neg (by omega)⟩⟩;have:=Ef hG h;unfold rN;rw[if_neg (by omega)];exact h
theorem zse(hG:eH I j own O w){w':World}{cur:Array Value}{T:TypeId}(hw:w'=w.alloc (.cells cur T)\/w'=w.drew.alloc (.cells cur T))(hi:Nat){f:Nat->Option Value}(hf:∀o v,o<hi->f o=some v->cur[o]?=some v){t:Tag}(ht:t.Qp=false) :
  eH (rN I w.heap.size 0 hi f) j (fun b=>if b=w.heap.size then some t else own b) O w':=by
 have hE:=zb3 hG hw hi f t;have hnew:w'.heap[w.heap.size]?=some (.cells cur T (0,0)):=by
  rcases hw with rfl|rfl
  ·exact heap_alloc_new w _
  ·exact heap_alloc_new w.drew _
 have hlt':w.heap.size<w'.heap.size:=(Array.getElem?_eq_some_iff.1 hnew).1;refine hG.kN hE (fun b o v h=>?_) (fun b u h hu o=>?_) (fun b u h=>?_) hG.mG (fun _ _ _=>⟨fun h=>h,fun _ _ _ _ h=>h⟩) (fun _ _ _ h=>h)
 ·unfold rN at h;by_cases hc:b=w.heap.size/\0<=o/\o<hi
  ·rw[if_pos hc]at h;obtain⟨rfl,_,ho⟩:=hc;rw[cell_of_row w' _ o cur T (0,0) hnew];exact hf o v ho h
  ·rw[if_neg hc]at h;have hb:=Ef hG h;have:=hG.holds b o v h;rw[World.cell?_of_block (w:=w) (w':=w') (a:=⟨b,o,none⟩) (hE.block b hb (fun _ _ h=>h)).1];exact this
 ·by_cases hb:b=w.heap.size
  ·simp only[if_pos hb,aA]at h;subst h;rw[ht]at hu;cases hu
  ·simp only[if_neg hb]at h;unfold rN;rw[if_neg (fun hc=>hb hc.1)];exact hG.kS b u h hu o
 ·by_cases hb:b=w.heap.size
  ·subst hb;exact hlt'
  ·simp only[if_neg hb]at h;have:=hG.jU b u h;omega
theorem eu{w':World}(hG:eH I j own O w)(hL:eI I j own lb N e a w){s:Nat}(hs:s<N){cur:Array Value}{T:TypeId}(hw:w'=w.alloc (.cells cur T)\/w'=w.drew.alloc (.cells cur T)){sz:RowK}{cap:Nat}{es:List D}{xs:List Value}(hT:T=sz.el)
  (hx:dV I j es xs) (hsz:∀x∈xs,x.cells.size=sz.sz) (oH:∀(n:Nat)(y:Value),(fL xs)[n]?=some y->cur[n]?=some y) (hcs:cur.size=cap*sz.sz) (hle:es.length<=cap) (hmax:cap<=maxLen) :
  ∃I' own',eH I' j own' O w'/\eI I' j own' lb N (e.put (some s) ⟨true,.list sz es⟩) (a.put (some s) (.slice (some ⟨w.heap.size,0,none⟩) es.length cap)) w'/\fD I j own w I' j own' w' (fun _=>True):=by
 have hE:=zb3 hG hw (es.length*sz.sz) (fun o=>(fL xs)[o]?) (.slot s);have hG':=zse hG hw (es.length*sz.sz) (f:=fun o=>(fL xs)[o]?) (fun o v _ h=>oH o v h) (t:=.slot s) rfl;have hnew:w'.heap[w.heap.size]?=some (.cells cur T (0,0)):=by
  rcases hw with rfl|rfl
  ·exact heap_alloc_new w _
  ·exact heap_alloc_new w.drew _
 have hL':=hL.kN hE (fun _ _ _ _ h=>h) (fun _ _ _=>⟨fun h=>h,fun _ _ _ _ h=>h⟩);refine⟨_,_,hG',hL'.qV hs ⟨?_,fun _=>?_⟩,hE.weaken (fun _ h=>h.elim)⟩
 ·simp only[dL];refine⟨_,cap,rfl,hle,hmax,.inr ⟨w.heap.size,0,rfl,jS.EE (hE.Nj hx) hsz fun n y hn=>?_⟩⟩;have hlt:=(List.getElem?_eq_some_iff.1 hn).1;rw[Bc hsz,hx.length]at hlt;unfold rN;rw[if_pos ⟨rfl,by omega,by omega⟩,aN];exact hn
 ·simp only[p9,Ko];refine .inr ⟨w.heap.size,cap,cur,T,rfl,if_pos rfl,hnew,⟨hT,hcs⟩,fun o ho=>?_⟩;unfold rN;rw[if_neg (by omega)];cases hi:I w.heap.size o with
  |none=>rfl
  |some v=>have:=Ef hG hi;omega
end
end Go.Mx
