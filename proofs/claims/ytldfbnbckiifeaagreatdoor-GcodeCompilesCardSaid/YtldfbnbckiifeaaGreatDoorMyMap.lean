/- A part of the proof. -/
import Derived.Test.YtldfbnbckiifeaaGreatDoorMyArr
import Derived.Carry
import Derived.Laws.Externs
set_option linter.all false
namespace Go.Mx
open Go
section
variable[kQ]{P:Program}{I:fU}{j:fJ}{own:gZ}{lb:fJ}{N:Nat}{e:Env}{a:Go.Act}{w:World}{O:Store}
theorem zth(hG:eH I j own O w)(hL:eI I j own lb N e a w){o:Oper}(hd:∀s,o.dst=some s->s<N){d:D}{u:Value}(hrun:(execOp a.eval o).run P w=.ok (.value u) w)(hr:dL I j d u)(hO:∀(t':Tag) (own':gZ),mD I own' w t' d u) :
  jF P N I j own w o a (e.put o.dst ⟨true,d⟩) O:=by
 refine⟨_,_,_,hrun,.inl ⟨_,rfl,rfl⟩,I,j,own,lb,hG,?_,fD.refl _ _ _ _ _⟩;cases hds:o.dst with
 |none=>exact hL
 |some s=>exact hL.qV (hd s hds) ⟨hr,fun _=>hO _ _⟩
theorem ztj(hG:eH I j own O w)(hL:eI I j own lb N e a w){o:Oper}{t:TypeId}{x y:Operand}{x' y':dS}{k id off:Nat}{c:Cell}{cs:List Cell}(ho:o.op=.store t x y)(hd:∀s,o.dst=some s->s<N)
  (hk:dT x x'=true) (hk1:dT y y'=true) (hsz:jV P t=some k) (hp:kL e x'=some (.ptr id off)) (hc:eE e y'=some c) (hcs:dC O.dE id=some cs) (hf:sM ⟨false,c.d⟩ k off cs=true) :
  jF P N I j own w o a (e.put o.dst ⟨false,.undef⟩) {O with dE:=fF O.dE id (putCells cs off (pK ⟨false,c.d⟩))}:=by
 obtain⟨hok,hlen,hle⟩:=bz hf;simp only at hok hlen;obtain⟨B,hB,hx⟩:=Be hL hk hp;have hr:=gW hL hk1 hc;obtain⟨r1,r2⟩:=hr.Gu hok;have uX:pK ⟨false,c.d⟩=c.d.cells.map Cell.of:=by
  unfold pK;simp only;cases h:c.d.one with
  |true =>rw[dQ];cases hcd:c.d<;>rw[hcd]at h<;>simp only[D.one,aE]at h<;>rfl
  |false=>rw[dX]
 rw[uX];have yS:=r1.length;obtain⟨cur,T,h2,h3,h4,h5⟩:=zh4 hG hcs hB r1 r2 (off:=off) (by omega);have hvs:(a.eval y).cells.size=k:=by rw[<-Array.length_toList,r1.length,hlen]
 have hrun:=KT (P:=P) hsz h2 (v:=a.eval y) hvs h3 r2;refine⟨.skip,_,_,?_,.inr (.inl ⟨rfl,rfl⟩),I,j,own,lb,h4,?_,h5.weaken fun _ _=>trivial⟩
 ·simp only[execOp,ho,hx,Instr.storeAt,Instr.sureAddr,Sem.run_bind,Sem.run_pure,Result.andThen_ok,hrun]
 ·have hL':=hL.kN h5 (fun _ _ _ _ h=>by cases h) (fun _ _ _=>⟨(fun h=>by cases h),(fun _ _ _ _ h=>by cases h)⟩);cases hds:o.dst with
  |none=>exact hL'
  |some s=>exact hL'.qV (hd s hds) ⟨by simp only[dL],fun h=>by cases h⟩
theorem l5'(hG:eH I j own O w)(hL:eI I j own lb N e a w){o:Oper}(hd:∀s,o.dst=some s->s<N){x:rJ}{ob:Obj}{r:D}{v:Value}
  (hx:∀j':fJ,(∀i b,j i=some b->j' i=some b)->yZ I j' (w.alloc ob) w.heap.size x) (hrun:(execOp a.eval o).run P w=.ok (.value v) (w.alloc ob)) (hv:∀j':fJ,j' O.next=some w.heap.size->dL I j' r v) :
  jF P N I j own w o a (e.put o.dst ⟨false,r⟩) {O with dP:=(O.next,x)::O.dP,next:=O.next+1}:=by
 classical
 let j':fJ:=fun i=>if i=O.next then some w.heap.size else j i
 have hjn:∀i b,j i=some b->i≠O.next:=fun i b h e=>by have:=hG.mG i b h;omega
 have hE0:=Zx hG ob (.obj O.next);have hE:fD I j own w I j' (fun b=>if b=w.heap.size then some (.obj O.next)else own b) (w.alloc ob) (fun _=>False) :=
  ⟨hE0.os,hE0.tape,hE0.output,hE0.size,hE0.qY,fun i b h=>by simp only[j',if_neg (hjn i b h)];exact h,hE0.block⟩
 have hG0:=KW hG ob (.obj O.next);have hG':eH I j' (fun b=>if b=w.heap.size then some (.obj O.next)else own b) {O with dP:=(O.next,x)::O.dP,next:=O.next+1} (w.alloc ob):=by
  refine⟨hG0.holds,hG0.kS,fun id cs h=>?_,fun id t cs h1 h2 b hb=>?_,fun id x' h=>?_,fun id b h=>?_,hG0.jU⟩
  ·obtain⟨B,q1,q2,q3⟩:=hG.dE id cs h;have hlt:=hG.jU B _ q2;exact⟨B,hE.lay _ _ q1,by rw[if_neg (by omega)];exact q2,hE.zB q2 (fun h=>h) (fun _ _ _ _ h=>h) q3⟩
  ·obtain⟨B,q1,q2,q3⟩:=hG.dE id cs h2;have hb':=hE.lay _ _ q1;rw[hb]at hb';cases hb';have hlt:=hG.jU b _ q2;exact(hG.fH id t cs h1 h2 b q1).keep (heap_alloc_old w _ hlt) hE.lay
  ·simp only[nH]at h;by_cases hid:O.next=id
   ·rw[if_pos hid]at h;cases h;subst hid;exact⟨w.heap.size,if_pos rfl,if_pos rfl,hx _ hE.lay⟩
   ·rw[if_neg hid]at h;obtain⟨B,q1,q2,q3⟩:=hG.dP id x' h;have hlt:=hG.jU B _ q2;exact⟨B,hE.lay _ _ q1,by rw[if_neg (by omega)];exact q2,q3.keep (heap_alloc_old w _ hlt) hE.qY hE.lay⟩
  ·by_cases hid:id=O.next
   ·simp only;omega
   ·simp only[j',if_neg hid]at h;have:=hG.mG id b h;simp only;omega
 refine⟨_,_,_,hrun,.inl ⟨_,rfl,rfl⟩,I,j',_,lb,hG',?_,hE.weaken (fun _ h=>h.elim)⟩;have hL':=hL.kN hE (fun _ _ _ _ h=>h) (fun _ _ _=>⟨fun h=>h,fun _ _ _ _ h=>h⟩);cases hds:o.dst with
 |none=>exact hL'
 |some d=>exact hL'.qV (hd d hds) ⟨hv j' (if_pos rfl),fun h=>by cases h⟩
theorem l5(hG:eH I j own O w)(hL:eI I j own lb N e a w){o:Oper}(hd:∀s,o.dst=some s->s<N){x:rJ}{ob:Obj}{r:D}{v:Value}
  (hx:∀(I':fU)(j':fJ)(w':World),w'.heap[w.heap.size]?=some ob->yZ I' j' w' w.heap.size x) (hrun:(execOp a.eval o).run P w=.ok (.value v) (w.alloc ob)) (hv:∀j':fJ,j' O.next=some w.heap.size->dL I j' r v) :
  jF P N I j own w o a (e.put o.dst ⟨false,r⟩) {O with dP:=(O.next,x)::O.dP,next:=O.next+1} :=
 l5' hG hL hd (fun j' _=>hx _ _ _ (heap_alloc_new w _)) hrun hv
theorem zq4(hG:eH I j own O w)(hL:eI I j own lb N e a w){o:Oper}{t:TypeId}(ho:o.op=.makeMap t none)(hd:∀s,o.dst=some s->s<N) :
  jF P N I j own w o a (e.put o.dst ⟨false,.map O.next⟩) {O with dP:=(O.next,.map [] 0)::O.dP,next:=O.next+1}:=by
 refine l5 hG hL hd (ob:=.map #[] 0) (v:=.map (some w.heap.size)) (fun I' j' w' h=>⟨[],h,by simp only[jR]⟩) ?_ (fun j' h=>by simp only[dL];exact⟨_,h,rfl⟩);have hrun:(Instr.makeMap t none).run P w=.ok (.map (some w.heap.size)) (w.alloc (.map #[] 0)):=rfl;simp only[execOp,ho,Option.map_none,Sem.run_bind,hrun,Result.andThen_ok,Sem.run_pure]
theorem zpk(hG:eH I j own O w)(hL:eI I j own lb N e a w){o:Oper}{t kt el:TypeId}{k:IntKind}{n:Int}(ho:o.op=.makeMap t (some (.const (.int k n))))(ht:P.underlying t=some (.map kt el))(hd:∀s,o.dst=some s->s<N) :
  jF P N I j own w o a (e.put o.dst ⟨false,.map O.next⟩) {O with dP:=(O.next,.map [] 0)::O.dP,next:=O.next+1}:=by
 refine l5 hG hL hd (ob:=.map #[] 0) (v:=.map (some w.heap.size)) (fun I' j' w' h=>⟨[],h,by simp only[jR]⟩) ?_ (fun j' h=>by simp only[dL];exact⟨_,h,rfl⟩);have hc:a.eval (.const (.int k n))=.int k n:=rfl;have hrun:(Instr.makeMap t (some (.int k n))).run P w=.ok (.map (some w.heap.size)) (w.alloc (.map #[] 0)):=by
  simp only[Instr.makeMap,Sem.run_bind,run_underlying ht,Result.andThen_ok,asInt,asIntOf,Sem.run_pure,run_newObj];rfl
 simp only[execOp,ho,bN,hc,Sem.run_bind,hrun,Result.andThen_ok,Sem.run_pure]
theorem zdib{n:Int}(h1:-9223372036854775808<=n)(h2:n<=9223372036854775807):IntKind.i64.wrap n=n:=by simp[IntKind.wrap,IntKind.bits,IntKind.signed];omega
theorem znq(t ti ty el:TypeId)(i:TypeInfo)(z:Value)(kk:IntKind)(ht:P.underlying t=some (.slice el))(hti:P.underlying ti=some (.int kk))(hi:P.info? el=some i)(hz:i.zero=some z)(hsz:¬i.size=0)(m:Nat)(hm:0<m)(hm2:m<=1099511627776)(hmb:m*i.bytes<=1099511627776) :
  (Builtin.append_ #[t,ti] ty #[.slice none 0 0,.int .i64 m]).run P w =
   .ok (.slice (some ⟨w.heap.size,0,none⟩) m (grownCap w m 0 el)) (w.drew.alloc (.cells (Builtin.zeroCells z.cells m++Builtin.zeroCells z.cells (grownCap w m 0 el-m)) el)):=by
 have hfit:Builtin.nextslicecap m 0*i.bytes<=281474976710656:=growslice_fits (by omega) (by omega);have hw:IntKind.i64.wrap (m:Int)=m:=zdib (by omega) (by omega);have h1:¬((m:Int)<0):=by omega
 have h2:¬(281474976710656<(m:Int)*(i.bytes:Int)):=by omega
 have h3:m≠0:=by omega
 have h63':¬(9223372036854775807<(m:Int)):=by omega
 have h48':¬(281474976710656<Builtin.nextslicecap m 0*i.bytes):=by omega
 simp[Builtin.append_,run_underlying ht,run_underlying hti,sizeOf,typeInfo,zeroValue,hi,hz,asInt,asIntOf,hw,h1,h2,h3,h63',h48',Question.forced,newRow,grownCap,hsz,Builtin.firstCells];intro h;rcases Nat.mul_eq_zero.1 h with h|h
 ·exact absurd h h3
 ·exact absurd h hsz
theorem zwo(hG:eH I j own O w)(hL:eI I j own lb N e a w){o:Oper}{t ti:TypeId}{k:RowK}{fG:Nat}{x y:Operand}{x' y':dS}{z:List D}{zs:List Value}{c d:Cell}{m:Nat}
  (ho:o.op=.call {callee:=.builtin .append,args:=⟨[x,y]⟩,argTypes:=⟨[t,ti]⟩}) (hd:∀s,o.dst=some s->s<N) (hk:dT x x'=true) (hk1:dT y y'=true)
  (ht:nF P t=some k.el) (hti:Ez P ti=some .i64) (hsz:jV P k.el=some k.sz) (hz:rQ P k.el=some zs) (hzl:zs.length=k.sz) (hpos:0<k.sz) (hby:uP P k.el=some fG) (As:xA z zs=true)
  (hc:eE e x'=some c) (hcn:c.d=.dN) (hcd:eE e y'=some d) (hm:d.d=.int .i64 m) (hm0:0<m) (hb1:m*fG<=iN) (hb2:m<=iN) :
  jF P N I j own w o a (e.put o.dst ⟨false,.arr k O.next 0 m⟩) (fR O k (Ce z m)):=by
 have hu:=uF ht;obtain⟨ie,zv,i1,i2,i3,i4⟩:=E5 hsz hz;have Yk:ie.bytes=fG:=by simpa[uP,i1]using hby
 have hx:=gW hL hk hc;rw[hcn]at hx;simp only[dL]at hx;have hy:=gW hL hk1 hcd;rw[hm]at hy;simp only[dL]at hy;have hb1':m*fG<=1099511627776:=hb1;have hb2':m<=1099511627776:=hb2;have hiu:P.underlying ti=some (.int .i64):=by
  unfold Ez at hti;split at hti
  ·rename_i k' hk';cases hti;exact hk'
  ·cases hti
 have hrun:=znq (P:=P) (w:=w) t ti o.type k.el ie zv .i64 hu hiu i1 i3 (by rw[i2];omega) m hm0 hb2' (by rw[Yk];exact hb1');obtain⟨z1,z2⟩:=Om I j z zs As;rw[OB];have hvs:∀v∈(List.replicate m zs).flatMap id,v.oneCell'=true:=(by intro v hv;obtain⟨i,hi⟩:=List.getElem?_of_mem hv;exact z2 v (List.mem_of_getElem? (Wq zs m i v hi).2));have hcells:zv.cells=zs.toArray:=by rw[<-i4]
 have hcapge:m<=grownCap w m 0 k.el:=grownCap_ge w _ _ _;have Jx:grownCap w m 0 k.el<=maxLen:=grownCap_le_maxLen w _ _ _ (by simp only[maxLen];omega)
 obtain⟨own',q1,q2⟩:=MC hG (cH:=O) (fun _ _ h=>h) (fun _ _ h=>h) (fun _ _ h=>h) rfl (.inr rfl) (NZ z1 m) hvs (row:=Builtin.zeroCells zv.cells m++Builtin.zeroCells zv.cells (grownCap w m 0 k.el-m)) (fun n y hn=>by
  obtain⟨q1,q2⟩:=Wq zs m n y hn;rw[Array.getElem?_append_left (by rw[Zw i4 hzl,<-hzl];exact q1)];unfold Builtin.zeroCells;rw[hcells];simp only[Array.getElem?_map,Array.getElem?_range,List.size_toArray,q1,if_true,bN];rw[List.getElem!_toArray,List.getElem!_eq_getElem?_getD,q2];rfl) (c:=grownCap w m 0 k.el) (by
  rw[Array.size_append,Zw i4 hzl,Zw i4 hzl,<-Nat.add_mul];congr 1;omega) Jx
 refine OI hL hd q1 q2 (fun _ _ _ _ h=>h) (fun _ _ _=>⟨fun h=>h,fun _ _ _ _ h=>h⟩) hcapge Jx ?_;simp only[execOp,ho,resolve,invoke,builtin,Sem.run_bind,Sem.run_pure,Result.andThen_ok,List.map_toArray,aO,aZ,hx,hy,hrun]
theorem zzp(hG:eH I j own O w)(hL:eI I j own lb N e a w){o:Oper}{t:TypeId}{x:Operand}{x':dS}{c:Cell}(ho:o.op=.call {callee:=.builtin .cap,args:=⟨[x]⟩,argTypes:=⟨[t]⟩})(hd:∀s,o.dst=some s->s<N)(hk:dT x x'=true)
  (ht:(nF P t).isSome=true) (hc:eE e x'=some c) (hcn:c.d=.dN):jF P N I j own w o a (e.put o.dst ⟨false,.int .i64 0⟩) O:=by
 have hx:=gW hL hk hc;rw[hcn]at hx;simp only[dL]at hx;obtain⟨el,hel⟩:=aT.1 ht;have hu:=uF hel;have hrun:(execOp a.eval o).run P w=.ok (.value (.int .i64 0)) w:=(by simp only[execOp,ho,resolve,invoke,builtin,Sem.run_bind,Sem.run_pure,Result.andThen_ok,List.map_toArray,aO,aZ,hx];simp[Builtin.cap_,run_underlying hu,goInt]);refine⟨_,_,_,hrun,.inl ⟨_,rfl,rfl⟩,I,j,own,lb,hG,?_,fD.refl _ _ _ _ _⟩;cases hds:o.dst with
 |none=>exact hL
 |some s=>exact hL.qV (hd s hds) ⟨by simp only[dL],fun h=>by cases h⟩
def je(P:Program)(g:FuncId):Bool:=match P.funcs[g]? with
 |some fn=>fn.name == "maps.clone"&&fn.origin == ""&&fn.body.isNone
 |none=>false
theorem zu5 {fn:Func} (h:fn.name= "maps.clone"):Extern.find fn=some Extern.MapsClone.clone:=by
 unfold Extern.find;rw[h];have h1:Extern.allGenericRows.lookup "maps.clone"=none:=by kernel_rfl
 have h2:Extern.allTypedRows.lookup "maps.clone"=none:=by kernel_rfl
 have h3:Extern.allRows.lookup "maps.clone"=some Extern.MapsClone.clone:=by kernel_rfl
 simp only[h1,h2,h3];rfl
theorem zn7 {fn:Func} (h:fn.name= "maps.clone") (h':fn.origin= ""):Extern.findNext fn=none:=by
 unfold Extern.findNext;rw[h,h'];have h1:Extern.allNextRows.lookup "maps.clone"=none:=by kernel_rfl
 have h2:Extern.allNextRows.lookup ""=none:=by kernel_rfl
 simp only[h1,h2];rfl
theorem zzl{r:Nat}{es:Array MapEntry}{clock:Nat}(t:TypeId)(hb:w.heap[r]?=some (.map es clock)) :
  (Extern.MapsClone.clone #[.iface t (.map (some r))]).run P w=.ok (.iface t (.map (some w.heap.size))) (w.alloc (.map es clock)):=by
 have e:Extern.MapsClone.clone #[.iface t (.map (some r))]=(getObj r >>=fun o=>match o with
   |.map entries clock=>(newObj (.map entries clock) >>=fun n=>pure (.iface t (.map (some n))))
   |_=>stuck "maps.clone: a map expected"):=rfl
 have hg:(getObj r).run P w=.ok (.map es clock) w:=by simp[getObj,Sem.run,hb]
 rw[e];simp only[Sem.run_bind,hg,Result.andThen_ok,run_newObj,Sem.run_pure];rfl
theorem ztc(hG:eH I j own O w)(hL:eI I j own lb N e a w){o:Oper}{g:FuncId}{x:Operand}{y:dS}{ts:Array TypeId}{t id cl:Nat}{es:List (D×D×Nat)}{b:Bool}(ho:o.op=.call {callee:=.value (.func g),args:=⟨[x]⟩,argTypes:=ts})(hg:je P g=true)
  (hd:∀s,o.dst=some s->s<N) (hk:dT x y=true) (h1:eE e y=some ⟨b,.iface t (.map id)⟩) (h2:dC O.dP id=some (.map es cl)) :
  jF P N I j own w o a (e.put o.dst ⟨false,.iface t (.map O.next)⟩) {O with dP:=(O.next,.map es cl)::O.dP,next:=O.next+1}:=by
 have hr:=gW hL hk h1;simp only[dL]at hr;obtain⟨v,hv,B,hB,rfl⟩:=hr;obtain⟨B',q1,q2,l,q3,q4⟩:=hG.dP id _ h2;rw[hB]at q1;cases q1;unfold je at hg;split at hg
 ·rename_i fn hfn;simp only[aC,beq_iff_eq]at hg;obtain⟨⟨n1,n2⟩,n3⟩:=hg;have hex:=run_callFunc_extern (P:=P) hfn (by rw[n1];rfl) n3 (zn7 n1 n2) (zu5 n1) #[.iface t (.map (some B))] w;rw[zzl t q3]at hex;refine l5' hG hL hd (x:=.map es cl) (ob:=.map ⟨l⟩ cl) (v:=.iface t (.map (some w.heap.size))) (fun j' hj'=>⟨l,heap_alloc_new w _,q4.mono (fun _ _ _ h=>h) hj'⟩) ?_ (fun j' h=>by simp only[dL];exact⟨_,rfl,_,h,rfl⟩);have hev:a.eval (.func g)=.func (.func g) #[] #[]:=rfl;have hargs:(#[]:Array Value)++Array.map a.eval ⟨[x]⟩++#[]=#[.iface t (.map (some B))]:=by
   simp[hv]
  simp only[execOp,ho,resolve,hev,Deferred.ofValue,Sem.run_bind,Sem.run_pure,Result.andThen_ok,invoke];rw[hargs,hex];rfl
 ·cases hg
theorem zq3(hG:eH I j own O w)(hL:eI I j own lb N e a w){o:Oper}{x:Operand}{y:dS}{t u:TypeId}{c:Cell}{d:D}(ho:o.op=.typeAssert x u t false)(hd:∀s,o.dst=some s->s<N)(hk:dT x y=true)(ht:xG P t=some false)
  (h1:eE e y=some c) (h2:c.d=.iface t d):jF P N I j own w o a (e.put o.dst ⟨false,d⟩) O:=by
 have hr:=gW hL hk h1;rw[h2]at hr;simp only[dL]at hr;obtain⟨v,hv,Za⟩:=hr;have ht:∃d,P.underlying t=some d/\∀m,d≠.interface m:=by
  cases hd:P.underlying t with
  |none=>unfold xG at ht;rw[hd]at ht;cases ht
  |some d =>refine⟨d,rfl,fun m e=>?_⟩;subst e;unfold xG at ht;rw[hd]at ht;simp at ht
 obtain⟨td,hu,hni⟩:=ht;have hrun:(execOp a.eval o).run P w=.ok (.value v) w:=by
  simp only[execOp,ho,hv,Sem.run_bind];have:(Instr.typeAssert (.iface t v) u t false).run P w=.ok v w:=by
   cases td<;>simp[Instr.typeAssert,run_underlying hu,go_sem,Result.andThen]at hni ⊢
  rw[this];rfl
 refine⟨_,_,_,hrun,.inl ⟨_,rfl,rfl⟩,I,j,own,lb,hG,?_,fD.refl _ _ _ _ _⟩;cases hds:o.dst with
 |none=>exact hL
 |some s=>exact hL.qV (hd s hds) ⟨Za,fun h=>by cases h⟩
theorem lg(hG:eH I j own O w){id B:Nat}{x y:rJ}{ob:Obj}(hid:dC O.dP id=some x)(hB:j id=some B)(hown:own B=some (.obj id))(hx:∀w':World,w'.heap[B]?=some ob->yZ I j w' B y){w':World}(hw':w'={w with heap:=w.heap.setIfInBounds B ob}) :
  eH I j own {O with dP:=fF O.dP id y} w'/\fD I j own w I j own w' (fun t=>t=.obj id):=by
 obtain⟨B',hB',_,hrel⟩:=hG.dP id x hid;rw[hB]at hB';cases hB';have hBlt:=hrel.lt;have hoth:∀b,b≠B->w'.heap[b]?=w.heap[b]?:=fun b hb=>by
  rw[hw'];simp[Array.getElem?_setIfInBounds_ne (Ne.symm hb)]
 have hnew:w'.heap[B]?=some ob:=by rw[hw'];simp[hBlt]
 have hE:fD I j own w I j own w' (fun t=>t=.obj id):=(by refine⟨by rw[hw'],by rw[hw'],by rw[hw'],by rw[hw'];simp,fun _ _ _ h=>h,fun _ _ h=>h,fun b _ hb=>⟨hoth b (fun e=>hb _ (e▸hown) rfl),rfl,fun _=>rfl⟩⟩);refine⟨?_,hE⟩;refine⟨fun b o' v h=>?_,hG.kS,fun id' cs h=>?_,fun id' t cs h1 h2 b hb=>?_,fun id' x' h=>?_,hG.mG,fun b t h=>aP (hG.jU b t h) hE.size⟩
 ·have hne:b≠B:=fun e=>by
   rw[e,hG.kS B _ hown rfl o']at h;cases h
  rw[World.cell?_of_block (w:=w) (w':=w') (a:=⟨b,o',none⟩) (hoth b hne)];exact hG.holds b o' v h
 ·obtain⟨B2,q1,q2,q3⟩:=hG.dE id' cs h;have hne:B2≠B:=fun e=>by
   obtain⟨vs,T,h1,_⟩:=q3;rw[e]at h1;exact hrel.Jt h1
  have Yl:id'≠id:=fun e=>by
   subst e;rw[hB]at q1;cases q1;exact hne rfl
  exact⟨B2,q1,q2,hE.zB q2 (fun h=>by cases h;exact Yl rfl) (fun _ _ _ _ h=>by cases h) q3⟩
 ·have hty:=hG.fH id' t cs h1 h2 b hb;have hne:b≠B:=fun e=>by
   obtain⟨row,hrow,_⟩:=hty;rw[e]at hrow;exact hrel.Jt hrow
  exact hty.keep (hoth b hne) (fun _ _ h=>h)
 ·simp only[jM]at h;by_cases Yl:id=id'
  ·subst Yl;rw[if_pos rfl]at h;cases h;exact⟨B,hB,hown,hx w' hnew⟩
  ·rw[if_neg Yl]at h;obtain⟨B2,q1,q2,q3⟩:=hG.dP id' x' h;have hne:B2≠B:=fun e=>by
    rw[e,hown]at q2;cases q2;exact Yl rfl
   exact⟨B2,q1,q2,q3.keep (hoth B2 hne) (fun _ _ _ h=>h) (fun _ _ h=>h)⟩
theorem Vp{B:Nat}{l l':List MapEntry}{c c':Nat}(h:w.heap[B]?=some (.map ⟨l⟩ c)):(setObj B (.map ⟨l'⟩ c')).run P w=.ok () {w with heap:=w.heap.setIfInBounds B (.map ⟨l'⟩ c')}:=by simp[setObj,Sem.run,h]
theorem zau{ks:Bool}{k:D}{kv:Value}(hkd:wJ ks k=true)(hk:dL I j k kv):Instr.sameBits 10000 kv kv=true:=by
 cases k<;>simp only[wJ,aE]at hkd<;>simp only[dL]at hk<;>subst hk
 ·simp[Instr.sameBits]
 ·rename_i s;simp only[Instr.sameBits,zct,bW]
theorem NB(hG:eH I j own O w){d:D}{v:Value}{id:Nat}{es:List (D×D×Nat)}{c:Nat}(hr:dL I j d v)(h:xT O.dP d=some (id,es,c)) :
  ∃b l,d=.map id/\j id=some b/\own b=some (.obj id)/\v=.map (some b)/\dC O.dP id=some (.map es c)/\w.heap[b]?=some (.map ⟨l⟩ c)/\jR I j es l:=by
 cases d<;>simp only[xT,reduceCtorEq]at h
 case map id' =>
  obtain⟨x,h1,h⟩:=dJ h;cases x<;>simp only[reduceCtorEq,aA,Prod.mk.injEq]at h;obtain⟨rfl,rfl,rfl⟩:=h;simp only[dL]at hr;obtain⟨b,hb,hv⟩:=hr;obtain⟨b',q1,q2,l,q3,q4⟩:=hG.dP id' _ h1;rw[hb]at q1;cases q1;exact⟨b,l,rfl,hb,q2,hv,h1,q3,q4⟩
theorem jR.append:∀{es:List (D×D×Nat)}{l:List MapEntry}{es':List (D×D×Nat)}{l':List MapEntry},jR I j es l->jR I j es' l'->jR I j (es++es') (l++l')
 |[],l,es',l',h,h'=>by simp only[jR]at h;subst h;exact h'
 |(k,v,b)::es,l,es',l',h,h'=>by
  simp only[jR]at h;obtain⟨e0,l0,rfl,h1,h2,h3,h5⟩:=h;simp only[aW,jR];exact⟨e0,_,rfl,h1,h2,h3,h5.append h'⟩
theorem jR.set:∀{es:List (D×D×Nat)}{l:List MapEntry},jR I j es l->∀(n:Nat)(x:D×D×Nat)(kG:MapEntry),dL I j x.1 kG.key->dL I j x.2.1 kG.val->kG.born=x.2.2->jR I j (es.set n x) (l.set n kG)
 |[],l,h,n,x,kG,_,_,_=>by simp only[jR]at h;subst h;simp[jR]
 |(k,v,b)::es,l,h,n,x,kG,q1,q2,q3=>by
  simp only[jR]at h;obtain⟨e0,l0,rfl,h1,h2,h3,h5⟩:=h;cases n with
  |zero =>obtain⟨x1,x2,x3⟩:=x;simp only[List.set_cons_zero,jR];exact⟨kG,l0,rfl,q1,q2,q3,h5⟩
  |succ n =>simp only[List.set_cons_succ,jR];exact⟨e0,_,rfl,h1,h2,h3,h5.set n x kG q1 q2 q3⟩
theorem jR.erase:∀{es:List (D×D×Nat)}{l:List MapEntry},jR I j es l->∀(n:Nat),jR I j (es.eraseIdx n) (l.eraseIdx n)
 |[],l,h,n=>by simp only[jR]at h;subst h;simp[jR]
 |(k,v,b)::es,l,h,n=>by
  simp only[jR]at h;obtain⟨e0,l0,rfl,h1,h2,h3,h5⟩:=h;cases n with
  |zero=>simpa using h5
  |succ n =>simp only[List.eraseIdx_cons_succ,jR];exact⟨e0,_,rfl,h1,h2,h3,h5.erase n⟩
theorem XQ{l:List MapEntry}{n:Nat}{kG:MapEntry}(h:l[n]?=some kG)(f:MapEntry->MapEntry):(⟨l⟩:Array MapEntry).modify n f=⟨l.set n (f kG)⟩:=by
 apply Array.ext';simp only[Array.toList_modify];apply List.ext_getElem?;intro i;rw[List.getElem?_modify,List.getElem?_set];by_cases hi:n=i
 ·subst hi;rw[h];simp[(List.getElem?_eq_some_iff.1 h).1]
 ·simp[hi]
theorem Wi(hG:eH I j own O w)(hL:eI I j own lb N e a w){o:Oper}(hd:∀s,o.dst=some s->s<N){id b:Nat}{es es':List (D×D×Nat)}{l l':List MapEntry}{c c':Nat}{r:D}{nx:Next}{v:Value}(hid:dC O.dP id=some (.map es c))(hB:j id=some b)(hown:own b=some (.obj id))
  (hE:jR I j es' l') (hrun:(execOp a.eval o).run P w=.ok nx {w with heap:=w.heap.setIfInBounds b (.map ⟨l'⟩ c')}) (hnx:nx=.value v\/nx=.skip/\v=Go.undef) (hv:dL I j r v) :
  jF P N I j own w o a (e.put o.dst ⟨false,r⟩) {O with dP:=fF O.dP id (.map es' c')}:=by
 obtain⟨h4,h5⟩:=lg hG (y:=.map es' c') hid hB hown (fun w' h=>⟨l',h,hE⟩) rfl;refine⟨nx,_,a.put o.dst v,hrun,?_,I,j,own,lb,h4,?_,h5.weaken fun _ _=>trivial⟩
 ·rcases hnx with rfl|⟨rfl,rfl⟩
  ·exact .inl ⟨_,rfl,rfl⟩
  ·exact .inr (.inl ⟨rfl,rfl⟩)
 ·have hL':=hL.kN h5 (fun _ _ _ _ h=>by cases h) (fun _ _ _=>⟨(fun h=>by cases h),(fun _ _ _ _ h=>by cases h)⟩);cases hds:o.dst with
  |none=>exact hL'
  |some s=>exact hL'.qV (hd s hds) ⟨hv,fun h=>by cases h⟩
theorem ztk(hG:eH I j own O w)(hL:eI I j own lb N e a w){o:Oper}{ks:Bool}{t kt el:TypeId}{x i y:Operand}{x' i' y':dS}(ho:o.op=.mapUpdate t x i y\/o.op=.insert t x i y)(hd:∀s,o.dst=some s->s<N)
  (hk:dT x x'=true) (hk1:dT i i'=true) (hk2:dT y y'=true) (ht:zN P t=some (kt,el)) (hkt:uY P ks kt=true) {c k v:Cell} {id:Nat} {es:List (D×D×Nat)} {cl:Nat} {r:Option (D×Nat×Nat)}
  (h1:eE e x'=some c) (h2:eE e i'=some k) (h3:eE e y'=some v) (h4:xT O.dP c.d=some (id,es,cl)) (h5:wJ ks k.d=true) (h6:nQ k.d es=some r) :
  jF P N I j own w o a (e.put o.dst ⟨false,.undef⟩) {O with dP:=fF O.dP id (iW r (.map (es++[(k.d,v.d,cl)]) (cl+1)) fun p=>.map (es.set p.2.2 (k.d,v.d,p.2.1)) cl)}:=by
 have hi:=gW hL hk1 h2;have hy:=gW hL hk2 h3;obtain⟨b,l,_,hB,hown,hv,hid,hh,hE⟩:=NB hG (gW hL hk h1) h4;have hu:=Vz ht;have hck:=AZ (P:=P) (w:=w) hkt h5 hi false;have yR:=LD (P:=P) (w:=w) hkt h5 hi hE h6;have oL:∀w',(Instr.mapUpdate t (a.eval x) (a.eval i) (a.eval y)).run P w=.ok () w'->(execOp a.eval o).run P w=.ok .skip w':=(by intro w' h;rcases ho with ho|ho<;>simp only[execOp,ho,Sem.run_bind,h,Result.andThen_ok,Sem.run_pure]);cases r with
 |none =>
  simp only at yR;rw[qK];refine Wi hG hL hd (l:=l) (c:=cl) (l':=l++[{key:=a.eval i,val:=a.eval y,born:=cl}]) (v:=Go.undef) hid hB hown (hE.append (by simp only[jR];exact⟨_,_,rfl,hi,hy,rfl,rfl⟩)) (oL _ ?_) (.inr ⟨rfl,rfl⟩) (by simp only[dL]);rw[hv];simp only[Instr.mapUpdate,Sem.run_bind,run_underlying hu,Result.andThen_ok,Gm hh,hck,yR];have:(⟨l⟩:Array MapEntry).push {key:=a.eval i,val:=a.eval y,born:=cl}=⟨l++[{key:=a.eval i,val:=a.eval y,born:=cl}]⟩:=by
   apply Array.ext';simp
  rw[this,Vp hh]
 |some p =>
  obtain⟨d,bn,n⟩:=p;obtain⟨kG,q1,q2,q3,q4,q5,q6⟩:=yR;rw[eP];refine Wi hG hL hd (l:=l) (c:=cl) (l':=l.set n {kG with key:=a.eval i,val:=a.eval y}) (v:=Go.undef) hid hB hown (hE.set n _ _ hi hy q4) (oL _ ?_) (.inr ⟨rfl,rfl⟩) (by simp only[dL]);rw[hv];have hst:(Instr.keyThatStays (((((⟨l⟩:Array MapEntry)[n]?).map (·.key)).getD (a.eval i))) (a.eval i)).run P w=.ok (a.eval i) w:=by
   have hq:(⟨l⟩:Array MapEntry)[n]?=some kG:=by simpa using q2
   rw[hq];simp only[bN,Option.getD_some,q5,Instr.keyThatStays,zau h5 hi,if_true,Sem.run_pure]
  simp only[Instr.mapUpdate,Sem.run_bind,run_underlying hu,Result.andThen_ok,Gm hh,hck,q1,hst];rw[XQ q2,Vp hh]
theorem zte(hG:eH I j own O w)(hL:eI I j own lb N e a w){o:Oper}{ks:Bool}{t tk kt el:TypeId}{x i:Operand}{x' i':dS}(ho:o.op=.call {callee:=.builtin .delete,args:=⟨[x,i]⟩,argTypes:=⟨[t,tk]⟩})(hd:∀s,o.dst=some s->s<N)
  (hk:dT x x'=true) (hk1:dT i i'=true) (ht:zN P t=some (kt,el)) (hkt:uY P ks kt=true) {c k:Cell} {id:Nat} {es:List (D×D×Nat)} {cl:Nat} {r:Option (D×Nat×Nat)}
  (h1:eE e x'=some c) (h2:eE e i'=some k) (h4:xT O.dP c.d=some (id,es,cl)) (h5:wJ ks k.d=true) (h6:nQ k.d es=some r) :
  jF P N I j own w o a (e.put o.dst ⟨false,.fN []⟩) {O with dP:=fF O.dP id (.map (iW r es fun p=>es.eraseIdx p.2.2) cl)}:=by
 have hi:=gW hL hk1 h2;obtain⟨b,l,_,hB,hown,hv,hid,hh,hE⟩:=NB hG (gW hL hk h1) h4;have hu:=Vz ht;have hck:=AZ (P:=P) (w:=w) hkt h5 hi l.isEmpty;have yR:=LD (P:=P) (w:=w) hkt h5 hi hE h6;have oL:∀w',(Builtin.delete_ #[t,tk] o.type #[a.eval x,a.eval i]).run P w=.ok (.tuple #[]) w'->(execOp a.eval o).run P w=.ok (.value (.tuple #[])) w':=(by intro w' h;simp only[execOp,ho,resolve,invoke,builtin,Sem.run_bind,Sem.run_pure,Result.andThen_ok,List.map_toArray,aO,aZ,h]);have hrep:dL I j (.fN []) (.tuple #[]):=by simp[dL,dV]
 cases r with
 |none =>simp only at yR;rw[qK];refine Wi hG hL hd (l:=l) (c:=cl) (l':=l) hid hB hown hE (oL _ ?_) (.inl rfl) hrep;rw[hv];simp[Builtin.delete_,run_underlying hu,Gm hh,hck,yR,Vp hh]
 |some p =>
  obtain⟨d,bn,n⟩:=p;obtain⟨kG,q1,q2,q3,q4,q5,q6⟩:=yR;rw[eP];refine Wi hG hL hd (l:=l) (c:=cl) (l':=l.eraseIdx n) hid hB hown (hE.erase n) (oL _ ?_) (.inl rfl) hrep;rw[hv];have:(⟨l⟩:Array MapEntry).eraseIdxIfInBounds n=⟨l.eraseIdx n⟩:=by
   apply Array.ext';simp[Array.eraseIdxIfInBounds,(List.getElem?_eq_some_iff.1 q2).1]
  simp[Builtin.delete_,run_underlying hu,Gm hh,hck,q1,this,Vp hh]
theorem ze9{α:Type}:∀(l:List α)(n:Nat)(x:α),l[n]?=some x->l.set n x=l
 |[],n,_,h=>by simp at h
 |y::l,0,x,h=>by simp at h;subst h;rfl
 |y::l,n+1,x,h=>by simp only[List.set_cons_succ,ze9 l n x (by simpa using h)]
theorem zwn(hG:eH I j own O w)(hL:eI I j own lb N e a w){o:Oper}{ks:Bool}{z:D}{zv:Value}{t kt el:TypeId}{x i:Operand}{x' i':dS}(ho:o.op=.mapEntry t x i)(hd:∀s,o.dst=some s->s<N)
  (hk:dT x x'=true) (hk1:dT i i'=true) (ht:zN P t=some (kt,el)) (hkt:uY P ks kt=true) (hz:(P.info? el).bind (·.zero)=some zv) (hzc:oK z zv=true) {c k:Cell} {id:Nat} {es:List (D×D×Nat)} {cl:Nat} {r:Option (D×Nat×Nat)}
  (h1:eE e x'=some c) (h2:eE e i'=some k) (h4:xT O.dP c.d=some (id,es,cl)) (h5:wJ ks k.d=true) (h6:nQ k.d es=some r) :
  jF P N I j own w o a (e.put o.dst ⟨false,iW r (.fN [z,.int .i64 cl]) (fun p=>.fN [p.1,.int .i64 p.2.1])⟩) {O with dP:=fF O.dP id (iW r (.map (es++[(k.d,z,cl)]) (cl+1)) fun _=>.map es cl)}:=by
 have hi:=gW hL hk1 h2;obtain⟨b,l,_,hB,hown,hv,hid,hh,hE⟩:=NB hG (gW hL hk h1) h4;have hu:=Vz ht;have Qo:=BD I j z zv hzc;have Hl:(zeroValue el).run P w=.ok zv w:=by
  cases hie:P.info? el with
  |none=>rw[hie]at hz;cases hz
  |some ie =>rw[hie]at hz;simp only[Option.bind_some]at hz;simp[zeroValue,typeInfo,hie,hz]
 have hck:=AZ (P:=P) (w:=w) hkt h5 hi false;have yR:=LD (P:=P) (w:=w) hkt h5 hi hE h6;have oL:∀v w',(Instr.mapEntry t (a.eval x) (a.eval i)).run P w=.ok v w'->(execOp a.eval o).run P w=.ok (.value v) w':=(by intro v w' h;simp only[execOp,ho,Sem.run_bind,h,Result.andThen_ok,Sem.run_pure]);cases r with
 |none =>
  simp only at yR;rw[qK,qK];refine Wi hG hL hd (l:=l) (c:=cl) (l':=l++[{key:=a.eval i,val:=zv,born:=cl}]) (v:=.tuple #[zv,.int .i64 cl]) hid hB hown (hE.append (by simp only[jR];exact⟨_,_,rfl,hi,Qo,rfl,rfl⟩)) (oL _ _ ?_) (.inl rfl) (by simp only[dL,dV];exact⟨_,rfl,_,_,rfl,Qo,_,_,rfl,rfl,rfl⟩);rw[hv];have hp:(⟨l⟩:Array MapEntry).push {key:=a.eval i,val:=zv,born:=cl}=⟨l++[{key:=a.eval i,val:=zv,born:=cl}]⟩:=by
   apply Array.ext';simp
  simp only[Instr.mapEntry,Sem.run_bind,run_underlying hu,Result.andThen_ok,Gm hh,hck,yR,Hl,hp,Vp hh,Sem.run_pure,goInt]
 |some p =>
  obtain⟨d,bn,n⟩:=p;obtain⟨kG,q1,q2,q3,q4,q5,q6⟩:=yR;rw[eP,eP];have hq:(⟨l⟩:Array MapEntry)[n]?=some kG:=by simpa using q2
  have hent:({kG with key:=a.eval i}:MapEntry)=kG:=by rw[<-q5]
  refine Wi hG hL hd (l:=l) (c:=cl) (l':=l) (v:=.tuple #[kG.val,.int .i64 bn]) hid hB hown hE (oL _ _ ?_) (.inl rfl) (by simp only[dL,dV];exact⟨_,rfl,_,_,rfl,q3,_,_,rfl,rfl,rfl⟩);rw[hv];have hst:(Instr.keyThatStays kG.key (a.eval i)).run P w=.ok (a.eval i) w:=by
   simp only[q5,Instr.keyThatStays,zau h5 hi,if_true,Sem.run_pure]
  have hm:(⟨l⟩:Array MapEntry).modify n (fun e=>{e with key:=a.eval i})=⟨l⟩:=(by rw[XQ q2,hent,ze9 l n kG q2]);simp only[Instr.mapEntry,Sem.run_bind,run_underlying hu,Result.andThen_ok,Gm hh,hck,q1,hq,bN,Option.getD_some,hst,hm,Vp hh,q4,Sem.run_pure,goInt]
theorem ze8{b:Nat}{d:D}{v:Value}(hv:dL I j d v):∀{es:List (D×D×Nat)}{l:List MapEntry},jR I j es l->X9 b es=true->∃n kG,l.findIdx? (fun e=>(e.born:Int)==(b:Int))=some n/\l[n]?=some kG/\jR I j (Y7 b d es) (l.set n {kG with val:=v})
 |[],l,_,h=>by simp only[X9,aE]at h
 |(k,x,b')::es,l,hE,h=>by
  simp only[jR]at hE;obtain⟨e0,l0,rfl,h1,h2,h3,h5⟩:=hE;simp only[X9]at h;cases hb:b'==b with
  |true =>
   have hbb:b'=b:=by simpa using hb
   refine⟨0,e0,by simp[List.findIdx?_cons,h3,hbb],rfl,?_⟩;simp only[Y7,hb,dQ,List.set_cons_zero,jR];exact⟨_,l0,rfl,h1,hv,h3,h5⟩
  |false =>
   rw[hb,dX]at h;obtain⟨n,kG,q1,q2,q3⟩:=ze8 hv h5 h;have hne:((e0.born:Int)==(b:Int))=false:=by
    rw[h3];simp only[beq_eq_false_iff_ne,ne_eq]at hb ⊢;omega
   refine⟨n+1,kG,by simp[List.findIdx?_cons,hne,q1],by simpa using q2,?_⟩;simp only[Y7,hb,dX,List.set_cons_succ,jR];exact⟨e0,_,rfl,h1,h2,h3,q3⟩
theorem zn3(hG:eH I j own O w)(hL:eI I j own lb N e a w){o:Oper}{t:TypeId}{x s y:Operand}{x' s' y':dS}(ho:o.op=.entryStore t x s y)(hd:∀s,o.dst=some s->s<N)
  (hk:dT x x'=true) (hk1:dT s s'=true) (hk2:dT y y'=true) {c b v:Cell} {id bn:Nat} {es:List (D×D×Nat)} {cl:Nat}
  (h1:eE e x'=some c) (h2:eE e s'=some b) (h3:b.d.nat?=some bn) (h4:eE e y'=some v) (h5:xT O.dP c.d=some (id,es,cl)) (h6:X9 bn es=true) :
  jF P N I j own w o a (e.put o.dst ⟨false,.undef⟩) {O with dP:=fF O.dP id (.map (Y7 bn v.d es) cl)}:=by
 obtain⟨k,hs⟩:=Ks h3 (gW hL hk1 h2);have hy:=gW hL hk2 h4;obtain⟨B,l,_,hB,hown,hv,hid,hh,hE⟩:=NB hG (gW hL hk h1) h5;obtain⟨n,kG,q1,q2,q3⟩:=ze8 hy hE h6;refine Wi hG hL hd (l:=l) (c:=cl) (l':=l.set n {kG with val:=a.eval y}) (nx:=.skip) (v:=Go.undef) hid hB hown q3 ?_ (.inr ⟨rfl,rfl⟩) (by simp only[dL]);have hf:(⟨l⟩:Array MapEntry).findIdx? (fun e=>(e.born:Int)==(bn:Int))=some n:=by
  have:(l.toArray).findIdx? (fun e=>(e.born:Int)==(bn:Int))=l.findIdx? (fun e=>(e.born:Int)==(bn:Int)):=by simp
  exact this.trans q1
 simp only[execOp,ho,hv,hs,Instr.entryStore,Sem.run_bind,Gm hh,Result.andThen_ok,asInt,asIntOf,Sem.run_pure,hf,XQ q2,Vp hh]
end
end Go.Mx
