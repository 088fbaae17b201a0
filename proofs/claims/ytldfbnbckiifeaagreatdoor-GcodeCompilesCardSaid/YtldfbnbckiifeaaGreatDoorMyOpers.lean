/- A part of the proof. -/
import Derived.Test.YtldfbnbckiifeaaGreatDoorMyMap
import Derived.Test.YtldfbnbckiifeaaGreatDoorMySwap
set_option linter.all false
namespace Go.Mx
open Go
def Qf(P:Program)(t:TypeId)(z:List D):Bool:=match rQ P t with
 |some zs=>xA z zs
 |none=>false
def Hf(P:Program)(t:TypeId)(k:RowK):Bool:=match nF P t with
 |some el=>(match jV P el,rQ P el with
  |some n,some zs=>el==k.el&&n==k.sz&&zs.length==k.sz&&decide (0<k.sz)
  |_,_=>false)
 |none=>false
def Bl(P:Program)(t:TypeId)(fG:Nat):Bool:=match nF P t with
 |some el=>uP P el==some fG
 |none=>false
def lG(P:Program)(o:Oper):iR->Bool
 |.alloc z=>o.dst.isSome&&(match o.op with|.alloc t=>Qf P t z|_=>false)
 |.box y=>o.dst.isSome&&(match o.op with|.box _ x=>dT x y|_=>false)
 |.rZ s z=>o.dst==some s&&(match o.op with|.alloc t=>Qf P t z|_=>false)
 |.yC s y=>o.dst==some s&&(match o.op with|.box _ x=>dT x y|_=>false)
 |.lI _ k x' y'=>match o.op with|.store t x y=>dT x x'&&dT y y'&&jV P t==some k|_=>false
 |.nD _ g az'=>match o.op with|.call {callee:=.value f,args:=az,..}=>dT f (.const (.fn (.func g) [] []))&&(!jK g&&vY az.toList az')|_=>false
 |.Kp _ f' az'=>match o.op with|.call {callee:=.value f,args:=az,..}=>dT f f'&&vY az.toList az'|_=>false
 |.pM t' z=>match o.op with|.alloc t=>Qf P t z&&t==t'|_=>false
 |.mF t' y=>match o.op with|.box t x=>dT x y&&t==t'|_=>false
 |.MI k y=>match o.op with|.convert s t x=>dT x y&&tY P s&&nF P t==some k.el&&Ez P k.el==some .u8&&k.sz==1|_=>false
 |.PI y=>match o.op with|.range t x=>dT x y&&tY P t|_=>false
 |.TU y=>match o.op with|.next x true=>dT x y|_=>false
 |.buildSlice k qs=>o.dst.isSome&&(match o.op with|.buildSlice t len ps=>Ld 0 ps.toList qs&&len==qs.length&&Hf P t k|_=>false)
 |.store k x' y'=>match o.op with|.store t x y=>dT x x'&&dT y y'&&jV P t==some k|_=>false
 |.SL k x'=>match o.op with|.load t x=>dT x x'&&oR P t (some k)|_=>false
 |.PN k x' y'=>match o.op with|.store t x y=>dT x x'&&dT y y'&&jV P t==some k|_=>false
 |.append sz fG x' y'=>o.dst.isSome&&(match o.op with
  |.call {callee:=.builtin .append,args:=⟨[x,y]⟩,argTypes:=⟨[t,t']⟩}=>t==t'&&dT x x'&&dT y y'&&Hf P t sz&&Bl P t fG
  |_=>false)
 |.Bh k fG x' y'=>o.dst.isSome&&(match o.op with
  |.call {callee:=.builtin .append,args:=⟨[x,y]⟩,argTypes:=⟨[t,t']⟩}=>tY P t'&&dT x x'&&dT y y'&&Hf P t k&&k.sz==1&&Bl P t fG
  |_=>false)
 |.slice3 sz x' lo' hi' mx'=>match o.op with|.slice t x lo (some hi) (some mx)=>dT x x'&&Cc lo lo'&&dT hi hi'&&dT mx mx'&&(match nF P t with|some e=>jV P e==some sz|none=>false)|_=>false
 |.nM k x' y'=>match o.op with|.store t x y=>dT x x'&&dT y y'&&jV P t==some k|_=>false
 |.Ho k fG z x' y'=>match o.op with|.makeSlice t x y=>dT x x'&&dT y y'&&Hf P t k&&Qf P k.el z&&Bl P t fG|_=>false
 |.vW k qs=>match o.op with|.buildSlice t len ps=>Ld 0 ps.toList qs&&len==qs.length&&Hf P t k|_=>false
 |.qN k fG x' y'=>match o.op with
  |.call {callee:=.builtin .append,args:=⟨[x,y]⟩,argTypes:=⟨[t,t']⟩}=>t==t'&&dT x x'&&dT y y'&&Hf P t k&&Bl P t fG
  |_=>false
 |.Bi _ k fG x' y'=>match o.op with
  |.call {callee:=.builtin .append,args:=⟨[x,y]⟩,argTypes:=⟨[t,t']⟩}=>t==t'&&dT x x'&&dT y y'&&Hf P t k&&Bl P t fG
  |_=>false
 |.Kz sz x' y'=>match o.op with
  |.call {callee:=.builtin .copy,args:=⟨[x,y]⟩,argTypes:=⟨[t,t']⟩}=>dT x x'&&dT y y'&&(nF P t').isSome&&(match nF P t with|some e=>jV P e==some sz|none=>false)
  |_=>false
 |.He sz z x'=>match o.op with
  |.call {callee:=.builtin .clear,args:=⟨[x]⟩,argTypes:=⟨[t]⟩}=>dT x x'&&(match nF P t with|some e=>jV P e==some sz&&Qf P e z|none=>false)
  |_=>false
 |.GK k fG z x' y'=>match o.op with
  |.call {callee:=.builtin .append,args:=⟨[x,y]⟩,argTypes:=⟨[t,t']⟩}=>dT x x'&&dT y y'&&Hf P t k&&Qf P k.el z&&Bl P t fG&&Ez P t'==some .i64
  |_=>false
 |.X6 x'=>match o.op with
  |.call {callee:=.builtin .cap,args:=⟨[x]⟩,argTypes:=⟨[t]⟩}=>dT x x'&&(nF P t).isSome
  |_=>false
 |.EN x'=>match o.op with|.call {callee:=.value (.func g),args:=⟨[x]⟩,..}=>je P g&&dT x x'|_=>false
 |.DL t' x'=>match o.op with|.typeAssert x _ t false=>t==t'&&dT x x'&&xG P t==some false|_=>false
 |.makeMap=>match o.op with|.makeMap t none=>iP P t|.makeMap t (some (.const (.int _ _)))=>iP P t|_=>false
 |.update ks x' i' y'=>match o.op with
  |.mapUpdate t x i y=>dT x x'&&dT i i'&&dT y y'&&(match zN P t with|some (kt,_)=>uY P ks kt|none=>false)
  |.insert t x i y=>dT x x'&&dT i i'&&dT y y'&&(match zN P t with|some (kt,_)=>uY P ks kt|none=>false)
  |_=>false
 |.delete ks x' i'=>match o.op with
  |.call {callee:=.builtin .delete,args:=⟨[x,i]⟩,argTypes:=⟨[t,_]⟩}=>dT x x'&&dT i i'&&(match zN P t with|some (kt,_)=>uY P ks kt|none=>false)
  |_=>false
 |.entry ks z x' i'=>match o.op with
  |.mapEntry t x i=>dT x x'&&dT i i'&&(match zN P t with|some (kt,el)=>uY P ks kt&&(match(P.info? el).bind (·.zero)with|some zv=>oK z zv|none=>false)|none=>false)
  |_=>false
 |.entryStore x' s' y'=>match o.op with
  |.entryStore _ x s y=>dT x x'&&dT s s'&&dT y y'
  |_=>false
 |.EP f' az'=>match o.op with|.defer {callee:=.value f,args:=az,..}=>dT f f'&&vY az.toList az'|_=>false
 |.call g az'=>match o.op with|.call {callee:=.value f,args:=az,..}=>dT f (.const (.fn (.func g) [] []))&&(!jK g&&vY az.toList az')|_=>false
 |.nE f' az'=>match o.op with|.call {callee:=.value f,args:=az,..}=>dT f f'&&vY az.toList az'|_=>false
 |.panic y=>match o.op with|.panic x=>dT x y|_=>false
 |o'=>qJ P o.op o'
def qh(N:Nat):Option Nat->Option Nat->Bool
 |none,none=>true
 |some s,some s'=>s==s'&&decide (s<N)
 |_,_=>false
theorem zb4b{N:Nat}{d d':Option Nat}(h:qh N d d'=true):d=d'/\∀s,d=some s->s<N:=by
 cases d<;>cases d'<;>simp only[qh,aE,aC,beq_iff_eq,cE]at h
 ·exact⟨rfl,fun s h=>by cases h⟩
 ·exact⟨by rw[h.1],fun s hs=>by cases hs;exact h.2⟩
def EF(ops:Array Oper):Option (Nat×Bool)->Option (Nat×Bool)->Bool
 |none,none=>true
 |some (i,b),some (s,b')=>(match ops[i]? with|some o=>o.dst==some s|none=>false)&&b==b'
 |_,_=>false
def EU(P:Program)(N:Nat)(ops:Array Oper)(o:Oper)(o':iC):Bool:=qh N o.dst o'.dst&&EF ops o.guard o'.guard&&lG P o o'.op
section
variable[kQ]{P:Program}{I:fU}{j:fJ}{own:gZ}{lb:fJ}{N:Nat}{e:Env}{a:Go.Act}{w:World}{O:Store}
theorem zoy{os:List (Nat×List Cell)}{d:D}{ys:List D}(h:nK d=some ys):nB os d=some ys:=by cases d<;>simp only[nK,reduceCtorEq]at h<;>exact h
theorem Ou{t:TypeId}{k:RowK}(h:Hf P t k=true):∃zs,nF P t=some k.el/\jV P k.el=some k.sz/\rQ P k.el=some zs/\zs.length=k.sz/\0<k.sz:=by
 unfold Hf at h;split at h
 ·rename_i el hel;split at h
  ·rename_i n zs hn hz;simp only[aC,beq_iff_eq,cE]at h;obtain⟨⟨⟨rfl,h1⟩,h2⟩,h3⟩:=h;exact⟨zs,hel,h1▸hn,hz,h2,h3⟩
  ·cases h
 ·cases h
theorem y5{t:TypeId}{z:List D}(h:Qf P t z=true):∃zs,rQ P t=some zs/\xA z zs=true:=by
 unfold Qf at h;split at h
 ·rename_i zs hz;exact⟨zs,hz,h⟩
 ·cases h
theorem zjz{d:D}{f:FuncId}{x y:List D}(h:d.mA=some (f,x,y)){v:Value}(hr:dL I j d v):(jK f=false/\∃vf vc,v=.func (.func f) ⟨vf⟩ ⟨vc⟩/\dV I j x vf/\dV I j y vc)\/∃id b,d=.sT id/\f=oV+id/\x=[]/\y=[]/\j id=some b/\v=.func (.yield b) ⟨[]⟩ ⟨[]⟩:=by
 cases d with
 |fn g a b =>
  cases g with
  |func g =>simp only[D.mA]at h;obtain⟨h0,h⟩:=gQ' h;simp only[aA,Prod.mk.injEq]at h;obtain⟨rfl,rfl,rfl⟩:=h;exact .inl ⟨h0,by simpa only[dL]using hr⟩
  |_=>simp[D.mA]at h
 |sT id =>simp only[D.mA,aA,Prod.mk.injEq]at h;obtain⟨rfl,rfl,rfl⟩:=h;simp only[dL]at hr;obtain⟨b,h1,h2⟩:=hr;exact .inr ⟨id,b,rfl,rfl,rfl,rfl,h1,h2⟩
 |_=>simp[D.mA]at h
theorem zhp{d:D}{f:FuncId}{x y:List D}(h:d.Di=some (f,x,y)){v:Value}(hr:dL I j d v):jK f=false/\∃vf vc,v=.func (.func f) ⟨vf⟩ ⟨vc⟩/\dV I j x vf/\dV I j y vc:=by
 cases d with
 |fn g a b =>
  cases g with
  |func g =>simp only[D.Di]at h;obtain⟨h0,h⟩:=gQ' h;simp only[aA,Prod.mk.injEq]at h;obtain⟨rfl,rfl,rfl⟩:=h;exact⟨h0,by simpa only[dL]using hr⟩
  |_=>simp[D.Di]at h
 |_=>simp[D.Di]at h
theorem ztd(hG:eH I j own O w)(hL:eI I j own lb N e a w){o:Oper}{f:Operand}{f':dS}{az:Array Operand}{ts:Array TypeId}{az':List dS}{c:Cell}{g:FuncId}{x y ds:List D}(ho:o.op=.defer {callee:=.value f,args:=az,argTypes:=ts})
  (hd:∀s,o.dst=some s->s<N) (hk:dT f f'=true) (hk1:vY az.toList az'=true) (h1:eE e f'=some c) (h2:c.d.Di=some (g,x,y)) (h3:oI e az'=some ds) :
  jF P N I j own w o a (Env.put {e with defers:=(g,x++ds++y)::e.defers} o.dst ⟨false,.undef⟩) O:=by
 obtain⟨hY,vf,vc,hv,r1,r2⟩:=zhp h2 (gW hL hk h1);have hr:=Gw hL hk1 h3;refine⟨.defer {target:=.fn (.func g) ⟨vc⟩,args:=⟨vf⟩++az.map a.eval},w,_,?_,.inr (.inr ⟨_,rfl,rfl⟩),I,j,own,lb,hG,?_,fD.refl _ _ _ _ _⟩
 ·simp only[execOp,ho,resolve,hv,Deferred.ofValue,Sem.run_bind,Sem.run_pure,Result.andThen_ok]
 ·have hL':eI I j own lb N {e with defers:=(g,x++ds++y)::e.defers} ({a with defers:={target:=.fn (.func g) ⟨vc⟩,args:=⟨vf⟩++az.map a.eval}::a.defers}:Go.Act) w :=
   {size:=hL.size,slots:=hL.slots,dR:=hL.dR,boxes:=hL.boxes,defers:=by
     simp only[Bo];refine⟨_,_,rfl,hL.defers,?_⟩;rw[if_neg (by rw[hY];simp)];refine⟨⟨vc⟩,⟨vf⟩++az.map a.eval,rfl,?_⟩;have:=(r1.append hr).append r2;simpa using this}
  cases hds:o.dst with
  |none=>exact hL'
  |some s=>exact hL'.qV (hd s hds) ⟨by simp only[dL],fun h=>by cases h⟩
theorem ze8b{t:TypeId}(h:Ez P t=some .u8):P.underlying t=some (.int .u8):=by
 unfold Ez at h;split at h
 ·rename_i k hk;simp only[aA]at h;rw[hk,h]
 ·cases h
theorem zn4(hG:eH I j own O w)(hL:eI I j own lb N e a w){o:Oper}{t u:TypeId}{k:RowK}{x:Operand}{y:dS}{c:Cell}{s:List UInt8}(ho:o.op=.convert u t x)(hd:∀s,o.dst=some s->s<N)(hk:dT x y=true)
  (hu:P.underlying u=some .string) (ht:P.underlying t=some (.slice k.el)) (he:P.underlying k.el=some (.int .u8)) (hk1:k.sz=1) (hc:eE e y=some c) (hs:c.d.wR=some s) (hb:s.length<=iN) :
  jF P N I j own w o a (e.put o.dst ⟨false,.list k (Br s)⟩) O:=by
 have hx:=H8 hs (gW hL hk hc);have hrun:=run_bytes_of_string (P:=P) w u t k.el ⟨⟨s⟩⟩ hu ht he;have hsz:(⟨⟨s⟩⟩:ByteArray).size=s.length:=rfl;rw[hsz]at hrun;generalize hcap:grownCap w s.length 0 k.el=cap at hrun;have hb':s.length<=1099511627776:=hb;have hge:s.length<=cap:=hcap▸grownCap_ge w _ 0 k.el;have hle:cap<=maxLen:=hcap▸grownCap_le_maxLen w _ 0 k.el (by simp only[maxLen];omega);generalize oH:bytesRow ⟨⟨s⟩⟩ cap=cur at hrun;generalize hfr:(cur.size,cur.size+1)=fr at hrun;have hat:∀(n:Nat)(y:Value),(s.map fun b=>Value.int .u8 b.toNat)[n]?=some y->cur[n]?=some y:=(by intro n y hn;have hlt:=(List.getElem?_eq_some_iff.1 hn).1;rw[<-oH];unfold bytesRow;rw[Array.getElem?_append_left (by simpa using hlt)];simpa using hn);generalize hw':w.drew.alloc (.cells cur k.el fr)=w' at hrun;have hnew:w'.heap[w.heap.size]?=some (.cells cur k.el fr):=hw'▸heap_alloc_new w.drew _;have hold:∀b,b<w.heap.size->w'.heap[b]?=w.heap[b]?:=fun b hb=>hw'▸heap_alloc_old w.drew _ hb;have hsize:w.heap.size<=w'.heap.size:=Nat.le_of_lt (Array.getElem?_eq_some_iff.1 hnew).1;have hE:fD I j own w (rN I w.heap.size 0 s.length (fun o=>(s.map fun b=>Value.int .u8 b.toNat)[o]?)) j own w' (fun _=>False):=by
  refine⟨by rw[<-hw'];rfl,by rw[<-hw'];rfl,by rw[<-hw'];rfl,hsize,fun b o v h=>?_,fun _ _ h=>h,fun b hb _=>⟨hold b hb,rfl,fun o=>if_neg (by omega)⟩⟩;have:=Ef hG h;unfold rN;rw[if_neg (by omega)];exact h
 have hG':eH (rN I w.heap.size 0 s.length (fun o=>(s.map fun b=>Value.int .u8 b.toNat)[o]?)) j own O w':=by
  refine hG.kN hE (fun b o v h=>?_) (fun b u h hu o=>?_) (fun b u h=>aP (hG.jU b u h) hsize) hG.mG (fun _ _ _=>⟨fun h=>h,fun _ _ _ _ h=>h⟩) (fun _ _ _ h=>h)
  ·unfold rN at h;by_cases hcnd:b=w.heap.size/\0<=o/\o<s.length
   ·rw[if_pos hcnd]at h;obtain⟨rfl,_,ho⟩:=hcnd;rw[cell_of_row w' _ o cur k.el fr hnew];exact hat o v h
   ·rw[if_neg hcnd]at h;have hb:=Ef hG h;rw[World.cell?_of_block (w:=w) (w':=w') (a:=⟨b,o,none⟩) (hold b hb)];exact hG.holds b o v h
  ·have:=hG.jU b u h;unfold rN;rw[if_neg (by omega)];exact hG.kS b u h hu o
 refine⟨.value (.slice (some ⟨w.heap.size,0,none⟩) s.length cap),w',_,?_,.inl ⟨_,rfl,rfl⟩,_,j,own,lb,hG',?_,hE.weaken fun _ h=>h.elim⟩
 ·simp only[execOp,ho,hx,Sem.run_bind,hrun,Result.andThen_ok,Sem.run_pure]
 ·have hL':=hL.kN hE (fun _ _ _ _ h=>h) (fun _ _ _=>⟨fun h=>h,fun _ _ _ _ h=>h⟩);cases hds:o.dst with
  |none=>exact hL'
  |some d =>
   refine hL'.qV (hd d hds) ⟨?_,fun h=>by cases h⟩;simp only[dL];refine⟨_,cap,by rw[KV],by rw[KV];exact hge,hle,.inr ⟨w.heap.size,0,rfl,jS.EE (WY s) (fun x hx=>?_) fun n y hn=>?_⟩⟩
   ·obtain⟨b,_,rfl⟩:=bF.1 hx;rw[hk1];rfl
   ·rw[XF]at hn;have hlt:=(List.getElem?_eq_some_iff.1 hn).1;rw[aJ]at hlt;unfold rN;rw[if_pos ⟨rfl,by omega,by omega⟩,aN];exact hn
theorem ztg(hG:eH I j own O w)(hL:eI I j own lb N e a w){o:Oper}{t:TypeId}{x:Operand}{y:dS}{c:Cell}{s:List UInt8}(ho:o.op=.range t x)(hd:∀s,o.dst=some s->s<N)(hk:dT x y=true)(ht:tY P t=true)(hc:eE e y=some c)(hs:c.d.wR=some s) :
  jF P N I j own w o a (e.put o.dst ⟨false,.ptr O.next 0⟩) {O with dP:=(O.next,.it s 0)::O.dP,next:=O.next+1}:=by
 have hx:=H8 hs (gW hL hk hc);refine l5 hG hL hd (ob:=.stringIter ⟨⟨s⟩⟩ 0) (v:=.pointer (some ⟨w.heap.size,0,none⟩)) (fun I' j' w' h=>h) ?_ (fun j' h=>by simp only[dL];exact⟨_,h,rfl⟩);simp only[execOp,ho,hx,Instr.range,Sem.run_bind,run_underlying (Qa ht),Result.andThen_ok,Sem.run_pure,run_newObj];rfl
theorem zwr(hG:eH I j own O w)(hL:eI I j own lb N e a w){o:Oper}{x:Operand}{y:dS}{id pos:Nat}{s:List UInt8}(ho:o.op=.next x true)(hd:∀s,o.dst=some s->s<N)(hk:dT x y=true)(hp:kL e y=some (.ptr id 0))(hi:dC O.dP id=some (.it s pos)) :
  (pos<s.length->jF P N I j own w o a (e.put o.dst ⟨false,.fN [.bool true,.int .i64 pos,.int .i32 (Utf8.decode ⟨⟨s⟩⟩ pos).1]⟩) {O with dP:=fF O.dP id (.it s (pos+(Utf8.decode ⟨⟨s⟩⟩ pos).2))}) /\
  (¬pos<s.length->jF P N I j own w o a (e.put o.dst ⟨false,.fN [.bool false]⟩) O):=by
 obtain⟨B,hB,hx⟩:=Be hL hk hp;obtain⟨B',hB',hown,hheap⟩:=hG.dP id _ hi;rw[hB]at hB';cases hB';have hheap:w.heap[B]?=some (.stringIter ⟨⟨s⟩⟩ pos):=hheap;have hget:(getObj B).run P w=.ok (.stringIter ⟨⟨s⟩⟩ pos) w:=by simp[getObj,Sem.run,hheap]
 have hsz:(⟨⟨s⟩⟩:ByteArray).size=s.length:=rfl;refine⟨fun hlt=>?_,fun hge=>?_⟩
 ·obtain⟨h4,h5⟩:=lg hG (y:=.it s (pos+(Utf8.decode ⟨⟨s⟩⟩ pos).2)) (ob:=.stringIter ⟨⟨s⟩⟩ (pos+(Utf8.decode ⟨⟨s⟩⟩ pos).2)) hi hB hown (fun w' h=>h) rfl;generalize hw':({w with heap:=w.heap.setIfInBounds B (.stringIter ⟨⟨s⟩⟩ (pos+(Utf8.decode ⟨⟨s⟩⟩ pos).2))}:World)=w' at h4 h5;refine⟨.value (.tuple #[.bool true,.int .i64 pos,.int .i32 (Utf8.decode ⟨⟨s⟩⟩ pos).1]),w',_,?_,.inl ⟨_,rfl,rfl⟩,I,j,own,lb,h4,?_,h5.weaken fun _ _=>trivial⟩
  ·have hset:(setObj B (.stringIter ⟨⟨s⟩⟩ (pos+(Utf8.decode ⟨⟨s⟩⟩ pos).2))).run P w=.ok () w':=(by simp[setObj,Sem.run,hheap,hw']);simp only[execOp,ho,hx,Instr.next,Sem.run_bind,hget,Result.andThen_ok,hsz,if_pos hlt,hset,Sem.run_pure,goInt]
  ·have hL':=hL.kN h5 (fun _ _ _ _ h=>by cases h) (fun _ _ _=>⟨(fun h=>by cases h),(fun _ _ _ _ h=>by cases h)⟩);cases hds:o.dst with
   |none=>exact hL'
   |some d=>exact hL'.qV (hd d hds) ⟨by simp[dL,dV],fun h=>by cases h⟩
 ·refine⟨.value (.tuple #[.bool false]),w,_,?_,.inl ⟨_,rfl,rfl⟩,I,j,own,lb,hG,?_,fD.refl _ _ _ _ _⟩
  ·simp only[execOp,ho,hx,Instr.next,Sem.run_bind,hget,Result.andThen_ok,hsz,if_neg hge,Sem.run_pure]
  ·cases hds:o.dst with
   |none=>exact hL
   |some d=>exact hL.qV (hd d hds) ⟨by simp[dL,dV],fun h=>by cases h⟩
theorem zga{o:Oper}{e1 e2:Env}{O':Store}(h:jF P N I j own w o a e1 O')(h1:∀s c,dC e2.slots s=some c->dC e1.slots s=some c)(h2:∀s p,dC e2.dR s=some p->dC e1.dR s=some p)(h3:∀s cs,dC e2.boxes s=some cs->dC e1.boxes s=some cs)(h4:e2.defers=e1.defers):jF P N I j own w o a e2 O':=by obtain⟨nx,w',a',k1,k2,I',j',own',lb',k3,k4,k5⟩:=h;exact⟨nx,w',a',k1,k2,I',j',own',lb',k3,k4.sub (fun s c h=>⟨c,h1 s c h,rfl,fun h=>h⟩) h2 (fun s cs h=>⟨cs,h3 s cs h,pL.refl cs⟩) h4,k5⟩
theorem NI{s:Nat}{cs:List Cell}(hf:rE e.dR s=true):(∀t c,dC (Env.pR {e with boxes:=fF e.boxes s cs} (some s) (.l s 0)).slots t=some c->dC (e.box s cs).slots t=some c)/\∀t p,dC (Env.pR {e with boxes:=fF e.boxes s cs} (some s) (.l s 0)).dR t=some p->dC (e.box s cs).dR t=some p:=by
 refine⟨fun t c h=>h,fun t p h=>?_⟩;obtain⟨b,o⟩:=p;simp only[Env.pR,Env.box,jM]at h ⊢;split
 ·rename_i hs;rw[if_pos hs]at h;exact h
 ·rename_i hs;rw[if_neg hs]at h;exact zq _ _ _ _ _ h ((Jp.1 hf).2 t b o h)
theorem zp2(hG:eH I j own O w)(hL:eI I j own lb N e a w){o:Oper}{o':iR}(hk:lG P o o'=true)(hd:∀s,o.dst=some s->s<N){e':Env}{O':Store}(h:gR o.dst o' e O=some (e',O')) :
  jF P N I j own w o a e' O':=by
 have value:qJ P o.op o'=true->(∀v,eQ o' e O=some v->e'=(sW o' e).pR o.dst v->O'=uE o' e O->jF P N I j own w o a e' O'):=by
  rintro hv v hev rfl rfl;cases hp:G9 o' with
  |true=>exact zws hG hL hv hd hp hev
  |false =>
   cases o'<;>simp only[G9,Bool.true_eq_false,Bool.not_eq_false']at hp
   ·exact zc6b hG hL hv hd hev
   ·subst hp;generalize ho:o.op=op at hv
    cases op<;>first
     |(simp only[qJ,aC]at hv;exact zbg hG hL ho hv.1 hv.2 hd hev)
     |(simp[qJ]at hv)
   ·subst hp;generalize ho:o.op=op at hv
    cases op<;>first
     |(simp only[qJ,aC]at hv
       rename_i k y t x;have hev':=zb1 hev;have e1:sW (.sC k true y) e=sW (.load k true y) e:=rfl;have e2:uE (.sC k true y) e O=uE (.load k true y) e O:=by
        simp only[eQ]at hev;obtain⟨p,hp,hev⟩:=dJ hev;cases p with
        |ptr id off=>cases hev
        |loc b off=>simp only[uE,hp,eP]
        |gC d=>simp only[uE,hp,eP]
       rw[e1,e2];exact zbg hG hL ho hv.1 hv.2 hd hev')
     |(simp[qJ]at hv)
 cases o' with
 |alloc z =>
  simp only[lG,aC]at hk;obtain⟨s,hs⟩:=aT.1 hk.1;have hk:=hk.2;split at hk
  ·rename_i t ho;obtain⟨zs,h1,h2⟩:=y5 hk;simp only[gR,hs,dH,eP,aA,Prod.mk.injEq]at h;obtain⟨rfl,rfl⟩:=h;exact zce hG hL ho hs (hd s hs) h1 h2
  ·cases hk
 |box y =>
  simp only[lG,aC]at hk;obtain⟨s,hs⟩:=aT.1 hk.1;have hk:=hk.2;split at hk
  ·rename_i t x ho;simp only[gR,hs,dH,eP]at h;obtain⟨c,h1,h⟩:=dJ h;obtain⟨h2,h⟩:=gQ h;cases h;exact zfg hG hL ho hs (hd s hs) hk h1 h2
  ·cases hk
 |rZ s z =>
  simp only[lG,aC,beq_iff_eq]at hk;obtain⟨hs,hk⟩:=hk;split at hk
  ·rename_i t ho;obtain⟨zs,h1,h2⟩:=y5 hk;simp only[gR,hs]at h;obtain⟨hf,h⟩:=gQ h;cases h;exact zga (zce hG hL ho hs (hd s hs) h1 h2) (NI hf).1 (NI hf).2 (fun _ _ h=>h) rfl
  ·cases hk
 |yC s y =>
  simp only[lG,aC,beq_iff_eq]at hk;obtain⟨hs,hk⟩:=hk;split at hk
  ·rename_i t x ho;simp only[gR,hs]at h;obtain⟨c,h1,h⟩:=dJ h;obtain⟨h2,h⟩:=gQ h;cases h;simp only[aC]at h2;exact zga (zfg hG hL ho hs (hd s hs) hk h1 h2.2) (NI h2.1).1 (NI h2.1).2 (fun _ _ h=>h) rfl
  ·cases hk
 |lI b0 k x' y' =>
  simp only[lG]at hk;split at hk
  ·rename_i t x y ho;simp only[aC,beq_iff_eq]at hk;obtain⟨⟨k1,k2⟩,k3⟩:=hk;simp only[gR]at h;obtain⟨p,h1,h⟩:=dJ h;obtain⟨c,h2,h⟩:=dJ h;cases p with
   |loc b off =>obtain⟨hb,h⟩:=gQ h;simp only[beq_iff_eq]at hb;subst hb;obtain⟨cs,h3,h⟩:=dJ h;obtain⟨h4,h⟩:=gQ h;cases h;exact zab hG hL ho hd k1 k2 k3 h1 h2 h3 h4
   |ptr id off=>cases h
   |gC d=>cases h
  ·cases hk
 |pM t' z =>
  simp only[lG]at hk;split at hk
  ·rename_i t ho;simp only[aC,beq_iff_eq]at hk;obtain⟨hk,rfl⟩:=hk;obtain⟨zs,h1,h2⟩:=y5 hk;simp only[gR,fP,mE,dH,eP,aA,Prod.mk.injEq]at h;obtain⟨rfl,rfl⟩:=h;exact ztf hG hL ho hd h1 h2
  ·cases hk
 |mF t' y =>
  simp only[lG]at hk;split at hk
  ·rename_i t x ho;simp only[aC,beq_iff_eq]at hk;obtain⟨hk,rfl⟩:=hk;simp only[gR,fP,mE]at h;obtain⟨r,hr,h⟩:=dJ h;cases h;obtain⟨c,h1,hr⟩:=dJ hr;obtain⟨h2,hr⟩:=gQ hr;cases hr;exact zzq hG hL ho hd hk h1 h2
  ·cases hk
 |buildSlice sz qs =>
  simp only[lG,aC]at hk;obtain⟨s,hs⟩:=aT.1 hk.1;have hk:=hk.2;split at hk
  ·rename_i t len ps ho;simp only[aC,beq_iff_eq]at hk;obtain⟨zs,k1,k2,k3,k4,k5⟩:=Ou hk.2;simp only[gR]at h;obtain⟨ds,h1,h⟩:=dJ h;obtain⟨h2,h⟩:=gQ h;cases h;simp only[aC,cE]at h2;obtain⟨ke,ksz,kag⟩:=sz;exact zn2 hG hL ho hs (hd s hs) hk.1.1 hk.1.2 k1 k2 k3 k4 k5 h1 h2.1 h2.2
  ·cases hk
 |store k x' y' =>
  simp only[lG]at hk;split at hk
  ·rename_i t x y ho;simp only[aC,beq_iff_eq]at hk;obtain⟨⟨k1,k2⟩,k3⟩:=hk;simp only[gR]at h;obtain⟨p,h1,h⟩:=dJ h;obtain⟨c,h2,h⟩:=dJ h;cases p with
   |loc b off =>obtain⟨cs,h3,h⟩:=dJ h;obtain⟨h4,h⟩:=gQ h;cases h;exact zab hG hL ho hd k1 k2 k3 h1 h2 h3 h4
   |ptr id off =>obtain⟨cs,h3,h⟩:=dJ h;obtain⟨h4,h⟩:=gQ h;cases h;exact zpl hG hL ho hd k1 k2 k3 h1 h2 h3 h4
   |gC d=>cases h
  ·cases hk
 |SL k x' =>
  simp only[lG]at hk;split at hk
  ·rename_i t x ho;simp only[aC]at hk;obtain⟨k1,k2⟩:=hk;simp only[gR]at h;obtain⟨p,h1,h⟩:=dJ h;split at h
   ·obtain⟨cs,h3,h⟩:=dJ h;obtain⟨h4,h⟩:=gQ h;cases h;exact zwp hG hL ho k1 k2 hd h1 h3 (by simpa using h4)
   ·cases h
  ·cases hk
 |PN k x' y' =>
  simp only[lG]at hk;split at hk
  ·rename_i t x y ho;simp only[aC,beq_iff_eq]at hk;obtain⟨⟨k1,k2⟩,k3⟩:=hk;simp only[gR]at h;obtain⟨p,h1,h⟩:=dJ h;obtain⟨c,h2,h⟩:=dJ h;split at h
   ·obtain⟨cs,h3,h⟩:=dJ h;obtain⟨ds,h5,h⟩:=dJ h;obtain⟨h4,h⟩:=gQ h;cases h;simp only[aC,beq_iff_eq]at h4;have hds:c.d=.agg ds:=by
     cases hcd:c.d<;>rw[hcd]at h5<;>simp only[D.sE,reduceCtorEq,aA]at h5;rw[h5]
    exact zti hG hL ho hd k1 k2 k3 h1 h2 h3 hds h4.1 h4.2
   ·cases h
  ·cases hk
 |append sz fG x' y' =>
  simp only[lG,aC]at hk;obtain⟨s,hs⟩:=aT.1 hk.1;have hk:=hk.2;split at hk
  ·rename_i x y t t' ho;simp only[aC,beq_iff_eq]at hk;obtain⟨⟨⟨⟨rfl,k1⟩,k2⟩,k3⟩,k4⟩:=hk;obtain⟨zs,q1,q2,q3,q4,q5⟩:=Ou k3;have q6:uP P sz.el=some fG:=by
    unfold Bl at k4;rw[q1]at k4;simpa using k4
   simp only[gR]at h;obtain⟨c,h1,h⟩:=dJ h;obtain⟨d,h2,h⟩:=dJ h;obtain⟨ys,xc,h⟩:=dJ h;obtain⟨r,h3,h⟩:=dJ h;cases h;obtain⟨ke,ksz,kag⟩:=sz;exact zs9 hG hL ho hs (hd s hs) k1 k2 q1 q2 q3 q4 q5 q6 h1 h2 (zoy xc) h3
  ·cases hk
 |MI k y =>
  simp only[lG]at hk;split at hk
  ·rename_i u t x ho;simp only[aC,beq_iff_eq]at hk;obtain⟨⟨⟨⟨k1,k2⟩,k3⟩,k4⟩,k5⟩:=hk;simp only[gR]at h;obtain⟨c,h1,h⟩:=dJ h;obtain⟨str,h2,h⟩:=dJ h;obtain⟨h3,h⟩:=gQ h;cases h;exact zn4 hG hL ho hd k1 (Qa k2) (uF k3) (ze8b k4) k5 h1 h2 (of_decide_eq_true h3)
  ·cases hk
 |PI y =>
  simp only[lG]at hk;split at hk
  ·rename_i t x ho;simp only[aC]at hk;simp only[gR]at h;obtain⟨c,h1,h⟩:=dJ h;obtain⟨str,h2,h⟩:=dJ h;cases h;exact ztg hG hL ho hd hk.1 hk.2 h1 h2
  ·cases hk
 |TU y =>
  simp only[lG]at hk;split at hk
  ·rename_i x ho;simp only[gR]at h;obtain⟨p,h1,h⟩:=dJ h;cases p with
   |ptr id off =>
    cases off with
    |zero =>
     obtain⟨it,h2,h⟩:=dJ h;cases it with
     |map es cl=>cases h
     |loop r=>cases h
     |yP=>cases h
     |it str pos =>
     simp only at h;obtain⟨k1,k2⟩:=zwr hG hL ho hd hk h1 h2;by_cases hlt:pos<str.length
     ·simp only[hlt,decide_true,dQ,aA,Prod.mk.injEq]at h;obtain⟨rfl,rfl⟩:=h;exact k1 hlt
     ·simp only[hlt,decide_false,dX,aA,Prod.mk.injEq]at h;obtain⟨rfl,rfl⟩:=h;exact k2 hlt
    |succ n=>cases h
   |loc b off=>cases h
   |gC d=>cases h
  ·cases hk
 |Bh sz fG x' y' =>
  simp only[lG,aC]at hk;obtain⟨s,hs⟩:=aT.1 hk.1;have hk:=hk.2;split at hk
  ·rename_i x y t t' ho;simp only[aC,beq_iff_eq]at hk;obtain⟨⟨⟨⟨⟨k0,k1⟩,k2⟩,k3⟩,VQ⟩,k4⟩:=hk;obtain⟨zs,q1,q2,q3,q4,q5⟩:=Ou k3;have q6:uP P sz.el=some fG:=by
    unfold Bl at k4;rw[q1]at k4;simpa using k4
   simp only[gR]at h;obtain⟨c,h1,h⟩:=dJ h;obtain⟨d,h2,h⟩:=dJ h;obtain⟨str,h3,h⟩:=dJ h;obtain⟨r,h4,h⟩:=dJ h;cases h;have hds:d.d=.str str:=by
    cases hdd:d.d<;>rw[hdd]at h3<;>simp only[D.wR,reduceCtorEq,aA]at h3;rw[h3]
   obtain⟨ke,ks,kag⟩:=sz;simp only at VQ;subst VQ;exact zq2 hG hL ho hs (hd s hs) k1 k2 q1 q2 q3 q4 q6 (Qa k0) h1 h2 hds h4
  ·cases hk
 |slice3 sz x' lo' hi' mx' =>
  simp only[lG]at hk;split at hk
  ·rename_i t x lo hi mx ho;simp only[aC]at hk;obtain⟨⟨⟨⟨k1,k2⟩,k3⟩,k4⟩,k5⟩:=hk;obtain⟨el,q1,q2⟩:=NG k5;simp only[gR]at h;obtain⟨c,h1,h⟩:=dJ h;obtain⟨l,h2,h⟩:=dJ h;obtain⟨ch,h3,h⟩:=dJ h;obtain⟨hh,h4,h⟩:=dJ h;obtain⟨cm,h5,h⟩:=dJ h;obtain⟨m,h6,h⟩:=dJ h;obtain⟨d,h7,h⟩:=dJ h;cases h;obtain⟨u,r1,r2,r3⟩:=zwf (w:=w) hL ho k1 k2 k3 k4 (uF q1) q2 h1 h2 h3 h4 h5 h6 h7;exact zth hG hL hd r1 r2 r3
  ·cases hk
 |nM k x' y' =>
  simp only[lG]at hk;split at hk
  ·rename_i t x y ho;simp only[aC,beq_iff_eq]at hk;obtain⟨⟨k1,k2⟩,k3⟩:=hk;simp only[gR,fP,mE]at h;obtain⟨r,hr,h⟩:=dJ h;cases h;obtain⟨p,h1,hr⟩:=dJ hr;obtain⟨c,h2,hr⟩:=dJ hr;cases p with
   |loc b off=>cases hr
   |ptr id off =>obtain⟨cs,h3,hr⟩:=dJ hr;obtain⟨h4,hr⟩:=gQ hr;cases hr;exact ztj hG hL ho hd k1 k2 k3 h1 h2 h3 h4
   |gC d=>cases hr
  ·cases hk
 |Ho k fG z x' y' =>
  simp only[lG]at hk;split at hk
  ·rename_i t x y ho;simp only[aC]at hk;obtain⟨⟨⟨⟨k1,k2⟩,k3⟩,k4⟩,k5⟩:=hk;obtain⟨zs,q1,q2,q3,q4,q5⟩:=Ou k3;obtain⟨zs',q3',k4⟩:=y5 k4;rw[q3]at q3';cases q3';have q6:uP P k.el=some fG:=by
    unfold Bl at k5;rw[q1]at k5;simpa using k5
   simp only[gR,fP,mE]at h;obtain⟨r,hr,h⟩:=dJ h;cases h;obtain⟨c,h1,hr⟩:=dJ hr;obtain⟨l,h2,hr⟩:=dJ hr;obtain⟨d,h3,hr⟩:=dJ hr;obtain⟨l',h4,hr⟩:=dJ hr;obtain⟨h5,hr⟩:=gQ hr;cases hr;simp only[aC,beq_iff_eq,cE]at h5;obtain⟨⟨rfl,h5⟩,h6⟩:=h5;exact zwq hG hL ho hd k1 k2 q1 q2 q3 q4 q5 k4 q6 h1 h3 h2 h4 h5 h6
  ·cases hk
 |vW k qs =>
  simp only[lG]at hk;split at hk
  ·rename_i t len ps ho;simp only[aC,beq_iff_eq]at hk;obtain⟨zs,k1,k2,k3,k4,k5⟩:=Ou hk.2;simp only[gR,fP,mE]at h;obtain⟨r,hr,h⟩:=dJ h;cases h;obtain⟨ds,h1,hr⟩:=dJ hr;obtain⟨h2,hr⟩:=gQ hr;cases hr;simp only[aC,cE]at h2;exact zta hG hL ho hd hk.1.1 hk.1.2 k1 k2 k3 k4 k5 h1 h2.1 h2.2
  ·cases hk
 |qN k fG x' y' =>
  simp only[lG]at hk;split at hk
  ·rename_i x y t t' ho;simp only[aC,beq_iff_eq]at hk;obtain⟨⟨⟨⟨rfl,k1⟩,k2⟩,k3⟩,k4⟩:=hk;obtain⟨zs,q1,q2,q3,q4,q5⟩:=Ou k3;have q6:uP P k.el=some fG:=by
    unfold Bl at k4;rw[q1]at k4;simpa using k4
   simp only[gR,fP,mE]at h;obtain⟨r,hr,h⟩:=dJ h;cases h;obtain⟨c,h1,hr⟩:=dJ hr;obtain⟨d,h2,hr⟩:=dJ hr;obtain⟨ys,h3,hr⟩:=dJ hr;exact zav hG hL ho hd k1 k2 q1 q2 q3 q4 q5 q6 h1 h2 h3 hr
  ·cases hk
 |Bi ws k fG x' y' =>
  simp only[lG]at hk;split at hk
  ·rename_i x y t t' ho;simp only[aC,beq_iff_eq]at hk;obtain⟨⟨⟨⟨rfl,k1⟩,k2⟩,k3⟩,k4⟩:=hk;obtain⟨zs,q1,q2,q3,q4,q5⟩:=Ou k3;have q6:uP P k.el=some fG:=by
    unfold Bl at k4;rw[q1]at k4;simpa using k4
   simp only[gR,fP,mE]at h;obtain⟨r,hr,h⟩:=dJ h;cases h;obtain⟨c,h1,hr⟩:=dJ hr;obtain⟨d,h2,hr⟩:=dJ hr;obtain⟨ys,h3,hr⟩:=dJ hr;exact zav hG hL ho hd k1 k2 q1 q2 q3 q4 q5 q6 h1 h2 h3 hr
  ·cases hk
 |Kz sz x' y' =>
  simp only[lG]at hk;split at hk
  ·rename_i x y t t' ho;simp only[aC]at hk;obtain⟨⟨⟨k1,k2⟩,k3⟩,k4⟩:=hk;obtain⟨el,q1,q2⟩:=NG k4;obtain⟨el',q3⟩:=aT.1 k3;simp only[gR,fP,mE]at h;obtain⟨r,hr,h⟩:=dJ h;cases h;obtain⟨c,h1,hr⟩:=dJ hr;obtain⟨d,h2,hr⟩:=dJ hr;obtain⟨ys,h3,hr⟩:=dJ hr;obtain⟨p,h4,hr⟩:=dJ hr;cases hr;exact zwm hG hL ho hd k1 k2 q1 q3 q2 h1 h2 h3 h4
  ·cases hk
 |He sz z x' =>
  simp only[lG]at hk;split at hk
  ·rename_i x t ho;simp only[aC]at hk;obtain⟨k1,k2⟩:=hk;split at k2
   ·rename_i el hel;simp only[aC,beq_iff_eq]at k2;obtain⟨k2,k3⟩:=k2;obtain⟨zs,q1,q2⟩:=y5 k3;simp only[gR,fP,mE]at h;obtain⟨r,hr,h⟩:=dJ h;cases h;obtain⟨c,h1,hr⟩:=dJ hr;obtain⟨O1,h2,hr⟩:=dJ hr;cases hr;exact ztb hG hL ho hd k1 hel k2 q1 q2 h1 h2
   ·cases k2
  ·cases hk
 |GK k fG z x' y' =>
  simp only[lG]at hk;split at hk
  ·rename_i x y t t' ho;simp only[aC,beq_iff_eq]at hk;obtain⟨⟨⟨⟨⟨k1,k2⟩,k3⟩,k4⟩,k5⟩,k6⟩:=hk;simp only[gR]at h;obtain⟨c,h1,h⟩:=dJ h;split at h
   ·rename_i hcn;obtain⟨m,h2,h⟩:=dJ h;split at h
    ·rename_i mi hm;obtain⟨h3,h4⟩:=gQ h;cases h4;simp only[aC,cE]at h3;obtain⟨zs,q1,q2,q3,q4,q5⟩:=Ou k3;obtain⟨zs',q3',k4⟩:=y5 k4;rw[q3]at q3';cases q3';have q6:uP P k.el=some fG:=by
      unfold Bl at k5;rw[q1]at k5;simpa using k5
     exact zwo hG hL ho hd k1 k2 q1 k6 q2 q3 q4 q5 q6 k4 h1 hcn h2 hm h3.1.1 h3.1.2 h3.2
    ·cases h
   ·cases h
  ·cases hk
 |X6 x' =>
  simp only[lG]at hk;split at hk
  ·rename_i x t ho;simp only[aC]at hk;simp only[gR]at h;obtain⟨c,h1,h⟩:=dJ h;split at h
   ·rename_i hcn;simp only[aA,Prod.mk.injEq]at h;obtain⟨rfl,rfl⟩:=h;exact zzp hG hL ho hd hk.1 hk.2 h1 hcn
   ·cases h
  ·cases hk
 |EN x' =>
  simp only[lG]at hk;split at hk
  ·rename_i g x ts ho;simp only[aC]at hk;simp only[gR]at h;obtain⟨c,h1,h⟩:=dJ h;obtain⟨ob,dd⟩:=c;cases dd<;>simp only[reduceCtorEq]at h;rename_i tt d2;cases d2<;>simp only[reduceCtorEq]at h;obtain⟨x2,h2,h⟩:=dJ h;cases x2<;>simp only[reduceCtorEq,aA,Prod.mk.injEq]at h;obtain⟨rfl,rfl⟩:=h;exact ztc hG hL ho hk.1 hd hk.2 h1 h2
  ·cases hk
 |DL t' x' =>
  simp only[lG]at hk;split at hk
  ·rename_i x u t ho;simp only[aC,beq_iff_eq]at hk;obtain⟨⟨rfl,k1⟩,k2⟩:=hk;simp only[gR]at h;obtain⟨c,h1,h⟩:=dJ h;split at h
   ·rename_i t'' d hcd;obtain⟨h3,h4⟩:=gQ h;cases h4;have h3:=beq_iff_eq.1 h3;rw[h3]at hcd;exact zq3 hG hL ho hd k1 k2 h1 hcd
   ·cases h
  ·cases hk
 |makeMap =>
  simp only[gR,fP,mE,dH,eP,aA,Prod.mk.injEq]at h;obtain⟨rfl,rfl⟩:=h;simp only[lG]at hk;split at hk
  ·rename_i t ho;exact zq4 hG hL ho hd
  ·rename_i t k n ho;obtain⟨⟨kt,el⟩,hm⟩:=aT.1 hk;exact zpk hG hL ho (Vz hm) hd
  ·cases hk
 |update ks x' i' y' =>
  have main:∀{t:TypeId}{x i y:Operand},(o.op=.mapUpdate t x i y\/o.op=.insert t x i y)->(dT x x'&&dT i i'&&dT y y'&&(match zN P t with|some (kt,_)=>uY P ks kt|none=>false))=true->jF P N I j own w o a e' O':=by
   intro t x i y ho hk;simp only[aC]at hk;obtain⟨⟨⟨k1,k2⟩,k3⟩,k4⟩:=hk;split at k4
   ·rename_i kt el hm;simp only[gR,fP,mE]at h;obtain⟨r,hr,h⟩:=dJ h;cases h;obtain⟨c,h1,hr⟩:=dJ hr;obtain⟨k,h2,hr⟩:=dJ hr;obtain⟨v,h3,hr⟩:=dJ hr;obtain⟨⟨id,es,cl⟩,h4,hr⟩:=dJ hr;obtain⟨h5,hr⟩:=gQ hr;obtain⟨f,h6,hr⟩:=dJ hr;cases hr;simp only[aC]at h5;exact ztk hG hL ho hd k1 k2 k3 hm k4 h1 h2 h3 h4 h5.1 h6
   ·cases k4
  simp only[lG]at hk;split at hk
  ·rename_i t x i y ho;exact main (.inl ho) hk
  ·rename_i t x i y ho;exact main (.inr ho) hk
  ·cases hk
 |delete ks x' i' =>
  simp only[lG]at hk;split at hk
  ·rename_i x i t tk ho;simp only[aC]at hk;obtain⟨⟨k1,k2⟩,k4⟩:=hk;split at k4
   ·rename_i kt el hm;simp only[gR,fP,mE]at h;obtain⟨r,hr,h⟩:=dJ h;cases h;obtain⟨c,h1,hr⟩:=dJ hr;obtain⟨k,h2,hr⟩:=dJ hr;obtain⟨⟨id,es,cl⟩,h4,hr⟩:=dJ hr;obtain⟨h5,hr⟩:=gQ hr;obtain⟨f,h6,hr⟩:=dJ hr;cases hr;exact zte hG hL ho hd k1 k2 hm k4 h1 h2 h4 h5 h6
   ·cases k4
  ·cases hk
 |entry ks z x' i' =>
  simp only[lG]at hk;split at hk
  ·rename_i t x i ho;simp only[aC]at hk;obtain⟨⟨k1,k2⟩,k4⟩:=hk;split at k4
   ·rename_i kt el hm;simp only[aC]at k4;obtain⟨k4,k5⟩:=k4;split at k5
    ·rename_i zv hz;simp only[gR,fP,mE]at h;obtain⟨r,hr,h⟩:=dJ h;cases h;obtain⟨c,h1,hr⟩:=dJ hr;obtain⟨k,h2,hr⟩:=dJ hr;obtain⟨⟨id,es,cl⟩,h4,hr⟩:=dJ hr;obtain⟨h5,hr⟩:=gQ hr;obtain⟨f,h6,hr⟩:=dJ hr;cases hr;exact zwn hG hL ho hd k1 k2 hm k4 hz k5 h1 h2 h4 h5 h6
    ·cases k5
   ·cases k4
  ·cases hk
 |entryStore x' s' y' =>
  simp only[lG]at hk;split at hk
  ·rename_i t x s y ho;simp only[aC]at hk;obtain⟨⟨k1,k2⟩,k3⟩:=hk;simp only[gR,fP,mE]at h;obtain⟨r,hr,h⟩:=dJ h;cases h;obtain⟨c,h1,hr⟩:=dJ hr;obtain⟨b,h2,hr⟩:=dJ hr;obtain⟨bn,h3,hr⟩:=dJ hr;obtain⟨v,h4,hr⟩:=dJ hr;obtain⟨⟨id,es,cl⟩,h5,hr⟩:=dJ hr;obtain⟨h6,hr⟩:=gQ hr;cases hr;simp only[aC]at h6;exact zn3 hG hL ho hd k1 k2 k3 h1 h2 h3 h4 h5 h6.2
  ·cases hk
 |EP f' az' =>
  simp only[lG]at hk;split at hk
  ·rename_i f az ts ho;simp only[aC]at hk;simp only[gR]at h;obtain⟨c,h1,h⟩:=dJ h;obtain⟨⟨g,x,y⟩,h2,h⟩:=dJ h;obtain⟨ds,h3,h⟩:=dJ h;cases h;exact ztd hG hL ho hd hk.1 hk.2 h1 h2 h3
  ·cases hk
 |call g az'=>simp only[gR,eQ,dH,qK,reduceCtorEq]at h
 |nE g az'=>simp only[gR,eQ,dH,qK,reduceCtorEq]at h
 |nD ws g az'=>simp only[gR,eQ,dH,qK,reduceCtorEq]at h
 |Kp ws g az'=>simp only[gR,eQ,dH,qK,reduceCtorEq]at h
 |panic y=>simp only[gR,eQ,dH,qK,reduceCtorEq]at h
 |_ =>simp only[lG]at hk;simp only[gR]at h;obtain⟨v,h1,h⟩:=dJ h;cases h;exact value hk v h1 rfl rfl
theorem zq7(hL:eI I j own lb N e a w){ops:Array Oper}{o:Oper}{g:Option (Nat×Bool)}(hk:EF ops o.guard g=true)(hN:∀i s b,o.guard=some (i,b)->((ops[i]?).bind (·.dst))=some s->s<N){b:Bool}(h:Ee g e=some b) :
  Region.wanted o (yielded ops a.tmps)=b:=by
 unfold Region.wanted;cases hg:o.guard with
 |none =>
  rw[hg]at hk;cases g with
  |none=>simp only[Ee,aA]at h;subst h;rfl
  |some p=>simp[EF]at hk
 |some p =>
  obtain⟨i,want⟩:=p;rw[hg]at hk;cases g with
  |none=>simp[EF]at hk
  |some q =>
   obtain⟨s,want'⟩:=q;simp only[EF,aC,beq_iff_eq]at hk;obtain⟨h1,rfl⟩:=hk;have hdst:((ops[i]?).bind (·.dst))=some s:=by
    cases ho:ops[i]? with
    |none=>rw[ho]at h1;cases h1
    |some o=>rw[ho]at h1;simpa using h1
   have hlt:=hN i s want hg hdst;simp only[Ee]at h;obtain⟨c,h2,h⟩:=dJ h;have hr:=(hL.slots s c h2).1;have hget:a.tmps[s]?=some (a.tmps.getD s Go.undef):=(by rw[Array.getD_eq_getD_getElem?,Array.getElem?_eq_getElem (by rw[hL.size];exact hlt)];rfl);simp only[yielded,hdst,Option.bind_some,hget];cases hb:c.d.bool? with
   |some t =>rw[hb]at h;simp only[eP,aA]at h;cases hd:c.d<;>rw[hd]at hb<;>simp only[D.bool?,reduceCtorEq,aA]at hb;subst hb;rw[hd]at hr;simp only[dL]at hr;rw[hr];subst h;simp
   |none =>rw[hb]at h;simp only[qK]at h;cases hd:c.d<;>rw[hd]at h<;>simp only[OM,dQ,dX,reduceCtorEq,aA]at h;subst h;rw[hd]at hr;simp only[dL]at hr;rw[hr];rfl
end
end Go.Mx
