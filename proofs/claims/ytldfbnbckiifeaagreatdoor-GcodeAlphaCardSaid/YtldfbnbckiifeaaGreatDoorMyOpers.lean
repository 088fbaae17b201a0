/-
 One operation of a region: its fit,and that the machine's step is the program's.
-/
import Derived.Test.YtldfbnbckiifeaaGreatDoorMyMap
import Derived.Test.YtldfbnbckiifeaaGreatDoorMySwap
set_option linter.unusedSimpArgs false
set_option linter.unusedVariables false
set_option linter.unusedSectionVars false
namespace Go.Mx
open Go
def yC (P:Program) (t:TypeId) (z:List D):Bool:=match mQ P t with
 | some zs=>mJ z zs
 | none=>false
def tR (P:Program) (t:TypeId) (k:RowK):Bool:=match jI P t with
 | some el=>(match fP P el,mQ P el with
  | some n,some zs=>el == k.el && n == k.sz && zs.length == k.sz && decide (0 < k.sz)
  | _,_=>false)
 | none=>false
def oV (P:Program) (t:TypeId) (by_:Nat):Bool:=match jI P t with
 | some el=>nB P el == some by_
 | none=>false
def jG (P:Program) (o:Oper):AOp→Bool
 | .alloc z=>o.dst.isSome && (match o.op with | .alloc t=>yC P t z | _=>false)
 | .box y=>o.dst.isSome && (match o.op with | .box _ x=>dL x y | _=>false)
 | .allocN s z=>o.dst == some s && (match o.op with | .alloc t=>yC P t z | _=>false)
 | .boxN s y=>o.dst == some s && (match o.op with | .box _ x=>dL x y | _=>false)
 | .storeB _ k x' y'=>match o.op with | .store t x y=>dL x x' && dL y y' && fP P t == some k | _=>false
 | .callW _ g as'=>match o.op with | .call {callee:=.value f,args:=as,..}=>dL f (.const (.fn (.func g) [] [])) && (!isY g && oO as.toList as') | _=>false
 | .callvW _ f' as'=>match o.op with | .call {callee:=.value f,args:=as,..}=>dL f f' && oO as.toList as' | _=>false
 | .galloc t' z=>match o.op with | .alloc t=>yC P t z && t == t' | _=>false
 | .gbox t' y=>match o.op with | .box t x=>dL x y && t == t' | _=>false
 | .strToBytes k y=>match o.op with | .convert s t x=>dL x y && rT P s && jI P t == some k.el && Bl P k.el == some .u8 && k.sz == 1 | _=>false
 | .rangeS y=>match o.op with | .range t x=>dL x y && rT P t | _=>false
 | .nextS y=>match o.op with | .next x true=>dL x y | _=>false
 | .buildSlice k qs=>o.dst.isSome && (match o.op with | .buildSlice t len ps=>zU 0 ps.toList qs && len == qs.length && tR P t k | _=>false)
 | .store k x' y'=>match o.op with | .store t x y=>dL x x' && dL y y' && fP P t == some k | _=>false
 | .loadA k x'=>match o.op with | .load t x=>dL x x' && okK P t (some k) | _=>false
 | .storeA k x' y'=>match o.op with | .store t x y=>dL x x' && dL y y' && fP P t == some k | _=>false
 | .append sz by_ x' y'=>o.dst.isSome && (match o.op with
  | .call {callee:=.builtin .append,args:=⟨[x,y]⟩,argTypes:=⟨[t,t']⟩}=>t == t' && dL x x' && dL y y' && tR P t sz && oV P t by_
  | _=>false)
 | .appendS k by_ x' y'=>o.dst.isSome && (match o.op with
  | .call {callee:=.builtin .append,args:=⟨[x,y]⟩,argTypes:=⟨[t,t']⟩}=>rT P t' && dL x x' && dL y y' && tR P t k && k.sz == 1 && oV P t by_
  | _=>false)
 | .slice3 sz x' lo' hi' mx'=>match o.op with | .slice t x lo (some hi) (some mx)=>dL x x' && uB lo lo' && dL hi hi' && dL mx mx' && (match jI P t with | some e=>fP P e == some sz | none=>false) | _=>false
 | .storeP k x' y'=>match o.op with | .store t x y=>dL x x' && dL y y' && fP P t == some k | _=>false
 | .makeA k by_ z x' y'=>match o.op with | .makeSlice t x y=>dL x x' && dL y y' && tR P t k && yC P k.el z && oV P t by_ | _=>false
 | .buildA k qs=>match o.op with | .buildSlice t len ps=>zU 0 ps.toList qs && len == qs.length && tR P t k | _=>false
 | .appendA k by_ x' y'=>match o.op with
  | .call {callee:=.builtin .append,args:=⟨[x,y]⟩,argTypes:=⟨[t,t']⟩}=>t == t' && dL x x' && dL y y' && tR P t k && oV P t by_
  | _=>false
 | .appendW _ k by_ x' y'=>match o.op with
  | .call {callee:=.builtin .append,args:=⟨[x,y]⟩,argTypes:=⟨[t,t']⟩}=>t == t' && dL x x' && dL y y' && tR P t k && oV P t by_
  | _=>false
 | .copyA sz x' y'=>match o.op with
  | .call {callee:=.builtin .copy,args:=⟨[x,y]⟩,argTypes:=⟨[t,t']⟩}=>dL x x' && dL y y' && (jI P t').isSome && (match jI P t with | some e=>fP P e == some sz | none=>false)
  | _=>false
 | .clearA sz z x'=>match o.op with
  | .call {callee:=.builtin .clear,args:=⟨[x]⟩,argTypes:=⟨[t]⟩}=>dL x x' && (match jI P t with | some e=>fP P e == some sz && yC P e z | none=>false)
  | _=>false
 | .growZ k by_ z x' y'=>match o.op with
  | .call {callee:=.builtin .append,args:=⟨[x,y]⟩,argTypes:=⟨[t,t']⟩}=>dL x x' && dL y y' && tR P t k && yC P k.el z && oV P t by_ && Bl P t' == some .i64
  | _=>false
 | .capZ x'=>match o.op with
  | .call {callee:=.builtin .cap,args:=⟨[x]⟩,argTypes:=⟨[t]⟩}=>dL x x' && (jI P t).isSome
  | _=>false
 | .cloneM x'=>match o.op with | .call {callee:=.value (.func g),args:=⟨[x]⟩,..}=>ziv P g && dL x x' | _=>false
 | .assertP t' x'=>match o.op with | .typeAssert x _ t false=>t == t' && dL x x' && pF P t == some false | _=>false
 | .makeMap=>match o.op with | .makeMap t none=>fF P t | .makeMap t (some (.const (.int _ _)))=>fF P t | _=>false
 | .update ks x' i' y'=>match o.op with
  | .mapUpdate t x i y=>dL x x' && dL i i' && dL y y' && (match tD P t with | some (kt,_)=>sR P ks kt | none=>false)
  | .insert t x i y=>dL x x' && dL i i' && dL y y' && (match tD P t with | some (kt,_)=>sR P ks kt | none=>false)
  | _=>false
 | .delete ks x' i'=>match o.op with
  | .call {callee:=.builtin .delete,args:=⟨[x,i]⟩,argTypes:=⟨[t,_]⟩}=>dL x x' && dL i i' && (match tD P t with | some (kt,_)=>sR P ks kt | none=>false)
  | _=>false
 | .entry ks z x' i'=>match o.op with
  | .mapEntry t x i=>dL x x' && dL i i' && (match tD P t with | some (kt,el)=>sR P ks kt && (match (P.info? el).bind (·.zero) with | some zv=>gV z zv | none=>false) | none=>false)
  | _=>false
 | .entryStore x' s' y'=>match o.op with
  | .entryStore _ x s y=>dL x x' && dL s s' && dL y y'
  | _=>false
 | .deferv f' as'=>match o.op with | .defer {callee:=.value f,args:=as,..}=>dL f f' && oO as.toList as' | _=>false
 | .call g as'=>match o.op with | .call {callee:=.value f,args:=as,..}=>dL f (.const (.fn (.func g) [] [])) && (!isY g && oO as.toList as') | _=>false
 | .callv f' as'=>match o.op with | .call {callee:=.value f,args:=as,..}=>dL f f' && oO as.toList as' | _=>false
 | .panic y=>match o.op with | .panic x=>dL x y | _=>false
 | o'=>okV P o.op o'
def zrr (N:Nat):Option Nat→Option Nat→Bool
 | none,none=>true
 | some s,some s'=>s == s' && decide (s < N)
 | _,_=>false
theorem zx7 {N:Nat} {d d':Option Nat} (h:zrr N d d'=true):d=d'∧∀ s,d=some s→s < N:=by
 cases d <;> cases d' <;> simp only [zrr,aE,aC,beq_iff_eq,cE] at h
 ·exact ⟨rfl,fun s h=>by cases h⟩
 ·exact ⟨by rw [h.1],fun s hs=>by cases hs; exact h.2⟩
def Gs (ops:Array Oper):Option (Nat × Bool)→Option (Nat × Bool)→Bool
 | none,none=>true
 | some (i,b),some (s,b')=>(match ops[i]? with | some o=>o.dst == some s | none=>false) && b == b'
 | _,_=>false
def Qd (P:Program) (N:Nat) (ops:Array Oper) (o:Oper) (o':AOper):Bool:=zrr N o.dst o'.dst && Gs ops o.guard o'.guard && jG P o o'.op
section
variable [LoopKit] {P:Program} {ι:Imm} {j:Lay} {own:Own} {lb:Lay} {N:Nat} {e:Env} {a:Go.Act} {w:World} {σ:Store}
theorem zey {os:List (Nat × List Cell)} {d:D} {ys:List D} (h:jM d=some ys):iR os d=some ys:=by
 cases d <;> simp only [jM,reduceCtorEq] at h <;> exact h
theorem qO {t:TypeId} {k:RowK} (h:tR P t k=true):∃ zs,jI P t=some k.el∧fP P k.el=some k.sz∧mQ P k.el=some zs∧zs.length=k.sz∧0 < k.sz:=by
 unfold tR at h
 split at h
 ·rename_i el hel
  split at h
  ·rename_i n zs hn hz
   simp only [aC,beq_iff_eq,cE] at h
   obtain ⟨⟨⟨rfl,h1⟩,h2⟩,h3⟩:=h
   exact ⟨zs,hel,h1 ▸ hn,hz,h2,h3⟩
  ·cases h
 ·cases h
theorem vB {t:TypeId} {z:List D} (h:yC P t z=true):∃ zs,mQ P t=some zs∧mJ z zs=true:=by
 unfold yC at h
 split at h
 ·rename_i zs hz
  exact ⟨zs,hz,h⟩
 ·cases h
theorem zaub {d:D} {f:FuncId} {x y:List D} (h:d.fn?=some (f,x,y)) {v:Value} (hr:Rep ι j d v):(isY f=false∧∃ vf vc,v=.func (.func f) ⟨vf⟩ ⟨vc⟩∧dM ι j x vf∧dM ι j y vc)∨∃ id b,d=.yld id∧f=iG + id∧x=[]∧y=[]∧j id=some b∧v=.func (.yield b) ⟨[]⟩ ⟨[]⟩:=by
 cases d with
 | fn g a b =>
  cases g with
  | func g =>
   simp only [D.fn?] at h
   obtain ⟨h0,h⟩:=dN' h
   simp only [aA,Prod.mk.injEq] at h
   obtain ⟨rfl,rfl,rfl⟩:=h
   exact .inl ⟨h0,by simpa only [Rep] using hr⟩
  | _=>simp [D.fn?] at h
 | yld id =>
  simp only [D.fn?,aA,Prod.mk.injEq] at h
  obtain ⟨rfl,rfl,rfl⟩:=h
  simp only [Rep] at hr
  obtain ⟨b,h1,h2⟩:=hr
  exact .inr ⟨id,b,rfl,rfl,rfl,rfl,h1,h2⟩
 | _=>simp [D.fn?] at h
theorem zue {d:D} {f:FuncId} {x y:List D} (h:d.fnF?=some (f,x,y)) {v:Value} (hr:Rep ι j d v):isY f=false∧∃ vf vc,v=.func (.func f) ⟨vf⟩ ⟨vc⟩∧dM ι j x vf∧dM ι j y vc:=by
 cases d with
 | fn g a b =>
  cases g with
  | func g =>
   simp only [D.fnF?] at h
   obtain ⟨h0,h⟩:=dN' h
   simp only [aA,Prod.mk.injEq] at h
   obtain ⟨rfl,rfl,rfl⟩:=h
   exact ⟨h0,by simpa only [Rep] using hr⟩
  | _=>simp [D.fnF?] at h
 | _=>simp [D.fnF?] at h
theorem zm7 (hG:GSim ι j own σ w) (hL:LSim ι j own lb N e a w) {o:Oper} {f:Operand} {f':AOpd} {as:Array Operand} {ts:Array TypeId} {as':List AOpd} {c:Cell} {g:FuncId} {x y ds:List D} (ho:o.op=.defer {callee:=.value f,args:=as,argTypes:=ts})
  (hd:∀ s,o.dst=some s→s < N) (hk:dL f f'=true) (hk1:oO as.toList as'=true) (h1:opd e f'=some c) (h2:c.d.fnF?=some (g,x,y)) (h3:lZ e as'=some ds) :
  Did P N ι j own w o a (Env.put {e with defers:=(g,x ++ ds ++ y) :: e.defers} o.dst ⟨false,.undef⟩) σ:=by
 obtain ⟨hY,vf,vc,hv,r1,r2⟩:=zue h2 (dT hL hk h1)
 have hr:=pS hL hk1 h3
 refine ⟨.defer {target:=.fn (.func g) ⟨vc⟩,args:=⟨vf⟩ ++ as.map a.eval},w,_,?_,.inr (.inr ⟨_,rfl,rfl⟩),ι,j,own,lb,hG,?_,Evo.refl _ _ _ _ _⟩
 ·simp only [execOp,ho,resolve,hv,Deferred.ofValue,Sem.run_bind,Sem.run_pure,Result.andThen_ok]
 ·have hL':LSim ι j own lb N {e with defers:=(g,x ++ ds ++ y) :: e.defers} ({a with defers:={target:=.fn (.func g) ⟨vc⟩,args:=⟨vf⟩ ++ as.map a.eval} :: a.defers}:Go.Act) w :=
   {size:=hL.size,slots:=hL.slots,locs:=hL.locs,boxes:=hL.boxes,defers:=by
     simp only [rC]
     refine ⟨_,_,rfl,hL.defers,?_⟩
     rw [if_neg (by rw [hY]; simp)]
     refine ⟨⟨vc⟩,⟨vf⟩ ++ as.map a.eval,rfl,?_⟩
     have:=(r1.append hr).append r2
     simpa using this}
  cases hds:o.dst with
  | none=>exact hL'
  | some s=>exact hL'.putC (hd s hds) ⟨by simp only [Rep],fun h=>by cases h⟩
theorem zcpb {t:TypeId} (h:Bl P t=some .u8):P.underlying t=some (.int .u8):=by
 unfold Bl at h
 split at h
 ·rename_i k hk
  simp only [aA] at h
  rw [hk,h]
 ·cases h
theorem za1 (hG:GSim ι j own σ w) (hL:LSim ι j own lb N e a w) {o:Oper} {t u:TypeId} {k:RowK} {x:Operand} {y:AOpd} {c:Cell} {s:List UInt8} (ho:o.op=.convert u t x) (hd:∀ s,o.dst=some s→s < N) (hk:dL x y=true)
  (hu:P.underlying u=some .string) (ht:P.underlying t=some (.slice k.el)) (he:P.underlying k.el=some (.int .u8)) (hk1:k.sz=1) (hc:opd e y=some c) (hs:c.d.str?=some s) (hb:s.length≤eL) :
  Did P N ι j own w o a (e.put o.dst ⟨false,.list k (rE s)⟩) σ:=by
 have hx:=Ht hs (dT hL hk hc)
 have hrun:=run_bytes_of_string (P:=P) w u t k.el ⟨⟨s⟩⟩ hu ht he
 have hsz:(⟨⟨s⟩⟩:ByteArray).size=s.length:=rfl
 rw [hsz] at hrun
 generalize hcap:grownCap w s.length 0 k.el=cap at hrun
 have hb':s.length≤1099511627776:=hb
 have hge:s.length≤cap:=hcap ▸ grownCap_ge w _ 0 k.el
 have hle:cap≤maxLen:=hcap ▸ grownCap_le_maxLen w _ 0 k.el (by simp only [maxLen]; omega)
 generalize hcur:bytesRow ⟨⟨s⟩⟩ cap=cur at hrun
 generalize hfr:(cur.size,cur.size + 1)=fr at hrun
 have hat:∀ (n:Nat) (y:Value),(s.map fun b=>Value.int .u8 b.toNat)[n]?=some y→cur[n]?=some y:=by
  intro n y hn
  have hlt:=(List.getElem?_eq_some_iff.1 hn).1
  rw [← hcur]
  unfold bytesRow
  rw [Array.getElem?_append_left (by simpa using hlt)]
  simpa using hn
 generalize hw':w.drew.alloc (.cells cur k.el fr)=w' at hrun
 have hnew:w'.heap[w.heap.size]?=some (.cells cur k.el fr):=hw' ▸ heap_alloc_new w.drew _
 have hold:∀ b,b < w.heap.size→w'.heap[b]?=w.heap[b]?:=fun b hb=>hw' ▸ heap_alloc_old w.drew _ hb
 have hsize:w.heap.size≤w'.heap.size:=Nat.le_of_lt (Array.getElem?_eq_some_iff.1 hnew).1
 have hE:Evo ι j own w (lF ι w.heap.size 0 s.length (fun o=>(s.map fun b=>Value.int .u8 b.toNat)[o]?)) j own w' (fun _=>False):=by
  refine ⟨by rw [← hw']; rfl,by rw [← hw']; rfl,by rw [← hw']; rfl,hsize,fun b o v h=>?_,fun _ _ h=>h,fun b hb _=>⟨hold b hb,rfl,fun o=>if_neg (by omega)⟩⟩
  have:=sO hG h
  unfold lF
  rw [if_neg (by omega)]
  exact h
 have hG':GSim (lF ι w.heap.size 0 s.length (fun o=>(s.map fun b=>Value.int .u8 b.toNat)[o]?)) j own σ w':=by
  refine hG.evo hE (fun b o v h=>?_) (fun b u h hu o=>?_) (fun b u h=>aP (hG.ownlt b u h) hsize) hG.jlt (fun _ _ _=>⟨fun h=>h,fun _ _ _ _ h=>h⟩) (fun _ _ _ h=>h)
  ·unfold lF at h
   by_cases hcnd:b=w.heap.size∧0≤o∧o < s.length
   ·rw [if_pos hcnd] at h
    obtain ⟨rfl,_,ho⟩:=hcnd
    rw [cell_of_row w' _ o cur k.el fr hnew]
    exact hat o v h
   ·rw [if_neg hcnd] at h
    have hb:=sO hG h
    rw [World.cell?_of_block (w:=w) (w':=w') (a:=⟨b,o,none⟩) (hold b hb)]
    exact hG.holds b o v h
  ·have:=hG.ownlt b u h
   unfold lF
   rw [if_neg (by omega)]
   exact hG.noimm b u h hu o
 refine ⟨.value (.slice (some ⟨w.heap.size,0,none⟩) s.length cap),w',_,?_,.inl ⟨_,rfl,rfl⟩,_,j,own,lb,hG',?_,hE.weaken fun _ h=>h.elim⟩
 ·simp only [execOp,ho,hx,Sem.run_bind,hrun,Result.andThen_ok,Sem.run_pure]
 ·have hL':=hL.evo hE (fun _ _ _ _ h=>h) (fun _ _ _=>⟨fun h=>h,fun _ _ _ _ h=>h⟩)
  cases hds:o.dst with
  | none=>exact hL'
  | some d =>
   refine hL'.putC (hd d hds) ⟨?_,fun h=>by cases h⟩
   simp only [Rep]
   refine ⟨_,cap,by rw [tW],by rw [tW]; exact hge,hle,.inr ⟨w.heap.size,0,rfl,eU.of_vals (Ih s) (fun x hx=>?_) fun n y hn=>?_⟩⟩
   ·obtain ⟨b,_,rfl⟩:=bF.1 hx
    rw [hk1]
    rfl
   ·rw [Iz] at hn
    have hlt:=(List.getElem?_eq_some_iff.1 hn).1
    rw [aJ] at hlt
    unfold lF
    rw [if_pos ⟨rfl,by omega,by omega⟩,aN]
    exact hn
theorem zna (hG:GSim ι j own σ w) (hL:LSim ι j own lb N e a w) {o:Oper} {t:TypeId} {x:Operand} {y:AOpd} {c:Cell} {s:List UInt8} (ho:o.op=.range t x) (hd:∀ s,o.dst=some s→s < N) (hk:dL x y=true) (ht:rT P t=true) (hc:opd e y=some c) (hs:c.d.str?=some s) :
  Did P N ι j own w o a (e.put o.dst ⟨false,.ptr σ.next 0⟩) {σ with oth:=(σ.next,.it s 0) :: σ.oth,next:=σ.next + 1}:=by
 have hx:=Ht hs (dT hL hk hc)
 refine rP hG hL hd (ob:=.stringIter ⟨⟨s⟩⟩ 0) (v:=.pointer (some ⟨w.heap.size,0,none⟩)) (fun ι' j' w' h=>h) ?_ (fun j' h=>by simp only [Rep]; exact ⟨_,h,rfl⟩)
 simp only [execOp,ho,hx,Instr.range,Sem.run_bind,run_underlying (vF ht),Result.andThen_ok,Sem.run_pure,run_newObj]
 rfl
theorem zsk (hG:GSim ι j own σ w) (hL:LSim ι j own lb N e a w) {o:Oper} {x:Operand} {y:AOpd} {id pos:Nat} {s:List UInt8} (ho:o.op=.next x true) (hd:∀ s,o.dst=some s→s < N) (hk:dL x y=true) (hp:iW e y=some (.ptr id 0)) (hi:dE σ.oth id=some (.it s pos)) :
  (pos < s.length→Did P N ι j own w o a (e.put o.dst ⟨false,.tup [.bool true,.int .i64 pos,.int .i32 (Utf8.decode ⟨⟨s⟩⟩ pos).1]⟩) {σ with oth:=dZ σ.oth id (.it s (pos + (Utf8.decode ⟨⟨s⟩⟩ pos).2))}) ∧
  (¬ pos < s.length→Did P N ι j own w o a (e.put o.dst ⟨false,.tup [.bool false]⟩) σ):=by
 obtain ⟨B,hB,hx⟩:=nK hL hk hp
 obtain ⟨B',hB',hown,hheap⟩:=hG.oth id _ hi
 rw [hB] at hB'
 cases hB'
 have hheap:w.heap[B]?=some (.stringIter ⟨⟨s⟩⟩ pos):=hheap
 have hget:(getObj B).run P w=.ok (.stringIter ⟨⟨s⟩⟩ pos) w:=by simp [getObj,Sem.run,hheap]
 have hsz:(⟨⟨s⟩⟩:ByteArray).size=s.length:=rfl
 refine ⟨fun hlt=>?_,fun hge=>?_⟩
 ·obtain ⟨h4,h5⟩:=zkf hG (y:=.it s (pos + (Utf8.decode ⟨⟨s⟩⟩ pos).2)) (ob:=.stringIter ⟨⟨s⟩⟩ (pos + (Utf8.decode ⟨⟨s⟩⟩ pos).2)) hi hB hown (fun w' h=>h) rfl
  generalize hw':({w with heap:=w.heap.setIfInBounds B (.stringIter ⟨⟨s⟩⟩ (pos + (Utf8.decode ⟨⟨s⟩⟩ pos).2))}:World)=w' at h4 h5
  refine ⟨.value (.tuple #[.bool true,.int .i64 pos,.int .i32 (Utf8.decode ⟨⟨s⟩⟩ pos).1]),w',_,?_,.inl ⟨_,rfl,rfl⟩,ι,j,own,lb,h4,?_,h5.weaken fun _ _=>trivial⟩
  ·have hset:(setObj B (.stringIter ⟨⟨s⟩⟩ (pos + (Utf8.decode ⟨⟨s⟩⟩ pos).2))).run P w=.ok () w':=by
    simp [setObj,Sem.run,hheap,hw']
   simp only [execOp,ho,hx,Instr.next,Sem.run_bind,hget,Result.andThen_ok,hsz,if_pos hlt,hset,Sem.run_pure,goInt]
  ·have hL':=hL.evo h5 (fun _ _ _ _ h=>by cases h) (fun _ _ _=>⟨(fun h=>by cases h),(fun _ _ _ _ h=>by cases h)⟩)
   cases hds:o.dst with
   | none=>exact hL'
   | some d=>exact hL'.putC (hd d hds) ⟨by simp [Rep,dM],fun h=>by cases h⟩
 ·refine ⟨.value (.tuple #[.bool false]),w,_,?_,.inl ⟨_,rfl,rfl⟩,ι,j,own,lb,hG,?_,Evo.refl _ _ _ _ _⟩
  ·simp only [execOp,ho,hx,Instr.next,Sem.run_bind,hget,Result.andThen_ok,hsz,if_neg hge,Sem.run_pure]
  ·cases hds:o.dst with
   | none=>exact hL
   | some d=>exact hL.putC (hd d hds) ⟨by simp [Rep,dM],fun h=>by cases h⟩
theorem zoc {o:Oper} {e1 e2:Env} {σ':Store} (h:Did P N ι j own w o a e1 σ') (h1:∀ s c,dE e2.slots s=some c→dE e1.slots s=some c) (h2:∀ s p,dE e2.locs s=some p→dE e1.locs s=some p) (h3:∀ s cs,dE e2.boxes s=some cs→dE e1.boxes s=some cs) (h4:e2.defers=e1.defers):Did P N ι j own w o a e2 σ':=by
 obtain ⟨nx,w',a',k1,k2,ι',j',own',lb',k3,k4,k5⟩:=h
 exact ⟨nx,w',a',k1,k2,ι',j',own',lb',k3,k4.sub (fun s c h=>⟨c,h1 s c h,rfl,fun h=>h⟩) h2 (fun s cs h=>⟨cs,h3 s cs h,jR.refl cs⟩) h4,k5⟩
theorem Ig {s:Nat} {cs:List Cell} (hf:mI e.locs s=true):(∀ t c,dE (Env.putV {e with boxes:=dZ e.boxes s cs} (some s) (.l s 0)).slots t=some c→dE (e.box s cs).slots t=some c)∧∀ t p,dE (Env.putV {e with boxes:=dZ e.boxes s cs} (some s) (.l s 0)).locs t=some p→dE (e.box s cs).locs t=some p:=by
 refine ⟨fun t c h=>h,fun t p h=>?_⟩
 obtain ⟨b,o⟩:=p
 simp only [Env.putV,Env.box,dY] at h ⊢
 split
 ·rename_i hs; rw [if_pos hs] at h; exact h
 ·rename_i hs
  rw [if_neg hs] at h
  exact Ln _ _ _ _ _ h ((pJ.1 hf).2 t b o h)
theorem zi2 (hG:GSim ι j own σ w) (hL:LSim ι j own lb N e a w) {o:Oper} {o':AOp} (hk:jG P o o'=true) (hd:∀ s,o.dst=some s→s < N) {e':Env} {σ':Store} (h:dX o.dst o' e σ=some (e',σ')) :
  Did P N ι j own w o a e' σ':=by
 have value:okV P o.op o'=true→(∀ v,dO o' e σ=some v→e'=(lE o' e).putV o.dst v→σ'=kX o' e σ→Did P N ι j own w o a e' σ'):=by
  rintro hv v hev rfl rfl
  cases hp:Hj o' with
  | true=>exact zsl hG hL hv hd hp hev
  | false =>
   cases o' <;> simp only [Hj,Bool.true_eq_false,Bool.not_eq_false'] at hp
   ·exact zy6 hG hL hv hd hev
   ·subst hp
    generalize ho:o.op=op at hv
    cases op <;> first
     | (simp only [okV,aC] at hv; exact Uw hG hL ho hv.1 hv.2 hd hev)
     | (simp [okV] at hv)
   ·subst hp
    generalize ho:o.op=op at hv
    cases op <;> first
     | (simp only [okV,aC] at hv
        rename_i k y t x
        have hev':=Zb hev
        have e1:lE (.loadL k true y) e=lE (.load k true y) e:=rfl
        have e2:kX (.loadL k true y) e σ=kX (.load k true y) e σ:=by
         simp only [dO] at hev
         obtain ⟨p,hp,hev⟩:=dC hev
         cases p with
         | ptr id off=>cases hev
         | loc b off=>simp only [kX,hp,dK]
         | eptr d=>simp only [kX,hp,dK]
        rw [e1,e2]
        exact Uw hG hL ho hv.1 hv.2 hd hev')
     | (simp [okV] at hv)
 cases o' with
 | alloc z =>
  simp only [jG,aC] at hk
  obtain ⟨s,hs⟩:=aT.1 hk.1
  have hk:=hk.2
  split at hk
  ·rename_i t ho
   obtain ⟨zs,h1,h2⟩:=vB hk
   simp only [dX,hs,dG,dK,aA,Prod.mk.injEq] at h
   obtain ⟨rfl,rfl⟩:=h
   exact zay hG hL ho hs (hd s hs) h1 h2
  ·cases hk
 | box y =>
  simp only [jG,aC] at hk
  obtain ⟨s,hs⟩:=aT.1 hk.1
  have hk:=hk.2
  split at hk
  ·rename_i t x ho
   simp only [dX,hs,dG,dK] at h
   obtain ⟨c,h1,h⟩:=dC h
   obtain ⟨h2,h⟩:=dN h
   cases h
   exact zk3 hG hL ho hs (hd s hs) hk h1 h2
  ·cases hk
 | allocN s z =>
  simp only [jG,aC,beq_iff_eq] at hk
  obtain ⟨hs,hk⟩:=hk
  split at hk
  ·rename_i t ho
   obtain ⟨zs,h1,h2⟩:=vB hk
   simp only [dX,hs] at h
   obtain ⟨hf,h⟩:=dN h
   cases h
   exact zoc (zay hG hL ho hs (hd s hs) h1 h2) (Ig hf).1 (Ig hf).2 (fun _ _ h=>h) rfl
  ·cases hk
 | boxN s y =>
  simp only [jG,aC,beq_iff_eq] at hk
  obtain ⟨hs,hk⟩:=hk
  split at hk
  ·rename_i t x ho
   simp only [dX,hs] at h
   obtain ⟨c,h1,h⟩:=dC h
   obtain ⟨h2,h⟩:=dN h
   cases h
   simp only [aC] at h2
   exact zoc (zk3 hG hL ho hs (hd s hs) hk h1 h2.2) (Ig h2.1).1 (Ig h2.1).2 (fun _ _ h=>h) rfl
  ·cases hk
 | storeB b0 k x' y' =>
  simp only [jG] at hk
  split at hk
  ·rename_i t x y ho
   simp only [aC,beq_iff_eq] at hk
   obtain ⟨⟨k1,k2⟩,k3⟩:=hk
   simp only [dX] at h
   obtain ⟨p,h1,h⟩:=dC h
   obtain ⟨c,h2,h⟩:=dC h
   cases p with
   | loc b off =>
    obtain ⟨hb,h⟩:=dN h
    simp only [beq_iff_eq] at hb
    subst hb
    obtain ⟨cs,h3,h⟩:=dC h
    obtain ⟨h4,h⟩:=dN h
    cases h
    exact Lu hG hL ho hd k1 k2 k3 h1 h2 h3 h4
   | ptr id off=>cases h
   | eptr d=>cases h
  ·cases hk
 | galloc t' z =>
  simp only [jG] at hk
  split at hk
  ·rename_i t ho
   simp only [aC,beq_iff_eq] at hk
   obtain ⟨hk,rfl⟩:=hk
   obtain ⟨zs,h1,h2⟩:=vB hk
   simp only [dX,eI,jK,dG,dK,aA,Prod.mk.injEq] at h
   obtain ⟨rfl,rfl⟩:=h
   exact zm9 hG hL ho hd h1 h2
  ·cases hk
 | gbox t' y =>
  simp only [jG] at hk
  split at hk
  ·rename_i t x ho
   simp only [aC,beq_iff_eq] at hk
   obtain ⟨hk,rfl⟩:=hk
   simp only [dX,eI,jK] at h
   obtain ⟨r,hr,h⟩:=dC h
   cases h
   obtain ⟨c,h1,hr⟩:=dC hr
   obtain ⟨h2,hr⟩:=dN hr
   cases hr
   exact zvz hG hL ho hd hk h1 h2
  ·cases hk
 | buildSlice sz qs =>
  simp only [jG,aC] at hk
  obtain ⟨s,hs⟩:=aT.1 hk.1
  have hk:=hk.2
  split at hk
  ·rename_i t len ps ho
   simp only [aC,beq_iff_eq] at hk
   obtain ⟨zs,k1,k2,k3,k4,k5⟩:=qO hk.2
   simp only [dX] at h
   obtain ⟨ds,h1,h⟩:=dC h
   obtain ⟨h2,h⟩:=dN h
   cases h
   simp only [aC,cE] at h2
   obtain ⟨ke,ksz,kag⟩:=sz
   exact zaz hG hL ho hs (hd s hs) hk.1.1 hk.1.2 k1 k2 k3 k4 k5 h1 h2.1 h2.2
  ·cases hk
 | store k x' y' =>
  simp only [jG] at hk
  split at hk
  ·rename_i t x y ho
   simp only [aC,beq_iff_eq] at hk
   obtain ⟨⟨k1,k2⟩,k3⟩:=hk
   simp only [dX] at h
   obtain ⟨p,h1,h⟩:=dC h
   obtain ⟨c,h2,h⟩:=dC h
   cases p with
   | loc b off =>
    obtain ⟨cs,h3,h⟩:=dC h
    obtain ⟨h4,h⟩:=dN h
    cases h
    exact Lu hG hL ho hd k1 k2 k3 h1 h2 h3 h4
   | ptr id off =>
    obtain ⟨cs,h3,h⟩:=dC h
    obtain ⟨h4,h⟩:=dN h
    cases h
    exact zfh hG hL ho hd k1 k2 k3 h1 h2 h3 h4
   | eptr d=>cases h
  ·cases hk
 | loadA k x' =>
  simp only [jG] at hk
  split at hk
  ·rename_i t x ho
   simp only [aC] at hk
   obtain ⟨k1,k2⟩:=hk
   simp only [dX] at h
   obtain ⟨p,h1,h⟩:=dC h
   split at h
   ·obtain ⟨cs,h3,h⟩:=dC h
    obtain ⟨h4,h⟩:=dN h
    cases h
    exact zsi hG hL ho k1 k2 hd h1 h3 (by simpa using h4)
   ·cases h
  ·cases hk
 | storeA k x' y' =>
  simp only [jG] at hk
  split at hk
  ·rename_i t x y ho
   simp only [aC,beq_iff_eq] at hk
   obtain ⟨⟨k1,k2⟩,k3⟩:=hk
   simp only [dX] at h
   obtain ⟨p,h1,h⟩:=dC h
   obtain ⟨c,h2,h⟩:=dC h
   split at h
   ·obtain ⟨cs,h3,h⟩:=dC h
    obtain ⟨ds,h5,h⟩:=dC h
    obtain ⟨h4,h⟩:=dN h
    cases h
    simp only [aC,beq_iff_eq] at h4
    have hds:c.d=.agg ds:=by
     cases hcd:c.d <;> rw [hcd] at h5 <;> simp only [D.agg?,reduceCtorEq,aA] at h5
     rw [h5]
    exact znc hG hL ho hd k1 k2 k3 h1 h2 h3 hds h4.1 h4.2
   ·cases h
  ·cases hk
 | append sz by_ x' y' =>
  simp only [jG,aC] at hk
  obtain ⟨s,hs⟩:=aT.1 hk.1
  have hk:=hk.2
  split at hk
  ·rename_i x y t t' ho
   simp only [aC,beq_iff_eq] at hk
   obtain ⟨⟨⟨⟨rfl,k1⟩,k2⟩,k3⟩,k4⟩:=hk
   obtain ⟨zs,q1,q2,q3,q4,q5⟩:=qO k3
   have q6:nB P sz.el=some by_:=by
    unfold oV at k4
    rw [q1] at k4
    simpa using k4
   simp only [dX] at h
   obtain ⟨c,h1,h⟩:=dC h
   obtain ⟨d,h2,h⟩:=dC h
   obtain ⟨ys,h2b,h⟩:=dC h
   obtain ⟨r,h3,h⟩:=dC h
   cases h
   obtain ⟨ke,ksz,kag⟩:=sz
   exact zm3 hG hL ho hs (hd s hs) k1 k2 q1 q2 q3 q4 q5 q6 h1 h2 (zey h2b) h3
  ·cases hk
 | strToBytes k y =>
  simp only [jG] at hk
  split at hk
  ·rename_i u t x ho
   simp only [aC,beq_iff_eq] at hk
   obtain ⟨⟨⟨⟨k1,k2⟩,k3⟩,k4⟩,k5⟩:=hk
   simp only [dX] at h
   obtain ⟨c,h1,h⟩:=dC h
   obtain ⟨str,h2,h⟩:=dC h
   obtain ⟨h3,h⟩:=dN h
   cases h
   exact za1 hG hL ho hd k1 (vF k2) (kY k3) (zcpb k4) k5 h1 h2 (of_decide_eq_true h3)
  ·cases hk
 | rangeS y =>
  simp only [jG] at hk
  split at hk
  ·rename_i t x ho
   simp only [aC] at hk
   simp only [dX] at h
   obtain ⟨c,h1,h⟩:=dC h
   obtain ⟨str,h2,h⟩:=dC h
   cases h
   exact zna hG hL ho hd hk.1 hk.2 h1 h2
  ·cases hk
 | nextS y =>
  simp only [jG] at hk
  split at hk
  ·rename_i x ho
   simp only [dX] at h
   obtain ⟨p,h1,h⟩:=dC h
   cases p with
   | ptr id off =>
    cases off with
    | zero =>
     obtain ⟨it,h2,h⟩:=dC h
     cases it with
     | map es cl=>cases h
     | loop r=>cases h
     | dfr=>cases h
     | it str pos =>
     simp only at h
     obtain ⟨k1,k2⟩:=zsk hG hL ho hd hk h1 h2
     by_cases hlt:pos < str.length
     ·simp only [hlt,decide_true,dJ,aA,Prod.mk.injEq] at h
      obtain ⟨rfl,rfl⟩:=h
      exact k1 hlt
     ·simp only [hlt,decide_false,dH,aA,Prod.mk.injEq] at h
      obtain ⟨rfl,rfl⟩:=h
      exact k2 hlt
    | succ n=>cases h
   | loc b off=>cases h
   | eptr d=>cases h
  ·cases hk
 | appendS sz by_ x' y' =>
  simp only [jG,aC] at hk
  obtain ⟨s,hs⟩:=aT.1 hk.1
  have hk:=hk.2
  split at hk
  ·rename_i x y t t' ho
   simp only [aC,beq_iff_eq] at hk
   obtain ⟨⟨⟨⟨⟨k0,k1⟩,k2⟩,k3⟩,k3b⟩,k4⟩:=hk
   obtain ⟨zs,q1,q2,q3,q4,q5⟩:=qO k3
   have q6:nB P sz.el=some by_:=by
    unfold oV at k4
    rw [q1] at k4
    simpa using k4
   simp only [dX] at h
   obtain ⟨c,h1,h⟩:=dC h
   obtain ⟨d,h2,h⟩:=dC h
   obtain ⟨str,h3,h⟩:=dC h
   obtain ⟨r,h4,h⟩:=dC h
   cases h
   have hds:d.d=.str str:=by
    cases hdd:d.d <;> rw [hdd] at h3 <;> simp only [D.str?,reduceCtorEq,aA] at h3
    rw [h3]
   obtain ⟨ke,ks,kag⟩:=sz
   simp only at k3b
   subst k3b
   exact zk1 hG hL ho hs (hd s hs) k1 k2 q1 q2 q3 q4 q6 (vF k0) h1 h2 hds h4
  ·cases hk
 | slice3 sz x' lo' hi' mx' =>
  simp only [jG] at hk
  split at hk
  ·rename_i t x lo hi mx ho
   simp only [aC] at hk
   obtain ⟨⟨⟨⟨k1,k2⟩,k3⟩,k4⟩,k5⟩:=hk
   obtain ⟨el,q1,q2⟩:=Ej k5
   simp only [dX] at h
   obtain ⟨c,h1,h⟩:=dC h
   obtain ⟨l,h2,h⟩:=dC h
   obtain ⟨ch,h3,h⟩:=dC h
   obtain ⟨hh,h4,h⟩:=dC h
   obtain ⟨cm,h5,h⟩:=dC h
   obtain ⟨m,h6,h⟩:=dC h
   obtain ⟨d,h7,h⟩:=dC h
   cases h
   obtain ⟨u,r1,r2,r3⟩:=zr5 (w:=w) hL ho k1 k2 k3 k4 (kY q1) q2 h1 h2 h3 h4 h5 h6 h7
   exact znb hG hL hd r1 r2 r3
  ·cases hk
 | storeP k x' y' =>
  simp only [jG] at hk
  split at hk
  ·rename_i t x y ho
   simp only [aC,beq_iff_eq] at hk
   obtain ⟨⟨k1,k2⟩,k3⟩:=hk
   simp only [dX,eI,jK] at h
   obtain ⟨r,hr,h⟩:=dC h
   cases h
   obtain ⟨p,h1,hr⟩:=dC hr
   obtain ⟨c,h2,hr⟩:=dC hr
   cases p with
   | loc b off=>cases hr
   | ptr id off =>
    obtain ⟨cs,h3,hr⟩:=dC hr
    obtain ⟨h4,hr⟩:=dN hr
    cases hr
    exact znd hG hL ho hd k1 k2 k3 h1 h2 h3 h4
   | eptr d=>cases hr
  ·cases hk
 | makeA k by_ z x' y' =>
  simp only [jG] at hk
  split at hk
  ·rename_i t x y ho
   simp only [aC] at hk
   obtain ⟨⟨⟨⟨k1,k2⟩,k3⟩,k4⟩,k5⟩:=hk
   obtain ⟨zs,q1,q2,q3,q4,q5⟩:=qO k3
   obtain ⟨zs',q3',k4⟩:=vB k4
   rw [q3] at q3'
   cases q3'
   have q6:nB P k.el=some by_:=by
    unfold oV at k5
    rw [q1] at k5
    simpa using k5
   simp only [dX,eI,jK] at h
   obtain ⟨r,hr,h⟩:=dC h
   cases h
   obtain ⟨c,h1,hr⟩:=dC hr
   obtain ⟨l,h2,hr⟩:=dC hr
   obtain ⟨d,h3,hr⟩:=dC hr
   obtain ⟨l',h4,hr⟩:=dC hr
   obtain ⟨h5,hr⟩:=dN hr
   cases hr
   simp only [aC,beq_iff_eq,cE] at h5
   obtain ⟨⟨rfl,h5⟩,h6⟩:=h5
   exact zsj hG hL ho hd k1 k2 q1 q2 q3 q4 q5 k4 q6 h1 h3 h2 h4 h5 h6
  ·cases hk
 | buildA k qs =>
  simp only [jG] at hk
  split at hk
  ·rename_i t len ps ho
   simp only [aC,beq_iff_eq] at hk
   obtain ⟨zs,k1,k2,k3,k4,k5⟩:=qO hk.2
   simp only [dX,eI,jK] at h
   obtain ⟨r,hr,h⟩:=dC h
   cases h
   obtain ⟨ds,h1,hr⟩:=dC hr
   obtain ⟨h2,hr⟩:=dN hr
   cases hr
   simp only [aC,cE] at h2
   exact zm4 hG hL ho hd hk.1.1 hk.1.2 k1 k2 k3 k4 k5 h1 h2.1 h2.2
  ·cases hk
 | appendA k by_ x' y' =>
  simp only [jG] at hk
  split at hk
  ·rename_i x y t t' ho
   simp only [aC,beq_iff_eq] at hk
   obtain ⟨⟨⟨⟨rfl,k1⟩,k2⟩,k3⟩,k4⟩:=hk
   obtain ⟨zs,q1,q2,q3,q4,q5⟩:=qO k3
   have q6:nB P k.el=some by_:=by
    unfold oV at k4
    rw [q1] at k4
    simpa using k4
   simp only [dX,eI,jK] at h
   obtain ⟨r,hr,h⟩:=dC h
   cases h
   obtain ⟨c,h1,hr⟩:=dC hr
   obtain ⟨d,h2,hr⟩:=dC hr
   obtain ⟨ys,h3,hr⟩:=dC hr
   exact Rf hG hL ho hd k1 k2 q1 q2 q3 q4 q5 q6 h1 h2 h3 hr
  ·cases hk
 | appendW ws k by_ x' y' =>
  simp only [jG] at hk
  split at hk
  ·rename_i x y t t' ho
   simp only [aC,beq_iff_eq] at hk
   obtain ⟨⟨⟨⟨rfl,k1⟩,k2⟩,k3⟩,k4⟩:=hk
   obtain ⟨zs,q1,q2,q3,q4,q5⟩:=qO k3
   have q6:nB P k.el=some by_:=by
    unfold oV at k4
    rw [q1] at k4
    simpa using k4
   simp only [dX,eI,jK] at h
   obtain ⟨r,hr,h⟩:=dC h
   cases h
   obtain ⟨c,h1,hr⟩:=dC hr
   obtain ⟨d,h2,hr⟩:=dC hr
   obtain ⟨ys,h3,hr⟩:=dC hr
   exact Rf hG hL ho hd k1 k2 q1 q2 q3 q4 q5 q6 h1 h2 h3 hr
  ·cases hk
 | copyA sz x' y' =>
  simp only [jG] at hk
  split at hk
  ·rename_i x y t t' ho
   simp only [aC] at hk
   obtain ⟨⟨⟨k1,k2⟩,k3⟩,k4⟩:=hk
   obtain ⟨el,q1,q2⟩:=Ej k4
   obtain ⟨el',q3⟩:=aT.1 k3
   simp only [dX,eI,jK] at h
   obtain ⟨r,hr,h⟩:=dC h
   cases h
   obtain ⟨c,h1,hr⟩:=dC hr
   obtain ⟨d,h2,hr⟩:=dC hr
   obtain ⟨ys,h3,hr⟩:=dC hr
   obtain ⟨p,h4,hr⟩:=dC hr
   cases hr
   exact zsf hG hL ho hd k1 k2 q1 q3 q2 h1 h2 h3 h4
  ·cases hk
 | clearA sz z x' =>
  simp only [jG] at hk
  split at hk
  ·rename_i x t ho
   simp only [aC] at hk
   obtain ⟨k1,k2⟩:=hk
   split at k2
   ·rename_i el hel
    simp only [aC,beq_iff_eq] at k2
    obtain ⟨k2,k3⟩:=k2
    obtain ⟨zs,q1,q2⟩:=vB k3
    simp only [dX,eI,jK] at h
    obtain ⟨r,hr,h⟩:=dC h
    cases h
    obtain ⟨c,h1,hr⟩:=dC hr
    obtain ⟨σ1,h2,hr⟩:=dC hr
    cases hr
    exact zm5 hG hL ho hd k1 hel k2 q1 q2 h1 h2
   ·cases k2
  ·cases hk
 | growZ k by_ z x' y' =>
  simp only [jG] at hk
  split at hk
  ·rename_i x y t t' ho
   simp only [aC,beq_iff_eq] at hk
   obtain ⟨⟨⟨⟨⟨k1,k2⟩,k3⟩,k4⟩,k5⟩,k6⟩:=hk
   simp only [dX] at h
   obtain ⟨c,h1,h⟩:=dC h
   split at h
   ·rename_i hcn
    obtain ⟨m,h2,h⟩:=dC h
    split at h
    ·rename_i mi hm
     obtain ⟨h3,h4⟩:=dN h
     cases h4
     simp only [aC,cE] at h3
     obtain ⟨zs,q1,q2,q3,q4,q5⟩:=qO k3
     obtain ⟨zs',q3',k4⟩:=vB k4
     rw [q3] at q3'
     cases q3'
     have q6:nB P k.el=some by_:=by
      unfold oV at k5
      rw [q1] at k5
      simpa using k5
     exact zsh hG hL ho hd k1 k2 q1 k6 q2 q3 q4 q5 q6 k4 h1 hcn h2 hm h3.1.1 h3.1.2 h3.2
    ·cases h
   ·cases h
  ·cases hk
 | capZ x' =>
  simp only [jG] at hk
  split at hk
  ·rename_i x t ho
   simp only [aC] at hk
   simp only [dX] at h
   obtain ⟨c,h1,h⟩:=dC h
   split at h
   ·rename_i hcn
    simp only [aA,Prod.mk.injEq] at h
    obtain ⟨rfl,rfl⟩:=h
    exact zvy hG hL ho hd hk.1 hk.2 h1 hcn
   ·cases h
  ·cases hk
 | cloneM x' =>
  simp only [jG] at hk
  split at hk
  ·rename_i g x ts ho
   simp only [aC] at hk
   simp only [dX] at h
   obtain ⟨c,h1,h⟩:=dC h
   obtain ⟨ob,dd⟩:=c
   cases dd <;> simp only [reduceCtorEq] at h
   rename_i tt d2
   cases d2 <;> simp only [reduceCtorEq] at h
   obtain ⟨x2,h2,h⟩:=dC h
   cases x2 <;> simp only [reduceCtorEq,aA,Prod.mk.injEq] at h
   obtain ⟨rfl,rfl⟩:=h
   exact zm6 hG hL ho hk.1 hd hk.2 h1 h2
  ·cases hk
 | assertP t' x' =>
  simp only [jG] at hk
  split at hk
  ·rename_i x u t ho
   simp only [aC,beq_iff_eq] at hk
   obtain ⟨⟨rfl,k1⟩,k2⟩:=hk
   simp only [dX] at h
   obtain ⟨c,h1,h⟩:=dC h
   split at h
   ·rename_i t'' d hcd
    obtain ⟨h3,h4⟩:=dN h
    cases h4
    have h3:=beq_iff_eq.1 h3
    rw [h3] at hcd
    exact zk2 hG hL ho hd k1 k2 h1 hcd
   ·cases h
  ·cases hk
 | makeMap =>
  simp only [dX,eI,jK,dG,dK,aA,Prod.mk.injEq] at h
  obtain ⟨rfl,rfl⟩:=h
  simp only [jG] at hk
  split at hk
  ·rename_i t ho
   exact zk4 hG hL ho hd
  ·rename_i t k n ho
   obtain ⟨⟨kt,el⟩,hm⟩:=aT.1 hk
   exact zfg hG hL ho (uJ hm) hd
  ·cases hk
 | update ks x' i' y' =>
  have main:∀ {t:TypeId} {x i y:Operand},(o.op=.mapUpdate t x i y∨o.op=.insert t x i y)→(dL x x' && dL i i' && dL y y' && (match tD P t with | some (kt,_)=>sR P ks kt | none=>false))=true→Did P N ι j own w o a e' σ':=by
   intro t x i y ho hk
   simp only [aC] at hk
   obtain ⟨⟨⟨k1,k2⟩,k3⟩,k4⟩:=hk
   split at k4
   ·rename_i kt el hm
    simp only [dX,eI,jK] at h
    obtain ⟨r,hr,h⟩:=dC h
    cases h
    obtain ⟨c,h1,hr⟩:=dC hr
    obtain ⟨k,h2,hr⟩:=dC hr
    obtain ⟨v,h3,hr⟩:=dC hr
    obtain ⟨⟨id,es,cl⟩,h4,hr⟩:=dC hr
    obtain ⟨h5,hr⟩:=dN hr
    obtain ⟨f,h6,hr⟩:=dC hr
    cases hr
    simp only [aC] at h5
    exact zne hG hL ho hd k1 k2 k3 hm k4 h1 h2 h3 h4 h5.1 h6
   ·cases k4
  simp only [jG] at hk
  split at hk
  ·rename_i t x i y ho
   exact main (.inl ho) hk
  ·rename_i t x i y ho
   exact main (.inr ho) hk
  ·cases hk
 | delete ks x' i' =>
  simp only [jG] at hk
  split at hk
  ·rename_i x i t tk ho
   simp only [aC] at hk
   obtain ⟨⟨k1,k2⟩,k4⟩:=hk
   split at k4
   ·rename_i kt el hm
    simp only [dX,eI,jK] at h
    obtain ⟨r,hr,h⟩:=dC h
    cases h
    obtain ⟨c,h1,hr⟩:=dC hr
    obtain ⟨k,h2,hr⟩:=dC hr
    obtain ⟨⟨id,es,cl⟩,h4,hr⟩:=dC hr
    obtain ⟨h5,hr⟩:=dN hr
    obtain ⟨f,h6,hr⟩:=dC hr
    cases hr
    exact zm8 hG hL ho hd k1 k2 hm k4 h1 h2 h4 h5 h6
   ·cases k4
  ·cases hk
 | entry ks z x' i' =>
  simp only [jG] at hk
  split at hk
  ·rename_i t x i ho
   simp only [aC] at hk
   obtain ⟨⟨k1,k2⟩,k4⟩:=hk
   split at k4
   ·rename_i kt el hm
    simp only [aC] at k4
    obtain ⟨k4,k5⟩:=k4
    split at k5
    ·rename_i zv hz
     simp only [dX,eI,jK] at h
     obtain ⟨r,hr,h⟩:=dC h
     cases h
     obtain ⟨c,h1,hr⟩:=dC hr
     obtain ⟨k,h2,hr⟩:=dC hr
     obtain ⟨⟨id,es,cl⟩,h4,hr⟩:=dC hr
     obtain ⟨h5,hr⟩:=dN hr
     obtain ⟨f,h6,hr⟩:=dC hr
     cases hr
     exact zsg hG hL ho hd k1 k2 hm k4 hz k5 h1 h2 h4 h5 h6
    ·cases k5
   ·cases k4
  ·cases hk
 | entryStore x' s' y' =>
  simp only [jG] at hk
  split at hk
  ·rename_i t x s y ho
   simp only [aC] at hk
   obtain ⟨⟨k1,k2⟩,k3⟩:=hk
   simp only [dX,eI,jK] at h
   obtain ⟨r,hr,h⟩:=dC h
   cases h
   obtain ⟨c,h1,hr⟩:=dC hr
   obtain ⟨b,h2,hr⟩:=dC hr
   obtain ⟨bn,h3,hr⟩:=dC hr
   obtain ⟨v,h4,hr⟩:=dC hr
   obtain ⟨⟨id,es,cl⟩,h5,hr⟩:=dC hr
   obtain ⟨h6,hr⟩:=dN hr
   cases hr
   simp only [aC] at h6
   exact za0 hG hL ho hd k1 k2 k3 h1 h2 h3 h4 h5 h6.2
  ·cases hk
 | deferv f' as' =>
  simp only [jG] at hk
  split at hk
  ·rename_i f as ts ho
   simp only [aC] at hk
   simp only [dX] at h
   obtain ⟨c,h1,h⟩:=dC h
   obtain ⟨⟨g,x,y⟩,h2,h⟩:=dC h
   obtain ⟨ds,h3,h⟩:=dC h
   cases h
   exact zm7 hG hL ho hd hk.1 hk.2 h1 h2 h3
  ·cases hk
 | call g as'=>simp only [dX,dO,dG,fR,reduceCtorEq] at h
 | callv g as'=>simp only [dX,dO,dG,fR,reduceCtorEq] at h
 | callW ws g as'=>simp only [dX,dO,dG,fR,reduceCtorEq] at h
 | callvW ws g as'=>simp only [dX,dO,dG,fR,reduceCtorEq] at h
 | panic y=>simp only [dX,dO,dG,fR,reduceCtorEq] at h
 | _ =>
  simp only [jG] at hk
  simp only [dX] at h
  obtain ⟨v,h1,h⟩:=dC h
  cases h
  exact value hk v h1 rfl rfl
theorem zlc (hL:LSim ι j own lb N e a w) {ops:Array Oper} {o:Oper} {g:Option (Nat × Bool)} (hk:Gs ops o.guard g=true) (hN:∀ i s b,o.guard=some (i,b)→((ops[i]?).bind (·.dst))=some s→s < N) {b:Bool} (h:qL g e=some b) :
  Region.wanted o (yielded ops a.tmps)=b:=by
 unfold Region.wanted
 cases hg:o.guard with
 | none =>
  rw [hg] at hk
  cases g with
  | none=>simp only [qL,aA] at h; subst h; rfl
  | some p=>simp [Gs] at hk
 | some p =>
  obtain ⟨i,want⟩:=p
  rw [hg] at hk
  cases g with
  | none=>simp [Gs] at hk
  | some q =>
   obtain ⟨s,want'⟩:=q
   simp only [Gs,aC,beq_iff_eq] at hk
   obtain ⟨h1,rfl⟩:=hk
   have hdst:((ops[i]?).bind (·.dst))=some s:=by
    cases ho:ops[i]? with
    | none=>rw [ho] at h1; cases h1
    | some o=>rw [ho] at h1; simpa using h1
   have hlt:=hN i s want hg hdst
   simp only [qL] at h
   obtain ⟨c,h2,h⟩:=dC h
   have hr:=(hL.slots s c h2).1
   have hget:a.tmps[s]?=some (a.tmps.getD s Go.undef):=by
    rw [Array.getD_eq_getD_getElem?,Array.getElem?_eq_getElem (by rw [hL.size]; exact hlt)]
    rfl
   simp only [yielded,hdst,Option.bind_some,hget]
   cases hb:c.d.bool? with
   | some t =>
    rw [hb] at h
    simp only [dK,aA] at h
    cases hd:c.d <;> rw [hd] at hb <;> simp only [D.bool?,reduceCtorEq,aA] at hb
    subst hb
    rw [hd] at hr
    simp only [Rep] at hr
    rw [hr]
    subst h
    simp
   | none =>
    rw [hb] at h
    simp only [fR] at h
    cases hd:c.d <;> rw [hd] at h <;> simp only [Rz,dJ,dH,reduceCtorEq,aA] at h
    subst h
    rw [hd] at hr
    simp only [Rep] at hr
    rw [hr]
    rfl
end
end Go.Mx
