/-
 One operation of a region: its fit,and that the machine's step is the program's.
-/
import Derived.Test.YtieacpoabejcoaaGreatDoorMyMap
import Derived.Test.YtieacpoabejcoaaGreatDoorMySwap
set_option linter.unusedSimpArgs false
set_option linter.unusedVariables false
set_option linter.unusedSectionVars false
namespace Go.Mx
open Go
def zh1 (P:Program) (t:TypeId) (z:List D):Bool:=match zeroB P t with
 | some zs=>zcb z zs
 | none=>false
def zf0 (P:Program) (t:TypeId) (k:RowK):Bool:=match elemB P t with
 | some el=>(match sizeB P el,zeroB P el with
  | some n,some zs=>el == k.el && n == k.sz && zs.length == k.sz && decide (0 < k.sz)
  | _,_=>false)
 | none=>false
def zdy (P:Program) (t:TypeId) (by_:Nat):Bool:=match elemB P t with
 | some el=>zc7 P el == some by_
 | none=>false
def okOp (P:Program) (o:Oper):AOp→Bool
 | .alloc z=>o.dst.isSome && (match o.op with | .alloc t=>zh1 P t z | _=>false)
 | .box y=>o.dst.isSome && (match o.op with | .box _ x=>okOpd x y | _=>false)
 | .allocN s z=>o.dst == some s && (match o.op with | .alloc t=>zh1 P t z | _=>false)
 | .boxN s y=>o.dst == some s && (match o.op with | .box _ x=>okOpd x y | _=>false)
 | .storeB _ k x' y'=>match o.op with | .store t x y=>okOpd x x' && okOpd y y' && sizeB P t == some k | _=>false
 | .callW _ g as'=>match o.op with | .call {callee:=.value f,args:=as,..}=>okOpd f (.const (.fn (.func g) [] [])) && (!isY g && zdn as.toList as') | _=>false
 | .callvW _ f' as'=>match o.op with | .call {callee:=.value f,args:=as,..}=>okOpd f f' && zdn as.toList as' | _=>false
 | .galloc t' z=>match o.op with | .alloc t=>zh1 P t z && t == t' | _=>false
 | .gbox t' y=>match o.op with | .box t x=>okOpd x y && t == t' | _=>false
 | .strToBytes k y=>match o.op with | .convert s t x=>okOpd x y && strB P s && elemB P t == some k.el && intB P k.el == some .u8 && k.sz == 1 | _=>false
 | .rangeS y=>match o.op with | .range t x=>okOpd x y && strB P t | _=>false
 | .nextS y=>match o.op with | .next x true=>okOpd x y | _=>false
 | .rangeM y=>match o.op with | .range t x=>okOpd x y && mapB P t | _=>false
 | .entryM y=>match o.op with | .entry x=>okOpd x y | _=>false
 | .buildSlice k qs=>o.dst.isSome && (match o.op with | .buildSlice t len ps=>okRow 0 ps.toList qs && len == qs.length && zf0 P t k | _=>false)
 | .store k x' y'=>match o.op with | .store t x y=>okOpd x x' && okOpd y y' && sizeB P t == some k | _=>false
 | .loadA k x'=>match o.op with | .load t x=>okOpd x x' && okK P t (some k) | _=>false
 | .storeA k x' y'=>match o.op with | .store t x y=>okOpd x x' && okOpd y y' && sizeB P t == some k | _=>false
 | .append sz by_ x' y'=>o.dst.isSome && (match o.op with
  | .call {callee:=.builtin .append,args:=⟨[x,y]⟩,argTypes:=⟨[t,t']⟩}=>t == t' && okOpd x x' && okOpd y y' && zf0 P t sz && zdy P t by_
  | _=>false)
 | .appendS k by_ x' y'=>o.dst.isSome && (match o.op with
  | .call {callee:=.builtin .append,args:=⟨[x,y]⟩,argTypes:=⟨[t,t']⟩}=>strB P t' && okOpd x x' && okOpd y y' && zf0 P t k && k.sz == 1 && zdy P t by_
  | _=>false)
 | .loadO k x'=>match o.op with | .load t x=>okOpd x x' && okK P t k | _=>false
 | .sliceT sz x' lo'=>match o.op with | .slice t x lo none none=>okOpd x x' && okOpt lo lo' && o.dst.isSome && (match elemB P t with | some e=>sizeB P e == some sz | none=>false) | _=>false
 | .slice3 sz x' lo' hi' mx'=>match o.op with | .slice t x lo (some hi) (some mx)=>okOpd x x' && okOpt lo lo' && okOpd hi hi' && okOpd mx mx' && (match elemB P t with | some e=>sizeB P e == some sz | none=>false) | _=>false
 | .storeD _ _ k x' y'=>match o.op with | .store t x y=>okOpd x x' && okOpd y y' && sizeB P t == some k | _=>false
 | .storeP k x' y'=>match o.op with | .store t x y=>okOpd x x' && okOpd y y' && sizeB P t == some k | _=>false
 | .makeA k by_ z x' y'=>match o.op with | .makeSlice t x y=>okOpd x x' && okOpd y y' && zf0 P t k && zh1 P k.el z && zdy P t by_ | _=>false
 | .buildA k qs=>match o.op with | .buildSlice t len ps=>okRow 0 ps.toList qs && len == qs.length && zf0 P t k | _=>false
 | .appendA k by_ x' y'=>match o.op with
  | .call {callee:=.builtin .append,args:=⟨[x,y]⟩,argTypes:=⟨[t,t']⟩}=>t == t' && okOpd x x' && okOpd y y' && zf0 P t k && zdy P t by_
  | _=>false
 | .appendW _ k by_ x' y'=>match o.op with
  | .call {callee:=.builtin .append,args:=⟨[x,y]⟩,argTypes:=⟨[t,t']⟩}=>t == t' && okOpd x x' && okOpd y y' && zf0 P t k && zdy P t by_
  | _=>false
 | .copyA sz x' y'=>match o.op with
  | .call {callee:=.builtin .copy,args:=⟨[x,y]⟩,argTypes:=⟨[t,t']⟩}=>okOpd x x' && okOpd y y' && (elemB P t').isSome && (match elemB P t with | some e=>sizeB P e == some sz | none=>false)
  | _=>false
 | .clearA sz z x'=>match o.op with
  | .call {callee:=.builtin .clear,args:=⟨[x]⟩,argTypes:=⟨[t]⟩}=>okOpd x x' && (match elemB P t with | some e=>sizeB P e == some sz && zh1 P e z | none=>false)
  | _=>false
 | .growZ k by_ z x' y'=>match o.op with
  | .call {callee:=.builtin .append,args:=⟨[x,y]⟩,argTypes:=⟨[t,t']⟩}=>okOpd x x' && okOpd y y' && zf0 P t k && zh1 P k.el z && zdy P t by_ && intB P t' == some .i64
  | _=>false
 | .capZ x'=>match o.op with
  | .call {callee:=.builtin .cap,args:=⟨[x]⟩,argTypes:=⟨[t]⟩}=>okOpd x x' && (elemB P t).isSome
  | _=>false
 | .cloneM x'=>match o.op with | .call {callee:=.value (.func g),args:=⟨[x]⟩,..}=>zvw P g && okOpd x x' | _=>false
 | .assertP t' x'=>match o.op with | .typeAssert x _ t false=>t == t' && okOpd x x' && zd7 P t == some false | _=>false
 | .makeMap=>match o.op with | .makeMap t none=>mapB P t | .makeMap t (some (.const (.int _ _)))=>mapB P t | _=>false
 | .update ks x' i' y'=>match o.op with
  | .mapUpdate t x i y=>okOpd x x' && okOpd i i' && okOpd y y' && (match mapTB P t with | some (kt,_)=>keyB P ks kt | none=>false)
  | .insert t x i y=>okOpd x x' && okOpd i i' && okOpd y y' && (match mapTB P t with | some (kt,_)=>keyB P ks kt | none=>false)
  | _=>false
 | .delete ks x' i'=>match o.op with
  | .call {callee:=.builtin .delete,args:=⟨[x,i]⟩,argTypes:=⟨[t,_]⟩}=>okOpd x x' && okOpd i i' && (match mapTB P t with | some (kt,_)=>keyB P ks kt | none=>false)
  | _=>false
 | .entry ks z x' i'=>match o.op with
  | .mapEntry t x i=>okOpd x x' && okOpd i i' && (match mapTB P t with | some (kt,el)=>keyB P ks kt && (match (P.info? el).bind (·.zero) with | some zv=>za8 z zv | none=>false) | none=>false)
  | _=>false
 | .entryStore x' s' y'=>match o.op with
  | .entryStore _ x s y=>okOpd x x' && okOpd s s' && okOpd y y'
  | _=>false
 | .deferv f' as'=>match o.op with | .defer {callee:=.value f,args:=as,..}=>okOpd f f' && zdn as.toList as' | _=>false
 | .call g as'=>match o.op with | .call {callee:=.value f,args:=as,..}=>okOpd f (.const (.fn (.func g) [] [])) && (!isY g && zdn as.toList as') | _=>false
 | .pcall g as'=>match o.op with | .call {callee:=.value f,args:=as,..}=>okOpd f (.const (.fn (.func g) [] [])) && (!isY g && zdn as.toList as') | _=>false
 | .callv f' as'=>match o.op with | .call {callee:=.value f,args:=as,..}=>okOpd f f' && zdn as.toList as' | _=>false
 | .panic y=>match o.op with | .panic x=>okOpd x y | _=>false
 | o'=>okV P o.op o'
def okDst (N:Nat):Option Nat→Option Nat→Bool
 | none,none=>true
 | some s,some s'=>s == s' && decide (s < N)
 | _,_=>false
theorem zkyb {N:Nat} {d d':Option Nat} (h:okDst N d d'=true):d=d'∧∀ s,d=some s→s < N:=by
 cases d <;> cases d' <;> simp only [okDst,Bool.false_eq_true,Bool.and_eq_true,beq_iff_eq,decide_eq_true_eq] at h
 ·exact ⟨rfl,fun s h=>by cases h⟩
 ·exact ⟨by rw [h.1],fun s hs=>by cases hs; exact h.2⟩
def zk2 (ops:Array Oper):Option (Nat × Bool)→Option (Nat × Bool)→Bool
 | none,none=>true
 | some (i,b),some (s,b')=>(match ops[i]? with | some o=>o.dst == some s | none=>false) && b == b'
 | _,_=>false
def znz (P:Program) (N:Nat) (ops:Array Oper) (o:Oper) (o':AOper):Bool:=okDst N o.dst o'.dst && zk2 ops o.guard o'.guard && okOp P o o'.op
section
variable [LoopKit] {P:Program} {ι:Imm} {j:Lay} {own:Own} {lb:Lay} {N:Nat} {e:Env} {a:Go.Act} {w:World} {σ:Store}
theorem zuu {os:List (Nat × List Cell)} {d:D} {ys:List D} (h:asList d=some ys):listOf os d=some ys:=by
 cases d <;> simp only [asList,reduceCtorEq] at h <;> exact h
theorem zes {t:TypeId} {k:RowK} (h:zf0 P t k=true):∃ zs,elemB P t=some k.el∧sizeB P k.el=some k.sz∧zeroB P k.el=some zs∧zs.length=k.sz∧0 < k.sz:=by
 unfold zf0 at h
 split at h
 ·rename_i el hel
  split at h
  ·rename_i n zs hn hz
   simp only [Bool.and_eq_true,beq_iff_eq,decide_eq_true_eq] at h
   obtain ⟨⟨⟨rfl,h1⟩,h2⟩,h3⟩:=h
   exact ⟨zs,hel,h1 ▸ hn,hz,h2,h3⟩
  ·cases h
 ·cases h
theorem zgk {t:TypeId} {z:List D} (h:zh1 P t z=true):∃ zs,zeroB P t=some zs∧zcb z zs=true:=by
 unfold zh1 at h
 split at h
 ·rename_i zs hz
  exact ⟨zs,hz,h⟩
 ·cases h
theorem fn_of {d:D} {f:FuncId} {x y:List D} (h:d.fn?=some (f,x,y)) {v:Value} (hr:Rep ι j d v):(isY f=false∧∃ vf vc,v=.func (.func f) ⟨vf⟩ ⟨vc⟩∧RepL ι j x vf∧RepL ι j y vc)∨∃ id b,d=.yld id∧f=yldBase + id∧x=[]∧y=[]∧j id=some b∧v=.func (.yield b) ⟨[]⟩ ⟨[]⟩:=by
 cases d with
 | fn g a b =>
  cases g with
  | func g =>
   simp only [D.fn?] at h
   obtain ⟨h0,h⟩:=zae' h
   simp only [Option.some.injEq,Prod.mk.injEq] at h
   obtain ⟨rfl,rfl,rfl⟩:=h
   exact .inl ⟨h0,by simpa only [Rep] using hr⟩
  | _=>simp [D.fn?] at h
 | yld id =>
  simp only [D.fn?,Option.some.injEq,Prod.mk.injEq] at h
  obtain ⟨rfl,rfl,rfl⟩:=h
  simp only [Rep] at hr
  obtain ⟨b,h1,h2⟩:=hr
  exact .inr ⟨id,b,rfl,rfl,rfl,rfl,h1,h2⟩
 | _=>simp [D.fn?] at h
theorem zf1b {d:D} {f:FuncId} {x y:List D} (h:d.fnF?=some (f,x,y)) {v:Value} (hr:Rep ι j d v):isY f=false∧∃ vf vc,v=.func (.func f) ⟨vf⟩ ⟨vc⟩∧RepL ι j x vf∧RepL ι j y vc:=by
 cases d with
 | fn g a b =>
  cases g with
  | func g =>
   simp only [D.fnF?] at h
   obtain ⟨h0,h⟩:=zae' h
   simp only [Option.some.injEq,Prod.mk.injEq] at h
   obtain ⟨rfl,rfl,rfl⟩:=h
   exact ⟨h0,by simpa only [Rep] using hr⟩
  | _=>simp [D.fnF?] at h
 | _=>simp [D.fnF?] at h
theorem zakb (hG:GSim ι j own σ w) (hL:LSim ι j own lb N e a w) {o:Oper} {f:Operand} {f':AOpd} {as:Array Operand} {ts:Array TypeId} {as':List AOpd} {c:Cell} {g:FuncId} {x y ds:List D} (ho:o.op=.defer {callee:=.value f,args:=as,argTypes:=ts})
  (hd:∀ s,o.dst=some s→s < N) (hk:okOpd f f'=true) (hk1:zdn as.toList as'=true) (h1:opd e f'=some c) (h2:c.d.fnF?=some (g,x,y)) (h3:opds e as'=some ds) :
  Did P N ι j own w o a (Env.put {e with defers:=(g,x ++ ds ++ y) :: e.defers} o.dst ⟨false,.undef⟩) σ:=by
 obtain ⟨hY,vf,vc,hv,r1,r2⟩:=zf1b h2 (zah hL hk h1)
 have hr:=zdw hL hk1 h3
 refine ⟨.defer {target:=.fn (.func g) ⟨vc⟩,args:=⟨vf⟩ ++ as.map a.eval},w,_,?_,.inr (.inr ⟨_,rfl,rfl⟩),ι,j,own,lb,hG,?_,Evo.refl _ _ _ _ _⟩
 ·simp only [execOp,ho,resolve,hv,Deferred.ofValue,Sem.run_bind,Sem.run_pure,Result.andThen_ok]
 ·have hL':LSim ι j own lb N {e with defers:=(g,x ++ ds ++ y) :: e.defers} ({a with defers:={target:=.fn (.func g) ⟨vc⟩,args:=⟨vf⟩ ++ as.map a.eval} :: a.defers}:Go.Act) w :=
   {size:=hL.size,slots:=hL.slots,locs:=hL.locs,boxes:=hL.boxes,defers:=by
     simp only [zey]
     refine ⟨_,_,rfl,hL.defers,?_⟩
     rw [if_neg (by rw [hY]; simp)]
     refine ⟨⟨vc⟩,⟨vf⟩ ++ as.map a.eval,rfl,?_⟩
     have:=(r1.append hr).append r2
     simpa using this}
  cases hds:o.dst with
  | none=>exact hL'
  | some s=>exact hL'.putC (hd s hds) ⟨by simp only [Rep],fun h=>by cases h⟩
theorem zmtb {t:TypeId} (h:intB P t=some .u8):P.underlying t=some (.int .u8):=by
 unfold intB at h
 split at h
 ·rename_i k hk
  simp only [Option.some.injEq] at h
  rw [hk,h]
 ·cases h
theorem zr8 (hG:GSim ι j own σ w) (hL:LSim ι j own lb N e a w) {o:Oper} {t u:TypeId} {k:RowK} {x:Operand} {y:AOpd} {c:Cell} {s:List UInt8} (ho:o.op=.convert u t x) (hd:∀ s,o.dst=some s→s < N) (hk:okOpd x y=true)
  (hu:P.underlying u=some .string) (ht:P.underlying t=some (.slice k.el)) (he:P.underlying k.el=some (.int .u8)) (hk1:k.sz=1) (hc:opd e y=some c) (hs:c.d.str?=some s) (hb:s.length≤bound) :
  Did P N ι j own w o a (e.put o.dst ⟨false,.list k (zez s)⟩) σ:=by
 have hx:=zlg hs (zah hL hk hc)
 have hrun:=run_bytes_of_string (P:=P) w u t k.el ⟨⟨s⟩⟩ hu ht he
 have hsz:(⟨⟨s⟩⟩:ByteArray).size=s.length:=rfl
 rw [hsz] at hrun
 generalize hcap:grownCap w s.length 0 k.el=cap at hrun
 have hb':s.length≤1099511627776:=hb
 have hge:s.length≤cap:=hcap ▸ grownCap_ge w _ 0 k.el
 have hle:cap≤maxLen:=hcap ▸ grownCap_le_maxLen w _ 0 k.el (by simp only [maxLen]; omega)
 generalize hcur:bytesRow ⟨⟨s⟩⟩ cap=cur at hrun
 generalize hfr:(cur.size,cur.size + 1)=fr at hrun
 have hat:∀ (n:Nat) (y:Value),(s.map fun b=>Value.int .u8 b.toNat)[n]?=some y→cur[n]?=some y:=by
  intro n y hn
  have hlt:=(List.getElem?_eq_some_iff.1 hn).1
  rw [← hcur]
  unfold bytesRow
  rw [Array.getElem?_append_left (by simpa using hlt)]
  simpa using hn
 generalize hw':w.drew.alloc (.cells cur k.el fr)=w' at hrun
 have hnew:w'.heap[w.heap.size]?=some (.cells cur k.el fr):=hw' ▸ heap_alloc_new w.drew _
 have hold:∀ b,b < w.heap.size→w'.heap[b]?=w.heap[b]?:=fun b hb=>hw' ▸ heap_alloc_old w.drew _ hb
 have hsize:w.heap.size≤w'.heap.size:=Nat.le_of_lt (Array.getElem?_eq_some_iff.1 hnew).1
 have hE:Evo ι j own w (zb9 ι w.heap.size 0 s.length (fun o=>(s.map fun b=>Value.int .u8 b.toNat)[o]?)) j own w' (fun _=>False):=by
  refine ⟨by rw [← hw']; rfl,by rw [← hw']; rfl,by rw [← hw']; rfl,hsize,fun b o v h=>?_,fun _ _ h=>h,fun b hb _=>⟨hold b hb,rfl,fun o=>if_neg (by omega)⟩⟩
  have:=ze3 hG h
  unfold zb9
  rw [if_neg (by omega)]
  exact h
 have hG':GSim (zb9 ι w.heap.size 0 s.length (fun o=>(s.map fun b=>Value.int .u8 b.toNat)[o]?)) j own σ w':=by
  refine hG.evo hE (fun b o v h=>?_) (fun b u h hu o=>?_) (fun b u h=>Nat.lt_of_lt_of_le (hG.ownlt b u h) hsize) hG.jlt (fun _ _ _=>⟨fun h=>h,fun _ _ _ _ h=>h⟩) (fun _ _ _ h=>h)
  ·unfold zb9 at h
   by_cases hcnd:b=w.heap.size∧0≤o∧o < s.length
   ·rw [if_pos hcnd] at h
    obtain ⟨rfl,_,ho⟩:=hcnd
    rw [cell_of_row w' _ o cur k.el fr hnew]
    exact hat o v h
   ·rw [if_neg hcnd] at h
    have hb:=ze3 hG h
    rw [World.cell?_of_block (w:=w) (w':=w') (a:=⟨b,o,none⟩) (hold b hb)]
    exact hG.holds b o v h
  ·have:=hG.ownlt b u h
   unfold zb9
   rw [if_neg (by omega)]
   exact hG.noimm b u h hu o
 refine ⟨.value (.slice (some ⟨w.heap.size,0,none⟩) s.length cap),w',_,?_,.inl ⟨_,rfl,rfl⟩,_,j,own,lb,hG',?_,hE.weaken fun _ h=>h.elim⟩
 ·simp only [execOp,ho,hx,Sem.run_bind,hrun,Result.andThen_ok,Sem.run_pure]
 ·have hL':=hL.evo hE (fun _ _ _ _ h=>h) (fun _ _ _=>⟨fun h=>h,fun _ _ _ _ h=>h⟩)
  cases hds:o.dst with
  | none=>exact hL'
  | some d =>
   refine hL'.putC (hd d hds) ⟨?_,fun h=>by cases h⟩
   simp only [Rep]
   refine ⟨_,cap,by rw [zf2],by rw [zf2]; exact hge,hle,.inr ⟨w.heap.size,0,rfl,zas.of_vals (zlq s) (fun x hx=>?_) fun n y hn=>?_⟩⟩
   ·obtain ⟨b,_,rfl⟩:=List.mem_map.1 hx
    rw [hk1]
    rfl
   ·rw [zl0] at hn
    have hlt:=(List.getElem?_eq_some_iff.1 hn).1
    rw [List.length_map] at hlt
    unfold zb9
    rw [if_pos ⟨rfl,by omega,by omega⟩,Nat.zero_add]
    exact hn
theorem zapb (hG:GSim ι j own σ w) (hL:LSim ι j own lb N e a w) {o:Oper} {t:TypeId} {x:Operand} {y:AOpd} {c:Cell} {s:List UInt8} (ho:o.op=.range t x) (hd:∀ s,o.dst=some s→s < N) (hk:okOpd x y=true) (ht:strB P t=true) (hc:opd e y=some c) (hs:c.d.str?=some s) :
  Did P N ι j own w o a (e.put o.dst ⟨false,.ptr σ.next 0⟩) {σ with oth:=(σ.next,.it s 0) :: σ.oth,next:=σ.next + 1}:=by
 have hx:=zlg hs (zah hL hk hc)
 refine zeg hG hL hd (ob:=.stringIter ⟨⟨s⟩⟩ 0) (v:=.pointer (some ⟨w.heap.size,0,none⟩)) (fun ι' j' w' h=>h) ?_ (fun j' h=>by simp only [Rep]; exact ⟨_,h,rfl⟩)
 simp only [execOp,ho,hx,Instr.range,Sem.run_bind,run_underlying (zgn ht),Result.andThen_ok,Sem.run_pure,run_newObj]
 rfl
theorem znub {t:TypeId} (h:mapB P t=true):∃ k el,P.underlying t=some (.map k el):=by
 unfold mapB mapTB at h
 split at h
 ·exact ⟨_,_,by assumption⟩
 ·cases h
theorem zaob (hG:GSim ι j own σ w) (hL:LSim ι j own lb N e a w) {o:Oper} {t:TypeId} {x:Operand} {y:AOpd} {c:Cell} {id cl:Nat} {es:List (D × D × Nat)} (ho:o.op=.range t x) (hd:∀ s,o.dst=some s→s < N) (hk:okOpd x y=true) (ht:mapB P t=true) (hc:opd e y=some c) (hs:c.d=.map id) (hi:aget σ.oth id=some (.map es cl)) :
  Did P N ι j own w o a (e.put o.dst ⟨false,.ptr σ.next 0⟩) {σ with oth:=(σ.next,.mit id cl [] cl) :: σ.oth,next:=σ.next + 1}:=by
 have hx:=zah hL hk hc
 rw [hs] at hx
 obtain ⟨b,hb,hx⟩:=(by simpa only [Rep] using hx:∃ b,j id=some b∧a.eval x=.map (some b))
 obtain ⟨b',hb',_,l,hl,_⟩:=hG.oth id _ hi
 rw [hb] at hb'
 cases hb'
 obtain ⟨k,el,hk⟩:=znub ht
 refine zeg' hG hL hd (ob:=.mapIter (some b) cl #[] cl) (v:=.pointer (some ⟨w.heap.size,0,none⟩)) (fun j' hj'=>⟨b,hj' _ _ hb,heap_alloc_new w _⟩) ?_ (fun j' h=>by simp only [Rep]; exact ⟨_,h,rfl⟩)
 have hget:(getObj b).run P w=.ok (.map ⟨l⟩ cl) w:=by simp [getObj,Sem.run,hl]
 simp only [execOp,ho,hx,Instr.range,Sem.run_bind,run_underlying hk,Result.andThen_ok,Sem.run_pure,run_newObj,hget]
 rfl
theorem zw3 {ot:List (Nat × Oth)} {p:Ptr} {q:MIt} (h:mitOf ot p=some q):p=.ptr q.id 0∧aget ot q.id=some (.mit q.m q.since q.seen q.stepped)∧aget ot q.m=some (.map q.es q.clock):=by
 unfold mitOf at h
 split at h
 ·obtain ⟨x,h1,h⟩:=zaa h
  split at h
  ·obtain ⟨y,h2,h⟩:=zaa h
   split at h
   ·cases h
    exact ⟨rfl,h1,h2⟩
   ·cases h
  ·cases h
 ·cases h
theorem ztw:∀ {es:List (D × D × Nat)} {l:List MapEntry},zao ι j es l→∀ {b:Nat} {kv:D × D},entAt b es=some kv→∃ ent,l.find? (·.born == b)=some ent∧Rep ι j kv.1 ent.key∧Rep ι j kv.2 ent.val
 | [],_,_,_,_,h=>by simp [entAt] at h
 | (k,v,b') :: r,l,hr,b,kv,h=>by
  simp only [zao] at hr
  obtain ⟨ent,l',rfl,r1,r2,r3,r4⟩:=hr
  simp only [entAt] at h
  cases hb:b' == b with
  | true =>
   rw [hb,zac] at h
   cases h
   refine ⟨ent,?_,r1,r2⟩
   rw [List.find?_cons,r3,hb]
  | false =>
   rw [hb,zad] at h
   obtain ⟨e2,q1,q2⟩:=ztw r4 h
   refine ⟨e2,?_,q2⟩
   rw [List.find?_cons,r3,hb]
   exact q1
theorem zamb (hG:GSim ι j own σ w) (hL:LSim ι j own lb N e a w) {o:Oper} {x:Operand} {y:AOpd} {p:Ptr} {q:MIt} {b:Nat} {r:List Nat} {kv:D × D} (ho:o.op=.entry x) (hd:∀ s,o.dst=some s→s < N) (hk:okOpd x y=true) (hp:addr e y=some p) (hq:mitOf σ.oth p=some q) (hcl:q.clock=q.stepped) (hs:q.seen=b :: r) (he:entAt b q.es=some kv) :
  Did P N ι j own w o a (e.put o.dst ⟨false,.tup [kv.1,kv.2]⟩) σ:=by
 obtain ⟨rfl,q1,q2⟩:=zw3 hq
 obtain ⟨B,hB,hx⟩:=zca hL hk hp
 obtain ⟨B',hB',_,bm,hbm,hit⟩:=hG.oth q.id _ q1
 rw [hB] at hB'
 cases hB'
 obtain ⟨bm',hbm',_,l,hl,hent⟩:=hG.oth q.m _ q2
 rw [hbm] at hbm'
 cases hbm'
 obtain ⟨ent,hf,r1,r2⟩:=ztw hent he
 have hget:(getObj B).run P w=.ok (.mapIter (some bm) q.since ⟨q.seen.reverse⟩ q.stepped) w:=by simp [getObj,Sem.run,hit]
 have hget2:(getObj bm).run P w=.ok (.map ⟨l⟩ q.clock) w:=by simp [getObj,Sem.run,hl]
 have hback:(⟨q.seen.reverse⟩:Array Nat).back?=some b:=by rw [hs]; simp
 have hf':(⟨l⟩:Array MapEntry).find? (·.born == b)=some ent:=by rw [← Array.find?_toList]; exact hf
 have hbne:(q.clock != q.stepped)=false:=by rw [hcl]; simp
 refine ⟨.value (.tuple #[ent.key,ent.val]),w,_,?_,.inl ⟨_,rfl,rfl⟩,ι,j,own,lb,hG,?_,Evo.refl _ _ _ _ _⟩
 ·simp only [execOp,ho,hx,Instr.entry,Sem.run_bind,hget,Result.andThen_ok,hback,hget2,hbne,Bool.false_eq_true,if_false,hf',Sem.run_pure]
 ·cases hds:o.dst with
  | none=>exact hL
  | some d =>
   refine hL.putC (hd d hds) ⟨?_,fun h=>by cases h⟩
   simp only [Rep,RepL]
   exact ⟨[ent.key,ent.val],rfl,ent.key,[ent.val],rfl,r1,ent.val,[],rfl,r2,rfl⟩
theorem zerb (hG:GSim ι j own σ w) (hL:LSim ι j own lb N e a w) {o:Oper} {x:Operand} {y:AOpd} {id pos:Nat} {s:List UInt8} (ho:o.op=.next x true) (hd:∀ s,o.dst=some s→s < N) (hk:okOpd x y=true) (hp:addr e y=some (.ptr id 0)) (hi:aget σ.oth id=some (.it s pos)) :
  (pos < s.length→Did P N ι j own w o a (e.put o.dst ⟨false,.tup [.bool true,.int .i64 pos,.int .i32 (Utf8.decode ⟨⟨s⟩⟩ pos).1]⟩) {σ with oth:=aset σ.oth id (.it s (pos + (Utf8.decode ⟨⟨s⟩⟩ pos).2))}) ∧
  (¬ pos < s.length→Did P N ι j own w o a (e.put o.dst ⟨false,.tup [.bool false]⟩) σ):=by
 obtain ⟨B,hB,hx⟩:=zca hL hk hp
 obtain ⟨B',hB',hown,hheap⟩:=hG.oth id _ hi
 rw [hB] at hB'
 cases hB'
 have hheap:w.heap[B]?=some (.stringIter ⟨⟨s⟩⟩ pos):=hheap
 have hget:(getObj B).run P w=.ok (.stringIter ⟨⟨s⟩⟩ pos) w:=by simp [getObj,Sem.run,hheap]
 have hsz:(⟨⟨s⟩⟩:ByteArray).size=s.length:=rfl
 refine ⟨fun hlt=>?_,fun hge=>?_⟩
 ·obtain ⟨h4,h5⟩:=zro hG (y:=.it s (pos + (Utf8.decode ⟨⟨s⟩⟩ pos).2)) (ob:=.stringIter ⟨⟨s⟩⟩ (pos + (Utf8.decode ⟨⟨s⟩⟩ pos).2)) hi hB hown (fun w' h=>h) rfl
  generalize hw':({w with heap:=w.heap.setIfInBounds B (.stringIter ⟨⟨s⟩⟩ (pos + (Utf8.decode ⟨⟨s⟩⟩ pos).2))}:World)=w' at h4 h5
  refine ⟨.value (.tuple #[.bool true,.int .i64 pos,.int .i32 (Utf8.decode ⟨⟨s⟩⟩ pos).1]),w',_,?_,.inl ⟨_,rfl,rfl⟩,ι,j,own,lb,h4,?_,h5.weaken fun _ _=>trivial⟩
  ·have hset:(setObj B (.stringIter ⟨⟨s⟩⟩ (pos + (Utf8.decode ⟨⟨s⟩⟩ pos).2))).run P w=.ok () w':=by
    simp [setObj,Sem.run,hheap,hw']
   simp only [execOp,ho,hx,Instr.next,Sem.run_bind,hget,Result.andThen_ok,hsz,if_pos hlt,hset,Sem.run_pure,goInt]
  ·have hL':=hL.evo h5 (fun _ _ _ _ h=>by cases h) (fun _ _ _=>⟨(fun h=>by cases h),(fun _ _ _ _ h=>by cases h)⟩)
   cases hds:o.dst with
   | none=>exact hL'
   | some d=>exact hL'.putC (hd d hds) ⟨by simp [Rep,RepL],fun h=>by cases h⟩
 ·refine ⟨.value (.tuple #[.bool false]),w,_,?_,.inl ⟨_,rfl,rfl⟩,ι,j,own,lb,hG,?_,Evo.refl _ _ _ _ _⟩
  ·simp only [execOp,ho,hx,Instr.next,Sem.run_bind,hget,Result.andThen_ok,hsz,if_neg hge,Sem.run_pure]
  ·cases hds:o.dst with
   | none=>exact hL
   | some d=>exact hL.putC (hd d hds) ⟨by simp [Rep,RepL],fun h=>by cases h⟩
theorem zbhb {o:Oper} {e1 e2:Env} {σ':Store} (h:Did P N ι j own w o a e1 σ') (h1:∀ s c,aget e2.slots s=some c→aget e1.slots s=some c) (h2:∀ s p,aget e2.locs s=some p→aget e1.locs s=some p) (h3:∀ s cs,aget e2.boxes s=some cs→aget e1.boxes s=some cs) (h4:e2.defers=e1.defers):Did P N ι j own w o a e2 σ':=by
 obtain ⟨nx,w',a',k1,k2,ι',j',own',lb',k3,k4,k5⟩:=h
 exact ⟨nx,w',a',k1,k2,ι',j',own',lb',k3,k4.sub (fun s c h=>⟨c,h1 s c h,rfl,fun h=>h⟩) h2 (fun s cs h=>⟨cs,h3 s cs h,zbk.refl cs⟩) h4,k5⟩
theorem zlp {s:Nat} {cs:List Cell} (hf:lfree e.locs s=true):(∀ t c,aget (Env.putV {e with boxes:=aset e.boxes s cs} (some s) (.l s 0)).slots t=some c→aget (e.box s cs).slots t=some c)∧∀ t p,aget (Env.putV {e with boxes:=aset e.boxes s cs} (some s) (.l s 0)).locs t=some p→aget (e.box s cs).locs t=some p:=by
 refine ⟨fun t c h=>h,fun t p h=>?_⟩
 obtain ⟨b,o⟩:=p
 simp only [Env.putV,Env.box,zak] at h ⊢
 split
 ·rename_i hs; rw [if_pos hs] at h; exact h
 ·rename_i hs
  rw [if_neg hs] at h
  exact zmm _ _ _ _ _ h ((zea.1 hf).2 t b o h)
theorem zv7 (hG:GSim ι j own σ w) (hL:LSim ι j own lb N e a w) {o:Oper} {o':AOp} (hk:okOp P o o'=true) (hd:∀ s,o.dst=some s→s < N) {e':Env} {σ':Store} (h:zag o.dst o' e σ=some (e',σ')) :
  Did P N ι j own w o a e' σ':=by
 have value:okV P o.op o'=true→(∀ v,evalV o' e σ=some v→e'=(zbd o' e).putV o.dst v→σ'=zbi o' e σ→Did P N ι j own w o a e' σ'):=by
  rintro hv v hev rfl rfl
  cases hp:zk9 o' with
  | true=>exact zesb hG hL hv hd hp hev
  | false =>
   cases o' <;> simp only [zk9,Bool.true_eq_false,Bool.not_eq_false'] at hp
   ·exact zltb hG hL hv hd hev
   ·subst hp
    generalize ho:o.op=op at hv
    cases op <;> first
     | (simp only [okV,Bool.and_eq_true] at hv; exact zkt hG hL ho hv.1 hv.2 hd hev)
     | (simp [okV] at hv)
   ·subst hp
    generalize ho:o.op=op at hv
    cases op <;> first
     | (simp only [okV,Bool.and_eq_true] at hv
        rename_i k y t x
        have hev':=zq9 hev
        have e1:zbd (.loadL k true y) e=zbd (.load k true y) e:=rfl
        have e2:zbi (.loadL k true y) e σ=zbi (.load k true y) e σ:=by
         simp only [evalV] at hev
         obtain ⟨p,hp,hev⟩:=zaa hev
         cases p with
         | ptr id off=>cases hev
         | loc b off=>simp only [zbi,hp,zab]
         | eptr d=>simp only [zbi,hp,zab]
        rw [e1,e2]
        exact zkt hG hL ho hv.1 hv.2 hd hev')
     | (simp [okV] at hv)
 cases o' with
 | alloc z =>
  simp only [okOp,Bool.and_eq_true] at hk
  obtain ⟨s,hs⟩:=Option.isSome_iff_exists.1 hk.1
  have hk:=hk.2
  split at hk
  ·rename_i t ho
   obtain ⟨zs,h1,h2⟩:=zgk hk
   simp only [zag,hs,bindO,zab,Option.some.injEq,Prod.mk.injEq] at h
   obtain ⟨rfl,rfl⟩:=h
   exact zr4 hG hL ho hs (hd s hs) h1 h2
  ·cases hk
 | box y =>
  simp only [okOp,Bool.and_eq_true] at hk
  obtain ⟨s,hs⟩:=Option.isSome_iff_exists.1 hk.1
  have hk:=hk.2
  split at hk
  ·rename_i t x ho
   simp only [zag,hs,bindO,zab] at h
   obtain ⟨c,h1,h⟩:=zaa h
   obtain ⟨h2,h⟩:=zae h
   cases h
   exact zx9 hG hL ho hs (hd s hs) hk h1 h2
  ·cases hk
 | allocN s z =>
  simp only [okOp,Bool.and_eq_true,beq_iff_eq] at hk
  obtain ⟨hs,hk⟩:=hk
  split at hk
  ·rename_i t ho
   obtain ⟨zs,h1,h2⟩:=zgk hk
   simp only [zag,hs] at h
   obtain ⟨hf,h⟩:=zae h
   cases h
   exact zbhb (zr4 hG hL ho hs (hd s hs) h1 h2) (zlp hf).1 (zlp hf).2 (fun _ _ h=>h) rfl
  ·cases hk
 | boxN s y =>
  simp only [okOp,Bool.and_eq_true,beq_iff_eq] at hk
  obtain ⟨hs,hk⟩:=hk
  split at hk
  ·rename_i t x ho
   simp only [zag,hs] at h
   obtain ⟨c,h1,h⟩:=zaa h
   obtain ⟨h2,h⟩:=zae h
   cases h
   simp only [Bool.and_eq_true] at h2
   exact zbhb (zx9 hG hL ho hs (hd s hs) hk h1 h2.2) (zlp h2.1).1 (zlp h2.1).2 (fun _ _ h=>h) rfl
  ·cases hk
 | storeB b0 k x' y' =>
  simp only [okOp] at hk
  split at hk
  ·rename_i t x y ho
   simp only [Bool.and_eq_true,beq_iff_eq] at hk
   obtain ⟨⟨k1,k2⟩,k3⟩:=hk
   simp only [zag] at h
   obtain ⟨p,h1,h⟩:=zaa h
   obtain ⟨c,h2,h⟩:=zaa h
   cases p with
   | loc b off =>
    obtain ⟨hb,h⟩:=zae h
    simp only [beq_iff_eq] at hb
    subst hb
    obtain ⟨cs,h3,h⟩:=zaa h
    obtain ⟨h4,h⟩:=zae h
    cases h
    exact zms hG hL ho hd k1 k2 k3 h1 h2 h3 h4
   | ptr id off=>cases h
   | eptr d=>cases h
  ·cases hk
 | galloc t' z =>
  simp only [okOp] at hk
  split at hk
  ·rename_i t ho
   simp only [Bool.and_eq_true,beq_iff_eq] at hk
   obtain ⟨hk,rfl⟩:=hk
   obtain ⟨zs,h1,h2⟩:=zgk hk
   simp only [zag,memE,memOp,bindO,zab,Option.some.injEq,Prod.mk.injEq] at h
   obtain ⟨rfl,rfl⟩:=h
   exact zanb hG hL ho hd h1 h2
  ·cases hk
 | gbox t' y =>
  simp only [okOp] at hk
  split at hk
  ·rename_i t x ho
   simp only [Bool.and_eq_true,beq_iff_eq] at hk
   obtain ⟨hk,rfl⟩:=hk
   simp only [zag,memE,memOp] at h
   obtain ⟨r,hr,h⟩:=zaa h
   cases h
   obtain ⟨c,h1,hr⟩:=zaa hr
   obtain ⟨h2,hr⟩:=zae hr
   cases hr
   exact zh1b hG hL ho hd hk h1 h2
  ·cases hk
 | buildSlice sz qs =>
  simp only [okOp,Bool.and_eq_true] at hk
  obtain ⟨s,hs⟩:=Option.isSome_iff_exists.1 hk.1
  have hk:=hk.2
  split at hk
  ·rename_i t len ps ho
   simp only [Bool.and_eq_true,beq_iff_eq] at hk
   obtain ⟨zs,k1,k2,k3,k4,k5⟩:=zes hk.2
   simp only [zag] at h
   obtain ⟨ds,h1,h⟩:=zaa h
   obtain ⟨h2,h⟩:=zae h
   cases h
   simp only [Bool.and_eq_true,decide_eq_true_eq] at h2
   obtain ⟨ke,ksz,kag⟩:=sz
   exact zr5 hG hL ho hs (hd s hs) hk.1.1 hk.1.2 k1 k2 k3 k4 k5 h1 h2.1 h2.2
  ·cases hk
 | store k x' y' =>
  simp only [okOp] at hk
  split at hk
  ·rename_i t x y ho
   simp only [Bool.and_eq_true,beq_iff_eq] at hk
   obtain ⟨⟨k1,k2⟩,k3⟩:=hk
   simp only [zag] at h
   obtain ⟨p,h1,h⟩:=zaa h
   obtain ⟨c,h2,h⟩:=zaa h
   cases p with
   | loc b off =>
    obtain ⟨cs,h3,h⟩:=zaa h
    obtain ⟨h4,h⟩:=zae h
    cases h
    exact zms hG hL ho hd k1 k2 k3 h1 h2 h3 h4
   | ptr id off =>
    obtain ⟨cs,h3,h⟩:=zaa h
    obtain ⟨h4,h⟩:=zae h
    cases h
    exact zvd hG hL ho hd k1 k2 k3 h1 h2 h3 h4
   | eptr d=>cases h
  ·cases hk
 | loadA k x' =>
  simp only [okOp] at hk
  split at hk
  ·rename_i t x ho
   simp only [Bool.and_eq_true] at hk
   obtain ⟨k1,k2⟩:=hk
   simp only [zag] at h
   obtain ⟨p,h1,h⟩:=zaa h
   split at h
   ·obtain ⟨cs,h3,h⟩:=zaa h
    obtain ⟨h4,h⟩:=zae h
    cases h
    exact zepb hG hL ho k1 k2 hd h1 h3 (by simpa using h4)
   ·cases h
  ·cases hk
 | storeA k x' y' =>
  simp only [okOp] at hk
  split at hk
  ·rename_i t x y ho
   simp only [Bool.and_eq_true,beq_iff_eq] at hk
   obtain ⟨⟨k1,k2⟩,k3⟩:=hk
   simp only [zag] at h
   obtain ⟨p,h1,h⟩:=zaa h
   obtain ⟨c,h2,h⟩:=zaa h
   split at h
   ·obtain ⟨cs,h3,h⟩:=zaa h
    obtain ⟨ds,h5,h⟩:=zaa h
    obtain ⟨h4,h⟩:=zae h
    cases h
    simp only [Bool.and_eq_true,beq_iff_eq] at h4
    have hds:c.d=.agg ds:=by
     cases hcd:c.d <;> rw [hcd] at h5 <;> simp only [D.agg?,reduceCtorEq,Option.some.injEq] at h5
     rw [h5]
    exact zasb hG hL ho hd k1 k2 k3 h1 h2 h3 hds h4.1 h4.2
   ·cases h
  ·cases hk
 | append sz by_ x' y' =>
  simp only [okOp,Bool.and_eq_true] at hk
  obtain ⟨s,hs⟩:=Option.isSome_iff_exists.1 hk.1
  have hk:=hk.2
  split at hk
  ·rename_i x y t t' ho
   simp only [Bool.and_eq_true,beq_iff_eq] at hk
   obtain ⟨⟨⟨⟨rfl,k1⟩,k2⟩,k3⟩,k4⟩:=hk
   obtain ⟨zs,q1,q2,q3,q4,q5⟩:=zes k3
   have q6:zc7 P sz.el=some by_:=by
    unfold zdy at k4
    rw [q1] at k4
    simpa using k4
   simp only [zag] at h
   obtain ⟨c,h1,h⟩:=zaa h
   obtain ⟨d,h2,h⟩:=zaa h
   obtain ⟨ys,h2b,h⟩:=zaa h
   obtain ⟨r,h3,h⟩:=zaa h
   cases h
   obtain ⟨ke,ksz,kag⟩:=sz
   exact zagb hG hL ho hs (hd s hs) k1 k2 q1 q2 q3 q4 q5 q6 h1 h2 (zuu h2b) h3
  ·cases hk
 | strToBytes k y =>
  simp only [okOp] at hk
  split at hk
  ·rename_i u t x ho
   simp only [Bool.and_eq_true,beq_iff_eq] at hk
   obtain ⟨⟨⟨⟨k1,k2⟩,k3⟩,k4⟩,k5⟩:=hk
   simp only [zag] at h
   obtain ⟨c,h1,h⟩:=zaa h
   obtain ⟨str,h2,h⟩:=zaa h
   obtain ⟨h3,h⟩:=zae h
   cases h
   exact zr8 hG hL ho hd k1 (zgn k2) (zb0 k3) (zmtb k4) k5 h1 h2 (of_decide_eq_true h3)
  ·cases hk
 | rangeS y =>
  simp only [okOp] at hk
  split at hk
  ·rename_i t x ho
   simp only [Bool.and_eq_true] at hk
   simp only [zag] at h
   obtain ⟨c,h1,h⟩:=zaa h
   obtain ⟨str,h2,h⟩:=zaa h
   cases h
   exact zapb hG hL ho hd hk.1 hk.2 h1 h2
  ·cases hk
 | rangeM y =>
  simp only [okOp] at hk
  split at hk
  ·rename_i t x ho
   simp only [Bool.and_eq_true] at hk
   simp only [zag] at h
   obtain ⟨c,h1,h⟩:=zaa h
   split at h
   ·rename_i id hid
    obtain ⟨m,h2,h⟩:=zaa h
    split at h
    ·cases h
     exact zaob hG hL ho hd hk.1 hk.2 h1 hid h2
    ·cases h
   ·cases h
  ·cases hk
 | entryM y =>
  simp only [okOp] at hk
  split at hk
  ·rename_i x ho
   simp only [zag] at h
   obtain ⟨p,h1,h⟩:=zaa h
   obtain ⟨q,h2,h⟩:=zaa h
   obtain ⟨h3,h⟩:=zae h
   split at h
   ·cases h
   ·rename_i b r hs
    obtain ⟨kv,h4,h⟩:=zaa h
    cases h
    exact zamb hG hL ho hd hk h1 h2 (by simpa using h3) hs h4
  ·cases hk
 | nextS y =>
  simp only [okOp] at hk
  split at hk
  ·rename_i x ho
   simp only [zag] at h
   obtain ⟨p,h1,h⟩:=zaa h
   cases p with
   | ptr id off =>
    cases off with
    | zero =>
     obtain ⟨it,h2,h⟩:=zaa h
     cases it with
     | map es cl=>cases h
     | loop r=>cases h
     | dfr=>cases h
     | mit _ _ _ _=>cases h
     | it str pos =>
     simp only at h
     obtain ⟨k1,k2⟩:=zerb hG hL ho hd hk h1 h2
     by_cases hlt:pos < str.length
     ·simp only [hlt,decide_true,zac,Option.some.injEq,Prod.mk.injEq] at h
      obtain ⟨rfl,rfl⟩:=h
      exact k1 hlt
     ·simp only [hlt,decide_false,zad,Option.some.injEq,Prod.mk.injEq] at h
      obtain ⟨rfl,rfl⟩:=h
      exact k2 hlt
    | succ n=>cases h
   | loc b off=>cases h
   | eptr d=>cases h
  ·cases hk
 | appendS sz by_ x' y' =>
  simp only [okOp,Bool.and_eq_true] at hk
  obtain ⟨s,hs⟩:=Option.isSome_iff_exists.1 hk.1
  have hk:=hk.2
  split at hk
  ·rename_i x y t t' ho
   simp only [Bool.and_eq_true,beq_iff_eq] at hk
   obtain ⟨⟨⟨⟨⟨k0,k1⟩,k2⟩,k3⟩,k3b⟩,k4⟩:=hk
   obtain ⟨zs,q1,q2,q3,q4,q5⟩:=zes k3
   have q6:zc7 P sz.el=some by_:=by
    unfold zdy at k4
    rw [q1] at k4
    simpa using k4
   simp only [zag] at h
   obtain ⟨c,h1,h⟩:=zaa h
   obtain ⟨d,h2,h⟩:=zaa h
   obtain ⟨str,h3,h⟩:=zaa h
   obtain ⟨r,h4,h⟩:=zaa h
   cases h
   have hds:d.d=.str str:=by
    cases hdd:d.d <;> rw [hdd] at h3 <;> simp only [D.str?,reduceCtorEq,Option.some.injEq] at h3
    rw [h3]
   obtain ⟨ke,ks,kag⟩:=sz
   simp only at k3b
   subst k3b
   exact zx7 hG hL ho hs (hd s hs) k1 k2 q1 q2 q3 q4 q6 (zgn k0) h1 h2 hds h4
  ·cases hk
 | loadO k x' =>
  simp only [okOp] at hk
  split at hk
  ·rename_i t x ho
   simp only [Bool.and_eq_true] at hk
   simp only [zag] at h
   obtain ⟨r,h1,h⟩:=zaa h
   cases h
   unfold takeO at h1
   obtain ⟨p,hp,h1⟩:=zaa h1
   cases p with
   | loc b off=>cases h1
   | eptr d=>cases h1
   | ptr id off =>
    simp only at h1
    obtain ⟨cs,h2,h1⟩:=zaa h1
    obtain ⟨c,h3,h1⟩:=zaa h1
    cases h1
    have hev:evalV (.load k true x') e σ=some (.c c):=by
     simp only [evalV,hp,h2,h3,bindO,zab,Bool.true_and]
    have hS:=zkt hG hL ho hk.1 hk.2 hd hev
    have hdr:zbd (.load k true x') e=e:=by simp only [zbd,hp,zab]
    have hdrS:zbi (.load k true x') e σ={σ with objs:=aset σ.objs id (zay cs off)}:=by simp only [zbi,hp,zab,h2]
    rw [hdr,hdrS] at hS
    exact hS
  ·cases hk
 | sliceT sz x' lo' =>
  simp only [okOp] at hk
  split at hk
  ·rename_i t x lo ho
   simp only [Bool.and_eq_true] at hk
   obtain ⟨⟨⟨k1,k2⟩,k3⟩,k5⟩:=hk
   obtain ⟨el,q1,q2⟩:=zh7 k5
   obtain ⟨s,hds⟩:=Option.isSome_iff_exists.1 k3
   simp only [zag] at h
   obtain ⟨c,h1,h⟩:=zaa h
   obtain ⟨l,h2,h⟩:=zaa h
   obtain ⟨d,h4,h⟩:=zaa h
   obtain ⟨h6,h⟩:=zae h
   cases h
   exact zarb hG hL ho hds (hd s hds) k1 k2 (zb0 q1) q2 h1 h2 h4 h6
  ·cases hk
 | slice3 sz x' lo' hi' mx' =>
  simp only [okOp] at hk
  split at hk
  ·rename_i t x lo hi mx ho
   simp only [Bool.and_eq_true] at hk
   obtain ⟨⟨⟨⟨k1,k2⟩,k3⟩,k4⟩,k5⟩:=hk
   obtain ⟨el,q1,q2⟩:=zh7 k5
   simp only [zag] at h
   obtain ⟨c,h1,h⟩:=zaa h
   obtain ⟨l,h2,h⟩:=zaa h
   obtain ⟨ch,h3,h⟩:=zaa h
   obtain ⟨hh,h4,h⟩:=zaa h
   obtain ⟨cm,h5,h⟩:=zaa h
   obtain ⟨m,h6,h⟩:=zaa h
   obtain ⟨d,h7,h⟩:=zaa h
   cases h
   obtain ⟨u,r1,r2,r3⟩:=zebb (w:=w) hL ho k1 k2 k3 k4 (zb0 q1) q2 h1 h2 h3 h4 h5 h6 h7
   exact zaqb hG hL hd r1 r2 r3
  ·cases hk
 | storeD sq sd k x' y' =>
  simp only [okOp] at hk
  split at hk
  ·rename_i t x y ho
   simp only [Bool.and_eq_true,beq_iff_eq] at hk
   obtain ⟨⟨k1,k2⟩,k3⟩:=hk
   simp only [zag,memE,memOp] at h
   obtain ⟨r,hr,h⟩:=zaa h
   cases h
   obtain ⟨p,h1,hr⟩:=zaa hr
   obtain ⟨c,h2,hr⟩:=zaa hr
   obtain ⟨z,_,hr⟩:=zaa hr
   obtain ⟨iz,_,hr⟩:=zaa hr
   cases p with
   | loc b off=>cases hr
   | ptr id off =>
    obtain ⟨_,hr⟩:=zae hr
    obtain ⟨cs,h3,hr⟩:=zaa hr
    obtain ⟨h4,hr⟩:=zae hr
    cases hr
    exact zpp hG hL ho hd k1 k2 k3 h1 h2 h3 h4
   | eptr d=>cases hr
  ·cases hk
 | storeP k x' y' =>
  simp only [okOp] at hk
  split at hk
  ·rename_i t x y ho
   simp only [Bool.and_eq_true,beq_iff_eq] at hk
   obtain ⟨⟨k1,k2⟩,k3⟩:=hk
   simp only [zag,memE,memOp] at h
   obtain ⟨r,hr,h⟩:=zaa h
   cases h
   obtain ⟨p,h1,hr⟩:=zaa hr
   obtain ⟨c,h2,hr⟩:=zaa hr
   cases p with
   | loc b off=>cases hr
   | ptr id off =>
    obtain ⟨cs,h3,hr⟩:=zaa hr
    obtain ⟨h4,hr⟩:=zae hr
    cases hr
    exact zpp hG hL ho hd k1 k2 k3 h1 h2 h3 h4
   | eptr d=>cases hr
  ·cases hk
 | makeA k by_ z x' y' =>
  simp only [okOp] at hk
  split at hk
  ·rename_i t x y ho
   simp only [Bool.and_eq_true] at hk
   obtain ⟨⟨⟨⟨k1,k2⟩,k3⟩,k4⟩,k5⟩:=hk
   obtain ⟨zs,q1,q2,q3,q4,q5⟩:=zes k3
   obtain ⟨zs',q3',k4⟩:=zgk k4
   rw [q3] at q3'
   cases q3'
   have q6:zc7 P k.el=some by_:=by
    unfold zdy at k5
    rw [q1] at k5
    simpa using k5
   simp only [zag,memE,memOp] at h
   obtain ⟨r,hr,h⟩:=zaa h
   cases h
   obtain ⟨c,h1,hr⟩:=zaa hr
   obtain ⟨l,h2,hr⟩:=zaa hr
   obtain ⟨d,h3,hr⟩:=zaa hr
   obtain ⟨l',h4,hr⟩:=zaa hr
   obtain ⟨h5,hr⟩:=zae hr
   cases hr
   simp only [Bool.and_eq_true,beq_iff_eq,decide_eq_true_eq] at h5
   obtain ⟨⟨rfl,h5⟩,h6⟩:=h5
   exact zeqb hG hL ho hd k1 k2 q1 q2 q3 q4 q5 k4 q6 h1 h3 h2 h4 h5 h6
  ·cases hk
 | buildA k qs =>
  simp only [okOp] at hk
  split at hk
  ·rename_i t len ps ho
   simp only [Bool.and_eq_true,beq_iff_eq] at hk
   obtain ⟨zs,k1,k2,k3,k4,k5⟩:=zes hk.2
   simp only [zag,memE,memOp] at h
   obtain ⟨r,hr,h⟩:=zaa h
   cases h
   obtain ⟨ds,h1,hr⟩:=zaa hr
   obtain ⟨h2,hr⟩:=zae hr
   cases hr
   simp only [Bool.and_eq_true,decide_eq_true_eq] at h2
   exact zahb hG hL ho hd hk.1.1 hk.1.2 k1 k2 k3 k4 k5 h1 h2.1 h2.2
  ·cases hk
 | appendA k by_ x' y' =>
  simp only [okOp] at hk
  split at hk
  ·rename_i x y t t' ho
   simp only [Bool.and_eq_true,beq_iff_eq] at hk
   obtain ⟨⟨⟨⟨rfl,k1⟩,k2⟩,k3⟩,k4⟩:=hk
   obtain ⟨zs,q1,q2,q3,q4,q5⟩:=zes k3
   have q6:zc7 P k.el=some by_:=by
    unfold zdy at k4
    rw [q1] at k4
    simpa using k4
   simp only [zag,memE,memOp] at h
   obtain ⟨r,hr,h⟩:=zaa h
   cases h
   obtain ⟨c,h1,hr⟩:=zaa hr
   obtain ⟨d,h2,hr⟩:=zaa hr
   obtain ⟨ys,h3,hr⟩:=zaa hr
   exact zoj hG hL ho hd k1 k2 q1 q2 q3 q4 q5 q6 h1 h2 h3 hr
  ·cases hk
 | appendW ws k by_ x' y' =>
  simp only [okOp] at hk
  split at hk
  ·rename_i x y t t' ho
   simp only [Bool.and_eq_true,beq_iff_eq] at hk
   obtain ⟨⟨⟨⟨rfl,k1⟩,k2⟩,k3⟩,k4⟩:=hk
   obtain ⟨zs,q1,q2,q3,q4,q5⟩:=zes k3
   have q6:zc7 P k.el=some by_:=by
    unfold zdy at k4
    rw [q1] at k4
    simpa using k4
   simp only [zag,memE,memOp] at h
   obtain ⟨r,hr,h⟩:=zaa h
   cases h
   obtain ⟨c,h1,hr⟩:=zaa hr
   obtain ⟨d,h2,hr⟩:=zaa hr
   obtain ⟨ys,h3,hr⟩:=zaa hr
   exact zoj hG hL ho hd k1 k2 q1 q2 q3 q4 q5 q6 h1 h2 h3 hr
  ·cases hk
 | copyA sz x' y' =>
  simp only [okOp] at hk
  split at hk
  ·rename_i x y t t' ho
   simp only [Bool.and_eq_true] at hk
   obtain ⟨⟨⟨k1,k2⟩,k3⟩,k4⟩:=hk
   obtain ⟨el,q1,q2⟩:=zh7 k4
   obtain ⟨el',q3⟩:=Option.isSome_iff_exists.1 k3
   simp only [zag,memE,memOp] at h
   obtain ⟨r,hr,h⟩:=zaa h
   cases h
   obtain ⟨c,h1,hr⟩:=zaa hr
   obtain ⟨d,h2,hr⟩:=zaa hr
   obtain ⟨ys,h3,hr⟩:=zaa hr
   obtain ⟨p,h4,hr⟩:=zaa hr
   cases hr
   exact zemb hG hL ho hd k1 k2 q1 q3 q2 h1 h2 h3 h4
  ·cases hk
 | clearA sz z x' =>
  simp only [okOp] at hk
  split at hk
  ·rename_i x t ho
   simp only [Bool.and_eq_true] at hk
   obtain ⟨k1,k2⟩:=hk
   split at k2
   ·rename_i el hel
    simp only [Bool.and_eq_true,beq_iff_eq] at k2
    obtain ⟨k2,k3⟩:=k2
    obtain ⟨zs,q1,q2⟩:=zgk k3
    simp only [zag,memE,memOp] at h
    obtain ⟨r,hr,h⟩:=zaa h
    cases h
    obtain ⟨c,h1,hr⟩:=zaa hr
    obtain ⟨σ1,h2,hr⟩:=zaa hr
    cases hr
    exact zaib hG hL ho hd k1 hel k2 q1 q2 h1 h2
   ·cases k2
  ·cases hk
 | growZ k by_ z x' y' =>
  simp only [okOp] at hk
  split at hk
  ·rename_i x y t t' ho
   simp only [Bool.and_eq_true,beq_iff_eq] at hk
   obtain ⟨⟨⟨⟨⟨k1,k2⟩,k3⟩,k4⟩,k5⟩,k6⟩:=hk
   simp only [zag] at h
   obtain ⟨c,h1,h⟩:=zaa h
   split at h
   ·rename_i hcn
    obtain ⟨m,h2,h⟩:=zaa h
    split at h
    ·rename_i mi hm
     obtain ⟨h3,h4⟩:=zae h
     cases h4
     simp only [Bool.and_eq_true,decide_eq_true_eq] at h3
     obtain ⟨zs,q1,q2,q3,q4,q5⟩:=zes k3
     obtain ⟨zs',q3',k4⟩:=zgk k4
     rw [q3] at q3'
     cases q3'
     have q6:zc7 P k.el=some by_:=by
      unfold zdy at k5
      rw [q1] at k5
      simpa using k5
     exact zeob hG hL ho hd k1 k2 q1 k6 q2 q3 q4 q5 q6 k4 h1 hcn h2 hm h3.1.1 h3.1.2 h3.2
    ·cases h
   ·cases h
  ·cases hk
 | capZ x' =>
  simp only [okOp] at hk
  split at hk
  ·rename_i x t ho
   simp only [Bool.and_eq_true] at hk
   simp only [zag] at h
   obtain ⟨c,h1,h⟩:=zaa h
   split at h
   ·rename_i hcn
    simp only [Option.some.injEq,Prod.mk.injEq] at h
    obtain ⟨rfl,rfl⟩:=h
    exact zh0b hG hL ho hd hk.1 hk.2 h1 hcn
   ·cases h
  ·cases hk
 | cloneM x' =>
  simp only [okOp] at hk
  split at hk
  ·rename_i g x ts ho
   simp only [Bool.and_eq_true] at hk
   simp only [zag] at h
   obtain ⟨c,h1,h⟩:=zaa h
   obtain ⟨ob,dd⟩:=c
   cases dd <;> simp only [reduceCtorEq] at h
   rename_i tt d2
   cases d2 <;> simp only [reduceCtorEq] at h
   obtain ⟨x2,h2,h⟩:=zaa h
   cases x2 <;> simp only [reduceCtorEq,Option.some.injEq,Prod.mk.injEq] at h
   obtain ⟨rfl,rfl⟩:=h
   exact zajb hG hL ho hk.1 hd hk.2 h1 h2
  ·cases hk
 | assertP t' x' =>
  simp only [okOp] at hk
  split at hk
  ·rename_i x u t ho
   simp only [Bool.and_eq_true,beq_iff_eq] at hk
   obtain ⟨⟨rfl,k1⟩,k2⟩:=hk
   simp only [zag] at h
   obtain ⟨c,h1,h⟩:=zaa h
   split at h
   ·rename_i t'' d hcd
    obtain ⟨h3,h4⟩:=zae h
    cases h4
    have h3:=beq_iff_eq.1 h3
    rw [h3] at hcd
    exact zx8 hG hL ho hd k1 k2 h1 hcd
   ·cases h
  ·cases hk
 | makeMap =>
  simp only [zag,memE,memOp,bindO,zab,Option.some.injEq,Prod.mk.injEq] at h
  obtain ⟨rfl,rfl⟩:=h
  simp only [okOp] at hk
  split at hk
  ·rename_i t ho
   exact zya hG hL ho hd
  ·rename_i t k n ho
   obtain ⟨⟨kt,el⟩,hm⟩:=Option.isSome_iff_exists.1 hk
   exact zvc hG hL ho (zf6 hm) hd
  ·cases hk
 | update ks x' i' y' =>
  have main:∀ {t:TypeId} {x i y:Operand},(o.op=.mapUpdate t x i y∨o.op=.insert t x i y)→(okOpd x x' && okOpd i i' && okOpd y y' && (match mapTB P t with | some (kt,_)=>keyB P ks kt | none=>false))=true→Did P N ι j own w o a e' σ':=by
   intro t x i y ho hk
   simp only [Bool.and_eq_true] at hk
   obtain ⟨⟨⟨k1,k2⟩,k3⟩,k4⟩:=hk
   split at k4
   ·rename_i kt el hm
    simp only [zag,memE,memOp] at h
    obtain ⟨r,hr,h⟩:=zaa h
    cases h
    obtain ⟨c,h1,hr⟩:=zaa hr
    obtain ⟨k,h2,hr⟩:=zaa hr
    obtain ⟨v,h3,hr⟩:=zaa hr
    obtain ⟨⟨id,es,cl⟩,h4,hr⟩:=zaa hr
    obtain ⟨h5,hr⟩:=zae hr
    obtain ⟨f,h6,hr⟩:=zaa hr
    cases hr
    simp only [Bool.and_eq_true] at h5
    exact zatb hG hL ho hd k1 k2 k3 hm k4 h1 h2 h3 h4 h5.1 h6
   ·cases k4
  simp only [okOp] at hk
  split at hk
  ·rename_i t x i y ho
   exact main (.inl ho) hk
  ·rename_i t x i y ho
   exact main (.inr ho) hk
  ·cases hk
 | delete ks x' i' =>
  simp only [okOp] at hk
  split at hk
  ·rename_i x i t tk ho
   simp only [Bool.and_eq_true] at hk
   obtain ⟨⟨k1,k2⟩,k4⟩:=hk
   split at k4
   ·rename_i kt el hm
    simp only [zag,memE,memOp] at h
    obtain ⟨r,hr,h⟩:=zaa h
    cases h
    obtain ⟨c,h1,hr⟩:=zaa hr
    obtain ⟨k,h2,hr⟩:=zaa hr
    obtain ⟨⟨id,es,cl⟩,h4,hr⟩:=zaa hr
    obtain ⟨h5,hr⟩:=zae hr
    obtain ⟨f,h6,hr⟩:=zaa hr
    cases hr
    exact zalb hG hL ho hd k1 k2 hm k4 h1 h2 h4 h5 h6
   ·cases k4
  ·cases hk
 | entry ks z x' i' =>
  simp only [okOp] at hk
  split at hk
  ·rename_i t x i ho
   simp only [Bool.and_eq_true] at hk
   obtain ⟨⟨k1,k2⟩,k4⟩:=hk
   split at k4
   ·rename_i kt el hm
    simp only [Bool.and_eq_true] at k4
    obtain ⟨k4,k5⟩:=k4
    split at k5
    ·rename_i zv hz
     simp only [zag,memE,memOp] at h
     obtain ⟨r,hr,h⟩:=zaa h
     cases h
     obtain ⟨c,h1,hr⟩:=zaa hr
     obtain ⟨k,h2,hr⟩:=zaa hr
     obtain ⟨⟨id,es,cl⟩,h4,hr⟩:=zaa hr
     obtain ⟨h5,hr⟩:=zae hr
     obtain ⟨f,h6,hr⟩:=zaa hr
     cases hr
     exact zenb hG hL ho hd k1 k2 hm k4 hz k5 h1 h2 h4 h5 h6
    ·cases k5
   ·cases k4
  ·cases hk
 | entryStore x' s' y' =>
  simp only [okOp] at hk
  split at hk
  ·rename_i t x s y ho
   simp only [Bool.and_eq_true] at hk
   obtain ⟨⟨k1,k2⟩,k3⟩:=hk
   simp only [zag,memE,memOp] at h
   obtain ⟨r,hr,h⟩:=zaa h
   cases h
   obtain ⟨c,h1,hr⟩:=zaa hr
   obtain ⟨b,h2,hr⟩:=zaa hr
   obtain ⟨bn,h3,hr⟩:=zaa hr
   obtain ⟨v,h4,hr⟩:=zaa hr
   obtain ⟨⟨id,es,cl⟩,h5,hr⟩:=zaa hr
   obtain ⟨h6,hr⟩:=zae hr
   cases hr
   simp only [Bool.and_eq_true] at h6
   exact zr6 hG hL ho hd k1 k2 k3 h1 h2 h3 h4 h5 h6.2
  ·cases hk
 | deferv f' as' =>
  simp only [okOp] at hk
  split at hk
  ·rename_i f as ts ho
   simp only [Bool.and_eq_true] at hk
   simp only [zag] at h
   obtain ⟨c,h1,h⟩:=zaa h
   obtain ⟨⟨g,x,y⟩,h2,h⟩:=zaa h
   obtain ⟨ds,h3,h⟩:=zaa h
   cases h
   exact zakb hG hL ho hd hk.1 hk.2 h1 h2 h3
  ·cases hk
 | call g as'=>simp only [zag,evalV,bindO,za0,reduceCtorEq] at h
 | pcall g as'=>simp only [zag,evalV,bindO,za0,reduceCtorEq] at h
 | callv g as'=>simp only [zag,evalV,bindO,za0,reduceCtorEq] at h
 | callW ws g as'=>simp only [zag,evalV,bindO,za0,reduceCtorEq] at h
 | callvW ws g as'=>simp only [zag,evalV,bindO,za0,reduceCtorEq] at h
 | panic y=>simp only [zag,evalV,bindO,za0,reduceCtorEq] at h
 | _ =>
  simp only [okOp] at hk
  simp only [zag] at h
  obtain ⟨v,h1,h⟩:=zaa h
  cases h
  exact value hk v h1 rfl rfl
theorem zyq (hL:LSim ι j own lb N e a w) {ops:Array Oper} {o:Oper} {g:Option (Nat × Bool)} (hk:zk2 ops o.guard g=true) (hN:∀ i s b,o.guard=some (i,b)→((ops[i]?).bind (·.dst))=some s→s < N) {b:Bool} (h:zb4 g e=some b) :
  Region.wanted o (yielded ops a.tmps)=b:=by
 unfold Region.wanted
 cases hg:o.guard with
 | none =>
  rw [hg] at hk
  cases g with
  | none=>simp only [zb4,Option.some.injEq] at h; subst h; rfl
  | some p=>simp [zk2] at hk
 | some p =>
  obtain ⟨i,want⟩:=p
  rw [hg] at hk
  cases g with
  | none=>simp [zk2] at hk
  | some q =>
   obtain ⟨s,want'⟩:=q
   simp only [zk2,Bool.and_eq_true,beq_iff_eq] at hk
   obtain ⟨h1,rfl⟩:=hk
   have hdst:((ops[i]?).bind (·.dst))=some s:=by
    cases ho:ops[i]? with
    | none=>rw [ho] at h1; cases h1
    | some o=>rw [ho] at h1; simpa using h1
   have hlt:=hN i s want hg hdst
   simp only [zb4] at h
   obtain ⟨c,h2,h⟩:=zaa h
   have hr:=(hL.slots s c h2).1
   have hget:a.tmps[s]?=some (a.tmps.getD s Go.undef):=by
    rw [Array.getD_eq_getD_getElem?,Array.getElem?_eq_getElem (by rw [hL.size]; exact hlt)]
    rfl
   simp only [yielded,hdst,Option.bind_some,hget]
   cases hb:c.d.bool? with
   | some t =>
    rw [hb] at h
    simp only [zab,Option.some.injEq] at h
    cases hd:c.d <;> rw [hd] at hb <;> simp only [D.bool?,reduceCtorEq,Option.some.injEq] at hb
    subst hb
    rw [hd] at hr
    simp only [Rep] at hr
    rw [hr]
    subst h
    simp
   | none =>
    rw [hb] at h
    simp only [za0] at h
    cases hd:c.d <;> rw [hd] at h <;> simp only [zg5,zac,zad,reduceCtorEq,Option.some.injEq] at h
    subst h
    rw [hd] at hr
    simp only [Rep] at hr
    rw [hr]
    rfl
end
end Go.Mx
