/-
 One operation of a region: its fit,and that the machine's step is the program's.
-/
import Derived.Test.YtldfbnbckiifeaaGreatDoorMyMap
import Derived.Test.YtldfbnbckiifeaaGreatDoorMySwap
set_option linter.unusedSimpArgs false
set_option linter.unusedVariables false
set_option linter.unusedSectionVars false
namespace Go.Mx
open Go
def vJ (P:Program) (t:TypeId) (z:List D):Bool:=match jR P t with
 | some zs=>jM z zs
 | none=>false
def qX (P:Program) (t:TypeId) (k:RowK):Bool:=match eX P t with
 | some el=>(match cB P el,jR P el with
  | some n,some zs=>el == k.el && n == k.sz && zs.length == k.sz && decide (0 < k.sz)
  | _,_=>false)
 | none=>false
def lW (P:Program) (t:TypeId) (by_:Nat):Bool:=match eX P t with
 | some el=>kF P el == some by_
 | none=>false
def eW (P:Program) (o:Oper):AOp→Bool
 | .alloc z=>o.dst.isSome && (match o.op with | .alloc t=>vJ P t z | _=>false)
 | .box y=>o.dst.isSome && (match o.op with | .box _ x=>aH x y | _=>false)
 | .allocN s z=>o.dst == some s && (match o.op with | .alloc t=>vJ P t z | _=>false)
 | .boxN s y=>o.dst == some s && (match o.op with | .box _ x=>aH x y | _=>false)
 | .storeB _ k x' y'=>match o.op with | .store t x y=>aH x x' && aH y y' && cB P t == some k | _=>false
 | .callW _ g as'=>match o.op with | .call {callee:=.value f,args:=as,..}=>aH f (.const (.fn (.func g) [] [])) && (!isY g && lQ as.toList as') | _=>false
 | .callvW _ f' as'=>match o.op with | .call {callee:=.value f,args:=as,..}=>aH f f' && lQ as.toList as' | _=>false
 | .galloc t' z=>match o.op with | .alloc t=>vJ P t z && t == t' | _=>false
 | .gbox t' y=>match o.op with | .box t x=>aH x y && t == t' | _=>false
 | .strToBytes k y=>match o.op with | .convert s t x=>aH x y && pE P s && eX P t == some k.el && yP P k.el == some .u8 && k.sz == 1 | _=>false
 | .rangeS y=>match o.op with | .range t x=>aH x y && pE P t | _=>false
 | .nextS y=>match o.op with | .next x true=>aH x y | _=>false
 | .buildSlice k qs=>o.dst.isSome && (match o.op with | .buildSlice t len ps=>wY 0 ps.toList qs && len == qs.length && qX P t k | _=>false)
 | .store k x' y'=>match o.op with | .store t x y=>aH x x' && aH y y' && cB P t == some k | _=>false
 | .loadA k x'=>match o.op with | .load t x=>aH x x' && okK P t (some k) | _=>false
 | .storeA k x' y'=>match o.op with | .store t x y=>aH x x' && aH y y' && cB P t == some k | _=>false
 | .append sz by_ x' y'=>o.dst.isSome && (match o.op with
  | .call {callee:=.builtin .append,args:=⟨[x,y]⟩,argTypes:=⟨[t,t']⟩}=>t == t' && aH x x' && aH y y' && qX P t sz && lW P t by_
  | _=>false)
 | .appendS k by_ x' y'=>o.dst.isSome && (match o.op with
  | .call {callee:=.builtin .append,args:=⟨[x,y]⟩,argTypes:=⟨[t,t']⟩}=>pE P t' && aH x x' && aH y y' && qX P t k && k.sz == 1 && lW P t by_
  | _=>false)
 | .slice3 sz x' lo' hi' mx'=>match o.op with | .slice t x lo (some hi) (some mx)=>aH x x' && rF lo lo' && aH hi hi' && aH mx mx' && (match eX P t with | some e=>cB P e == some sz | none=>false) | _=>false
 | .storeP k x' y'=>match o.op with | .store t x y=>aH x x' && aH y y' && cB P t == some k | _=>false
 | .makeA k by_ z x' y'=>match o.op with | .makeSlice t x y=>aH x x' && aH y y' && qX P t k && vJ P k.el z && lW P t by_ | _=>false
 | .buildA k qs=>match o.op with | .buildSlice t len ps=>wY 0 ps.toList qs && len == qs.length && qX P t k | _=>false
 | .appendA k by_ x' y'=>match o.op with
  | .call {callee:=.builtin .append,args:=⟨[x,y]⟩,argTypes:=⟨[t,t']⟩}=>t == t' && aH x x' && aH y y' && qX P t k && lW P t by_
  | _=>false
 | .appendW _ k by_ x' y'=>match o.op with
  | .call {callee:=.builtin .append,args:=⟨[x,y]⟩,argTypes:=⟨[t,t']⟩}=>t == t' && aH x x' && aH y y' && qX P t k && lW P t by_
  | _=>false
 | .copyA sz x' y'=>match o.op with
  | .call {callee:=.builtin .copy,args:=⟨[x,y]⟩,argTypes:=⟨[t,t']⟩}=>aH x x' && aH y y' && (eX P t').isSome && (match eX P t with | some e=>cB P e == some sz | none=>false)
  | _=>false
 | .clearA sz z x'=>match o.op with
  | .call {callee:=.builtin .clear,args:=⟨[x]⟩,argTypes:=⟨[t]⟩}=>aH x x' && (match eX P t with | some e=>cB P e == some sz && vJ P e z | none=>false)
  | _=>false
 | .growZ k by_ z x' y'=>match o.op with
  | .call {callee:=.builtin .append,args:=⟨[x,y]⟩,argTypes:=⟨[t,t']⟩}=>aH x x' && aH y y' && qX P t k && vJ P k.el z && lW P t by_ && yP P t' == some .i64
  | _=>false
 | .capZ x'=>match o.op with
  | .call {callee:=.builtin .cap,args:=⟨[x]⟩,argTypes:=⟨[t]⟩}=>aH x x' && (eX P t).isSome
  | _=>false
 | .cloneM x'=>match o.op with | .call {callee:=.value (.func g),args:=⟨[x]⟩,..}=>zgc P g && aH x x' | _=>false
 | .assertP t' x'=>match o.op with | .typeAssert x _ t false=>t == t' && aH x x' && mH P t == some false | _=>false
 | .makeMap=>match o.op with | .makeMap t none=>cJ P t | .makeMap t (some (.const (.int _ _)))=>cJ P t | _=>false
 | .update ks x' i' y'=>match o.op with
  | .mapUpdate t x i y=>aH x x' && aH i i' && aH y y' && (match qK P t with | some (kt,_)=>pX P ks kt | none=>false)
  | .insert t x i y=>aH x x' && aH i i' && aH y y' && (match qK P t with | some (kt,_)=>pX P ks kt | none=>false)
  | _=>false
 | .delete ks x' i'=>match o.op with
  | .call {callee:=.builtin .delete,args:=⟨[x,i]⟩,argTypes:=⟨[t,_]⟩}=>aH x x' && aH i i' && (match qK P t with | some (kt,_)=>pX P ks kt | none=>false)
  | _=>false
 | .entry ks z x' i'=>match o.op with
  | .mapEntry t x i=>aH x x' && aH i i' && (match qK P t with | some (kt,el)=>pX P ks kt && (match (P.info? el).bind (·.zero) with | some zv=>dM z zv | none=>false) | none=>false)
  | _=>false
 | .entryStore x' s' y'=>match o.op with
  | .entryStore _ x s y=>aH x x' && aH s s' && aH y y'
  | _=>false
 | .deferv f' as'=>match o.op with | .defer {callee:=.value f,args:=as,..}=>aH f f' && lQ as.toList as' | _=>false
 | .call g as'=>match o.op with | .call {callee:=.value f,args:=as,..}=>aH f (.const (.fn (.func g) [] [])) && (!isY g && lQ as.toList as') | _=>false
 | .callv f' as'=>match o.op with | .call {callee:=.value f,args:=as,..}=>aH f f' && lQ as.toList as' | _=>false
 | .panic y=>match o.op with | .panic x=>aH x y | _=>false
 | o'=>okV P o.op o'
def zon (N:Nat):Option Nat→Option Nat→Bool
 | none,none=>true
 | some s,some s'=>s == s' && decide (s < N)
 | _,_=>false
theorem zuv {N:Nat} {d d':Option Nat} (h:zon N d d'=true):d=d'∧∀ s,d=some s→s < N:=by
 cases d <;> cases d' <;> simp only [zon,Bool.false_eq_true,Bool.and_eq_true,beq_iff_eq,decide_eq_true_eq] at h
 ·exact ⟨rfl,fun s h=>by cases h⟩
 ·exact ⟨by rw [h.1],fun s hs=>by cases hs; exact h.2⟩
def Df (ops:Array Oper):Option (Nat × Bool)→Option (Nat × Bool)→Bool
 | none,none=>true
 | some (i,b),some (s,b')=>(match ops[i]? with | some o=>o.dst == some s | none=>false) && b == b'
 | _,_=>false
def Lr (P:Program) (N:Nat) (ops:Array Oper) (o:Oper) (o':AOper):Bool:=zon N o.dst o'.dst && Df ops o.guard o'.guard && eW P o o'.op
section
variable [LoopKit] {P:Program} {ι:Imm} {j:Lay} {own:Own} {lb:Lay} {N:Nat} {e:Env} {a:Go.Act} {w:World} {σ:Store}
theorem zch {os:List (Nat × List Cell)} {d:D} {ys:List D} (h:eL d=some ys):eB os d=some ys:=by
 cases d <;> simp only [eL,reduceCtorEq] at h <;> exact h
theorem nL {t:TypeId} {k:RowK} (h:qX P t k=true):∃ zs,eX P t=some k.el∧cB P k.el=some k.sz∧jR P k.el=some zs∧zs.length=k.sz∧0 < k.sz:=by
 unfold qX at h
 split at h
 ·rename_i el hel
  split at h
  ·rename_i n zs hn hz
   simp only [Bool.and_eq_true,beq_iff_eq,decide_eq_true_eq] at h
   obtain ⟨⟨⟨rfl,h1⟩,h2⟩,h3⟩:=h
   exact ⟨zs,hel,h1 ▸ hn,hz,h2,h3⟩
  ·cases h
 ·cases h
theorem sJ {t:TypeId} {z:List D} (h:vJ P t z=true):∃ zs,jR P t=some zs∧jM z zs=true:=by
 unfold vJ at h
 split at h
 ·rename_i zs hz
  exact ⟨zs,hz,h⟩
 ·cases h
theorem zxe {d:D} {f:FuncId} {x y:List D} (h:d.fn?=some (f,x,y)) {v:Value} (hr:Rep ι j d v):(isY f=false∧∃ vf vc,v=.func (.func f) ⟨vf⟩ ⟨vc⟩∧aI ι j x vf∧aI ι j y vc)∨∃ id b,d=.yld id∧f=dS + id∧x=[]∧y=[]∧j id=some b∧v=.func (.yield b) ⟨[]⟩ ⟨[]⟩:=by
 cases d with
 | fn g a b =>
  cases g with
  | func g =>
   simp only [D.fn?] at h
   obtain ⟨h0,h⟩:=aJ' h
   simp only [Option.some.injEq,Prod.mk.injEq] at h
   obtain ⟨rfl,rfl,rfl⟩:=h
   exact .inl ⟨h0,by simpa only [Rep] using hr⟩
  | _=>simp [D.fn?] at h
 | yld id =>
  simp only [D.fn?,Option.some.injEq,Prod.mk.injEq] at h
  obtain ⟨rfl,rfl,rfl⟩:=h
  simp only [Rep] at hr
  obtain ⟨b,h1,h2⟩:=hr
  exact .inr ⟨id,b,rfl,rfl,rfl,rfl,h1,h2⟩
 | _=>simp [D.fn?] at h
theorem zq8 {d:D} {f:FuncId} {x y:List D} (h:d.fnF?=some (f,x,y)) {v:Value} (hr:Rep ι j d v):isY f=false∧∃ vf vc,v=.func (.func f) ⟨vf⟩ ⟨vc⟩∧aI ι j x vf∧aI ι j y vc:=by
 cases d with
 | fn g a b =>
  cases g with
  | func g =>
   simp only [D.fnF?] at h
   obtain ⟨h0,h⟩:=aJ' h
   simp only [Option.some.injEq,Prod.mk.injEq] at h
   obtain ⟨rfl,rfl,rfl⟩:=h
   exact ⟨h0,by simpa only [Rep] using hr⟩
  | _=>simp [D.fnF?] at h
 | _=>simp [D.fnF?] at h
theorem zkh (hG:GSim ι j own σ w) (hL:LSim ι j own lb N e a w) {o:Oper} {f:Operand} {f':AOpd} {as:Array Operand} {ts:Array TypeId} {as':List AOpd} {c:Cell} {g:FuncId} {x y ds:List D} (ho:o.op=.defer {callee:=.value f,args:=as,argTypes:=ts})
  (hd:∀ s,o.dst=some s→s < N) (hk:aH f f'=true) (hk1:lQ as.toList as'=true) (h1:opd e f'=some c) (h2:c.d.fnF?=some (g,x,y)) (h3:jC e as'=some ds) :
  Did P N ι j own w o a (Env.put {e with defers:=(g,x ++ ds ++ y) :: e.defers} o.dst ⟨false,.undef⟩) σ:=by
 obtain ⟨hY,vf,vc,hv,r1,r2⟩:=zq8 h2 (aP hL hk h1)
 have hr:=mR hL hk1 h3
 refine ⟨.defer {target:=.fn (.func g) ⟨vc⟩,args:=⟨vf⟩ ++ as.map a.eval},w,_,?_,.inr (.inr ⟨_,rfl,rfl⟩),ι,j,own,lb,hG,?_,Evo.refl _ _ _ _ _⟩
 ·simp only [execOp,ho,resolve,hv,Deferred.ofValue,Sem.run_bind,Sem.run_pure,Result.andThen_ok]
 ·have hL':LSim ι j own lb N {e with defers:=(g,x ++ ds ++ y) :: e.defers} ({a with defers:={target:=.fn (.func g) ⟨vc⟩,args:=⟨vf⟩ ++ as.map a.eval} :: a.defers}:Go.Act) w :=
   {size:=hL.size,slots:=hL.slots,locs:=hL.locs,boxes:=hL.boxes,defers:=by
     simp only [oI]
     refine ⟨_,_,rfl,hL.defers,?_⟩
     rw [if_neg (by rw [hY]; simp)]
     refine ⟨⟨vc⟩,⟨vf⟩ ++ as.map a.eval,rfl,?_⟩
     have:=(r1.append hr).append r2
     simpa using this}
  cases hds:o.dst with
  | none=>exact hL'
  | some s=>exact hL'.putC (hd s hds) ⟨by simp only [Rep],fun h=>by cases h⟩
theorem zy3 {t:TypeId} (h:yP P t=some .u8):P.underlying t=some (.int .u8):=by
 unfold yP at h
 split at h
 ·rename_i k hk
  simp only [Option.some.injEq] at h
  rw [hk,h]
 ·cases h
theorem Yb (hG:GSim ι j own σ w) (hL:LSim ι j own lb N e a w) {o:Oper} {t u:TypeId} {k:RowK} {x:Operand} {y:AOpd} {c:Cell} {s:List UInt8} (ho:o.op=.convert u t x) (hd:∀ s,o.dst=some s→s < N) (hk:aH x y=true)
  (hu:P.underlying u=some .string) (ht:P.underlying t=some (.slice k.el)) (he:P.underlying k.el=some (.int .u8)) (hk1:k.sz=1) (hc:opd e y=some c) (hs:c.d.str?=some s) (hb:s.length≤bG) :
  Did P N ι j own w o a (e.put o.dst ⟨false,.list k (cT s)⟩) σ:=by
 have hx:=Ed hs (aP hL hk hc)
 have hrun:=run_bytes_of_string (P:=P) w u t k.el ⟨⟨s⟩⟩ hu ht he
 have hsz:(⟨⟨s⟩⟩:ByteArray).size=s.length:=rfl
 rw [hsz] at hrun
 generalize hcap:grownCap w s.length 0 k.el=cap at hrun
 have hb':s.length≤1099511627776:=hb
 have hge:s.length≤cap:=hcap ▸ grownCap_ge w _ 0 k.el
 have hle:cap≤maxLen:=hcap ▸ grownCap_le_maxLen w _ 0 k.el (by simp only [maxLen]; omega)
 generalize hcur:bytesRow ⟨⟨s⟩⟩ cap=cur at hrun
 generalize hfr:(cur.size,cur.size + 1)=fr at hrun
 have hat:∀ (n:Nat) (y:Value),(s.map fun b=>Value.int .u8 b.toNat)[n]?=some y→cur[n]?=some y:=by
  intro n y hn
  have hlt:=(List.getElem?_eq_some_iff.1 hn).1
  rw [← hcur]
  unfold bytesRow
  rw [Array.getElem?_append_left (by simpa using hlt)]
  simpa using hn
 generalize hw':w.drew.alloc (.cells cur k.el fr)=w' at hrun
 have hnew:w'.heap[w.heap.size]?=some (.cells cur k.el fr):=hw' ▸ heap_alloc_new w.drew _
 have hold:∀ b,b < w.heap.size→w'.heap[b]?=w.heap[b]?:=fun b hb=>hw' ▸ heap_alloc_old w.drew _ hb
 have hsize:w.heap.size≤w'.heap.size:=Nat.le_of_lt (Array.getElem?_eq_some_iff.1 hnew).1
 have hE:Evo ι j own w (iJ ι w.heap.size 0 s.length (fun o=>(s.map fun b=>Value.int .u8 b.toNat)[o]?)) j own w' (fun _=>False):=by
  refine ⟨by rw [← hw']; rfl,by rw [← hw']; rfl,by rw [← hw']; rfl,hsize,fun b o v h=>?_,fun _ _ h=>h,fun b hb _=>⟨hold b hb,rfl,fun o=>if_neg (by omega)⟩⟩
  have:=pU hG h
  unfold iJ
  rw [if_neg (by omega)]
  exact h
 have hG':GSim (iJ ι w.heap.size 0 s.length (fun o=>(s.map fun b=>Value.int .u8 b.toNat)[o]?)) j own σ w':=by
  refine hG.evo hE (fun b o v h=>?_) (fun b u h hu o=>?_) (fun b u h=>Nat.lt_of_lt_of_le (hG.ownlt b u h) hsize) hG.jlt (fun _ _ _=>⟨fun h=>h,fun _ _ _ _ h=>h⟩) (fun _ _ _ h=>h)
  ·unfold iJ at h
   by_cases hcnd:b=w.heap.size∧0≤o∧o < s.length
   ·rw [if_pos hcnd] at h
    obtain ⟨rfl,_,ho⟩:=hcnd
    rw [cell_of_row w' _ o cur k.el fr hnew]
    exact hat o v h
   ·rw [if_neg hcnd] at h
    have hb:=pU hG h
    rw [World.cell?_of_block (w:=w) (w':=w') (a:=⟨b,o,none⟩) (hold b hb)]
    exact hG.holds b o v h
  ·have:=hG.ownlt b u h
   unfold iJ
   rw [if_neg (by omega)]
   exact hG.noimm b u h hu o
 refine ⟨.value (.slice (some ⟨w.heap.size,0,none⟩) s.length cap),w',_,?_,.inl ⟨_,rfl,rfl⟩,_,j,own,lb,hG',?_,hE.weaken fun _ h=>h.elim⟩
 ·simp only [execOp,ho,hx,Sem.run_bind,hrun,Result.andThen_ok,Sem.run_pure]
 ·have hL':=hL.evo hE (fun _ _ _ _ h=>h) (fun _ _ _=>⟨fun h=>h,fun _ _ _ _ h=>h⟩)
  cases hds:o.dst with
  | none=>exact hL'
  | some d =>
   refine hL'.putC (hd d hds) ⟨?_,fun h=>by cases h⟩
   simp only [Rep]
   refine ⟨_,cap,by rw [rA],by rw [rA]; exact hge,hle,.inr ⟨w.heap.size,0,rfl,bO.of_vals (Et s) (fun x hx=>?_) fun n y hn=>?_⟩⟩
   ·obtain ⟨b,_,rfl⟩:=List.mem_map.1 hx
    rw [hk1]
    rfl
   ·rw [Fj] at hn
    have hlt:=(List.getElem?_eq_some_iff.1 hn).1
    rw [List.length_map] at hlt
    unfold iJ
    rw [if_pos ⟨rfl,by omega,by omega⟩,Nat.zero_add]
    exact hn
theorem zkk (hG:GSim ι j own σ w) (hL:LSim ι j own lb N e a w) {o:Oper} {t:TypeId} {x:Operand} {y:AOpd} {c:Cell} {s:List UInt8} (ho:o.op=.range t x) (hd:∀ s,o.dst=some s→s < N) (hk:aH x y=true) (ht:pE P t=true) (hc:opd e y=some c) (hs:c.d.str?=some s) :
  Did P N ι j own w o a (e.put o.dst ⟨false,.ptr σ.next 0⟩) {σ with oth:=(σ.next,.it s 0) :: σ.oth,next:=σ.next + 1}:=by
 have hx:=Ed hs (aP hL hk hc)
 refine oW hG hL hd (ob:=.stringIter ⟨⟨s⟩⟩ 0) (v:=.pointer (some ⟨w.heap.size,0,none⟩)) (fun ι' j' w' h=>h) ?_ (fun j' h=>by simp only [Rep]; exact ⟨_,h,rfl⟩)
 simp only [execOp,ho,hx,Instr.range,Sem.run_bind,run_underlying (sM ht),Result.andThen_ok,Sem.run_pure,run_newObj]
 rfl
theorem zpe (hG:GSim ι j own σ w) (hL:LSim ι j own lb N e a w) {o:Oper} {x:Operand} {y:AOpd} {id pos:Nat} {s:List UInt8} (ho:o.op=.next x true) (hd:∀ s,o.dst=some s→s < N) (hk:aH x y=true) (hp:eI e y=some (.ptr id 0)) (hi:aB σ.oth id=some (.it s pos)) :
  (pos < s.length→Did P N ι j own w o a (e.put o.dst ⟨false,.tup [.bool true,.int .i64 pos,.int .i32 (Utf8.decode ⟨⟨s⟩⟩ pos).1]⟩) {σ with oth:=aU σ.oth id (.it s (pos + (Utf8.decode ⟨⟨s⟩⟩ pos).2))}) ∧
  (¬ pos < s.length→Did P N ι j own w o a (e.put o.dst ⟨false,.tup [.bool false]⟩) σ):=by
 obtain ⟨B,hB,hx⟩:=kR hL hk hp
 obtain ⟨B',hB',hown,hheap⟩:=hG.oth id _ hi
 rw [hB] at hB'
 cases hB'
 have hheap:w.heap[B]?=some (.stringIter ⟨⟨s⟩⟩ pos):=hheap
 have hget:(getObj B).run P w=.ok (.stringIter ⟨⟨s⟩⟩ pos) w:=by simp [getObj,Sem.run,hheap]
 have hsz:(⟨⟨s⟩⟩:ByteArray).size=s.length:=rfl
 refine ⟨fun hlt=>?_,fun hge=>?_⟩
 ·obtain ⟨h4,h5⟩:=zhs hG (y:=.it s (pos + (Utf8.decode ⟨⟨s⟩⟩ pos).2)) (ob:=.stringIter ⟨⟨s⟩⟩ (pos + (Utf8.decode ⟨⟨s⟩⟩ pos).2)) hi hB hown (fun w' h=>h) rfl
  generalize hw':({w with heap:=w.heap.setIfInBounds B (.stringIter ⟨⟨s⟩⟩ (pos + (Utf8.decode ⟨⟨s⟩⟩ pos).2))}:World)=w' at h4 h5
  refine ⟨.value (.tuple #[.bool true,.int .i64 pos,.int .i32 (Utf8.decode ⟨⟨s⟩⟩ pos).1]),w',_,?_,.inl ⟨_,rfl,rfl⟩,ι,j,own,lb,h4,?_,h5.weaken fun _ _=>trivial⟩
  ·have hset:(setObj B (.stringIter ⟨⟨s⟩⟩ (pos + (Utf8.decode ⟨⟨s⟩⟩ pos).2))).run P w=.ok () w':=by
    simp [setObj,Sem.run,hheap,hw']
   simp only [execOp,ho,hx,Instr.next,Sem.run_bind,hget,Result.andThen_ok,hsz,if_pos hlt,hset,Sem.run_pure,goInt]
  ·have hL':=hL.evo h5 (fun _ _ _ _ h=>by cases h) (fun _ _ _=>⟨(fun h=>by cases h),(fun _ _ _ _ h=>by cases h)⟩)
   cases hds:o.dst with
   | none=>exact hL'
   | some d=>exact hL'.putC (hd d hds) ⟨by simp [Rep,aI],fun h=>by cases h⟩
 ·refine ⟨.value (.tuple #[.bool false]),w,_,?_,.inl ⟨_,rfl,rfl⟩,ι,j,own,lb,hG,?_,Evo.refl _ _ _ _ _⟩
  ·simp only [execOp,ho,hx,Instr.next,Sem.run_bind,hget,Result.andThen_ok,hsz,if_neg hge,Sem.run_pure]
  ·cases hds:o.dst with
   | none=>exact hL
   | some d=>exact hL.putC (hd d hds) ⟨by simp [Rep,aI],fun h=>by cases h⟩
theorem zlo {o:Oper} {e1 e2:Env} {σ':Store} (h:Did P N ι j own w o a e1 σ') (h1:∀ s c,aB e2.slots s=some c→aB e1.slots s=some c) (h2:∀ s p,aB e2.locs s=some p→aB e1.locs s=some p) (h3:∀ s cs,aB e2.boxes s=some cs→aB e1.boxes s=some cs) (h4:e2.defers=e1.defers):Did P N ι j own w o a e2 σ':=by
 obtain ⟨nx,w',a',k1,k2,ι',j',own',lb',k3,k4,k5⟩:=h
 exact ⟨nx,w',a',k1,k2,ι',j',own',lb',k3,k4.sub (fun s c h=>⟨c,h1 s c h,rfl,fun h=>h⟩) h2 (fun s cs h=>⟨cs,h3 s cs h,fJ.refl cs⟩) h4,k5⟩
theorem Ep {s:Nat} {cs:List Cell} (hf:jK e.locs s=true):(∀ t c,aB (Env.putV {e with boxes:=aU e.boxes s cs} (some s) (.l s 0)).slots t=some c→aB (e.box s cs).slots t=some c)∧∀ t p,aB (Env.putV {e with boxes:=aU e.boxes s cs} (some s) (.l s 0)).locs t=some p→aB (e.box s cs).locs t=some p:=by
 refine ⟨fun t c h=>h,fun t p h=>?_⟩
 obtain ⟨b,o⟩:=p
 simp only [Env.putV,Env.box,aT] at h ⊢
 split
 ·rename_i hs; rw [if_pos hs] at h; exact h
 ·rename_i hs
  rw [if_neg hs] at h
  exact Ia _ _ _ _ _ h ((mJ.1 hf).2 t b o h)
theorem zgi (hG:GSim ι j own σ w) (hL:LSim ι j own lb N e a w) {o:Oper} {o':AOp} (hk:eW P o o'=true) (hd:∀ s,o.dst=some s→s < N) {e':Env} {σ':Store} (h:aS o.dst o' e σ=some (e',σ')) :
  Did P N ι j own w o a e' σ':=by
 have value:okV P o.op o'=true→(∀ v,aK o' e σ=some v→e'=(iI o' e).putV o.dst v→σ'=iC o' e σ→Did P N ι j own w o a e' σ'):=by
  rintro hv v hev rfl rfl
  cases hp:Dv o' with
  | true=>exact zpf hG hL hv hd hp hev
  | false =>
   cases o' <;> simp only [Dv,Bool.true_eq_false,Bool.not_eq_false'] at hp
   ·exact zvw hG hL hv hd hev
   ·subst hp
    generalize ho:o.op=op at hv
    cases op <;> first
     | (simp only [okV,Bool.and_eq_true] at hv; exact Qq hG hL ho hv.1 hv.2 hd hev)
     | (simp [okV] at hv)
   ·subst hp
    generalize ho:o.op=op at hv
    cases op <;> first
     | (simp only [okV,Bool.and_eq_true] at hv
        rename_i k y t x
        have hev':=Vr hev
        have e1:iI (.loadL k true y) e=iI (.load k true y) e:=rfl
        have e2:iC (.loadL k true y) e σ=iC (.load k true y) e σ:=by
         simp only [aK] at hev
         obtain ⟨p,hp,hev⟩:=aA hev
         cases p with
         | ptr id off=>cases hev
         | loc b off=>simp only [iC,hp,aF]
         | eptr d=>simp only [iC,hp,aF]
        rw [e1,e2]
        exact Qq hG hL ho hv.1 hv.2 hd hev')
     | (simp [okV] at hv)
 cases o' with
 | alloc z =>
  simp only [eW,Bool.and_eq_true] at hk
  obtain ⟨s,hs⟩:=Option.isSome_iff_exists.1 hk.1
  have hk:=hk.2
  split at hk
  ·rename_i t ho
   obtain ⟨zs,h1,h2⟩:=sJ hk
   simp only [aS,hs,aC,aF,Option.some.injEq,Prod.mk.injEq] at h
   obtain ⟨rfl,rfl⟩:=h
   exact Xy hG hL ho hs (hd s hs) h1 h2
  ·cases hk
 | box y =>
  simp only [eW,Bool.and_eq_true] at hk
  obtain ⟨s,hs⟩:=Option.isSome_iff_exists.1 hk.1
  have hk:=hk.2
  split at hk
  ·rename_i t x ho
   simp only [aS,hs,aC,aF] at h
   obtain ⟨c,h1,h⟩:=aA h
   obtain ⟨h2,h⟩:=aJ h
   cases h
   exact zie hG hL ho hs (hd s hs) hk h1 h2
  ·cases hk
 | allocN s z =>
  simp only [eW,Bool.and_eq_true,beq_iff_eq] at hk
  obtain ⟨hs,hk⟩:=hk
  split at hk
  ·rename_i t ho
   obtain ⟨zs,h1,h2⟩:=sJ hk
   simp only [aS,hs] at h
   obtain ⟨hf,h⟩:=aJ h
   cases h
   exact zlo (Xy hG hL ho hs (hd s hs) h1 h2) (Ep hf).1 (Ep hf).2 (fun _ _ h=>h) rfl
  ·cases hk
 | boxN s y =>
  simp only [eW,Bool.and_eq_true,beq_iff_eq] at hk
  obtain ⟨hs,hk⟩:=hk
  split at hk
  ·rename_i t x ho
   simp only [aS,hs] at h
   obtain ⟨c,h1,h⟩:=aA h
   obtain ⟨h2,h⟩:=aJ h
   cases h
   simp only [Bool.and_eq_true] at h2
   exact zlo (zie hG hL ho hs (hd s hs) hk h1 h2.2) (Ep h2.1).1 (Ep h2.1).2 (fun _ _ h=>h) rfl
  ·cases hk
 | storeB b0 k x' y' =>
  simp only [eW] at hk
  split at hk
  ·rename_i t x y ho
   simp only [Bool.and_eq_true,beq_iff_eq] at hk
   obtain ⟨⟨k1,k2⟩,k3⟩:=hk
   simp only [aS] at h
   obtain ⟨p,h1,h⟩:=aA h
   obtain ⟨c,h2,h⟩:=aA h
   cases p with
   | loc b off =>
    obtain ⟨hb,h⟩:=aJ h
    simp only [beq_iff_eq] at hb
    subst hb
    obtain ⟨cs,h3,h⟩:=aA h
    obtain ⟨h4,h⟩:=aJ h
    cases h
    exact Il hG hL ho hd k1 k2 k3 h1 h2 h3 h4
   | ptr id off=>cases h
   | eptr d=>cases h
  ·cases hk
 | galloc t' z =>
  simp only [eW] at hk
  split at hk
  ·rename_i t ho
   simp only [Bool.and_eq_true,beq_iff_eq] at hk
   obtain ⟨hk,rfl⟩:=hk
   obtain ⟨zs,h1,h2⟩:=sJ hk
   simp only [aS,bF,eU,aC,aF,Option.some.injEq,Prod.mk.injEq] at h
   obtain ⟨rfl,rfl⟩:=h
   exact zkj hG hL ho hd h1 h2
  ·cases hk
 | gbox t' y =>
  simp only [eW] at hk
  split at hk
  ·rename_i t x ho
   simp only [Bool.and_eq_true,beq_iff_eq] at hk
   obtain ⟨hk,rfl⟩:=hk
   simp only [aS,bF,eU] at h
   obtain ⟨r,hr,h⟩:=aA h
   cases h
   obtain ⟨c,h1,hr⟩:=aA hr
   obtain ⟨h2,hr⟩:=aJ hr
   cases hr
   exact zso hG hL ho hd hk h1 h2
  ·cases hk
 | buildSlice sz qs =>
  simp only [eW,Bool.and_eq_true] at hk
  obtain ⟨s,hs⟩:=Option.isSome_iff_exists.1 hk.1
  have hk:=hk.2
  split at hk
  ·rename_i t len ps ho
   simp only [Bool.and_eq_true,beq_iff_eq] at hk
   obtain ⟨zs,k1,k2,k3,k4,k5⟩:=nL hk.2
   simp only [aS] at h
   obtain ⟨ds,h1,h⟩:=aA h
   obtain ⟨h2,h⟩:=aJ h
   cases h
   simp only [Bool.and_eq_true,decide_eq_true_eq] at h2
   obtain ⟨ke,ksz,kag⟩:=sz
   exact Xz hG hL ho hs (hd s hs) hk.1.1 hk.1.2 k1 k2 k3 k4 k5 h1 h2.1 h2.2
  ·cases hk
 | store k x' y' =>
  simp only [eW] at hk
  split at hk
  ·rename_i t x y ho
   simp only [Bool.and_eq_true,beq_iff_eq] at hk
   obtain ⟨⟨k1,k2⟩,k3⟩:=hk
   simp only [aS] at h
   obtain ⟨p,h1,h⟩:=aA h
   obtain ⟨c,h2,h⟩:=aA h
   cases p with
   | loc b off =>
    obtain ⟨cs,h3,h⟩:=aA h
    obtain ⟨h4,h⟩:=aJ h
    cases h
    exact Il hG hL ho hd k1 k2 k3 h1 h2 h3 h4
   | ptr id off =>
    obtain ⟨cs,h3,h⟩:=aA h
    obtain ⟨h4,h⟩:=aJ h
    cases h
    exact zcz hG hL ho hd k1 k2 k3 h1 h2 h3 h4
   | eptr d=>cases h
  ·cases hk
 | loadA k x' =>
  simp only [eW] at hk
  split at hk
  ·rename_i t x ho
   simp only [Bool.and_eq_true] at hk
   obtain ⟨k1,k2⟩:=hk
   simp only [aS] at h
   obtain ⟨p,h1,h⟩:=aA h
   split at h
   ·obtain ⟨cs,h3,h⟩:=aA h
    obtain ⟨h4,h⟩:=aJ h
    cases h
    exact zpc hG hL ho k1 k2 hd h1 h3 (by simpa using h4)
   ·cases h
  ·cases hk
 | storeA k x' y' =>
  simp only [eW] at hk
  split at hk
  ·rename_i t x y ho
   simp only [Bool.and_eq_true,beq_iff_eq] at hk
   obtain ⟨⟨k1,k2⟩,k3⟩:=hk
   simp only [aS] at h
   obtain ⟨p,h1,h⟩:=aA h
   obtain ⟨c,h2,h⟩:=aA h
   split at h
   ·obtain ⟨cs,h3,h⟩:=aA h
    obtain ⟨ds,h5,h⟩:=aA h
    obtain ⟨h4,h⟩:=aJ h
    cases h
    simp only [Bool.and_eq_true,beq_iff_eq] at h4
    have hds:c.d=.agg ds:=by
     cases hcd:c.d <;> rw [hcd] at h5 <;> simp only [D.agg?,reduceCtorEq,Option.some.injEq] at h5
     rw [h5]
    exact zkm hG hL ho hd k1 k2 k3 h1 h2 h3 hds h4.1 h4.2
   ·cases h
  ·cases hk
 | append sz by_ x' y' =>
  simp only [eW,Bool.and_eq_true] at hk
  obtain ⟨s,hs⟩:=Option.isSome_iff_exists.1 hk.1
  have hk:=hk.2
  split at hk
  ·rename_i x y t t' ho
   simp only [Bool.and_eq_true,beq_iff_eq] at hk
   obtain ⟨⟨⟨⟨rfl,k1⟩,k2⟩,k3⟩,k4⟩:=hk
   obtain ⟨zs,q1,q2,q3,q4,q5⟩:=nL k3
   have q6:kF P sz.el=some by_:=by
    unfold lW at k4
    rw [q1] at k4
    simpa using k4
   simp only [aS] at h
   obtain ⟨c,h1,h⟩:=aA h
   obtain ⟨d,h2,h⟩:=aA h
   obtain ⟨ys,h2b,h⟩:=aA h
   obtain ⟨r,h3,h⟩:=aA h
   cases h
   obtain ⟨ke,ksz,kag⟩:=sz
   exact zkd hG hL ho hs (hd s hs) k1 k2 q1 q2 q3 q4 q5 q6 h1 h2 (zch h2b) h3
  ·cases hk
 | strToBytes k y =>
  simp only [eW] at hk
  split at hk
  ·rename_i u t x ho
   simp only [Bool.and_eq_true,beq_iff_eq] at hk
   obtain ⟨⟨⟨⟨k1,k2⟩,k3⟩,k4⟩,k5⟩:=hk
   simp only [aS] at h
   obtain ⟨c,h1,h⟩:=aA h
   obtain ⟨str,h2,h⟩:=aA h
   obtain ⟨h3,h⟩:=aJ h
   cases h
   exact Yb hG hL ho hd k1 (sM k2) (iD k3) (zy3 k4) k5 h1 h2 (of_decide_eq_true h3)
  ·cases hk
 | rangeS y =>
  simp only [eW] at hk
  split at hk
  ·rename_i t x ho
   simp only [Bool.and_eq_true] at hk
   simp only [aS] at h
   obtain ⟨c,h1,h⟩:=aA h
   obtain ⟨str,h2,h⟩:=aA h
   cases h
   exact zkk hG hL ho hd hk.1 hk.2 h1 h2
  ·cases hk
 | nextS y =>
  simp only [eW] at hk
  split at hk
  ·rename_i x ho
   simp only [aS] at h
   obtain ⟨p,h1,h⟩:=aA h
   cases p with
   | ptr id off =>
    cases off with
    | zero =>
     obtain ⟨it,h2,h⟩:=aA h
     cases it with
     | map es cl=>cases h
     | loop r=>cases h
     | dfr=>cases h
     | it str pos =>
     simp only at h
     obtain ⟨k1,k2⟩:=zpe hG hL ho hd hk h1 h2
     by_cases hlt:pos < str.length
     ·simp only [hlt,decide_true,aE,Option.some.injEq,Prod.mk.injEq] at h
      obtain ⟨rfl,rfl⟩:=h
      exact k1 hlt
     ·simp only [hlt,decide_false,aG,Option.some.injEq,Prod.mk.injEq] at h
      obtain ⟨rfl,rfl⟩:=h
      exact k2 hlt
    | succ n=>cases h
   | loc b off=>cases h
   | eptr d=>cases h
  ·cases hk
 | appendS sz by_ x' y' =>
  simp only [eW,Bool.and_eq_true] at hk
  obtain ⟨s,hs⟩:=Option.isSome_iff_exists.1 hk.1
  have hk:=hk.2
  split at hk
  ·rename_i x y t t' ho
   simp only [Bool.and_eq_true,beq_iff_eq] at hk
   obtain ⟨⟨⟨⟨⟨k0,k1⟩,k2⟩,k3⟩,k3b⟩,k4⟩:=hk
   obtain ⟨zs,q1,q2,q3,q4,q5⟩:=nL k3
   have q6:kF P sz.el=some by_:=by
    unfold lW at k4
    rw [q1] at k4
    simpa using k4
   simp only [aS] at h
   obtain ⟨c,h1,h⟩:=aA h
   obtain ⟨d,h2,h⟩:=aA h
   obtain ⟨str,h3,h⟩:=aA h
   obtain ⟨r,h4,h⟩:=aA h
   cases h
   have hds:d.d=.str str:=by
    cases hdd:d.d <;> rw [hdd] at h3 <;> simp only [D.str?,reduceCtorEq,Option.some.injEq] at h3
    rw [h3]
   obtain ⟨ke,ks,kag⟩:=sz
   simp only at k3b
   subst k3b
   exact zic hG hL ho hs (hd s hs) k1 k2 q1 q2 q3 q4 q6 (sM k0) h1 h2 hds h4
  ·cases hk
 | slice3 sz x' lo' hi' mx' =>
  simp only [eW] at hk
  split at hk
  ·rename_i t x lo hi mx ho
   simp only [Bool.and_eq_true] at hk
   obtain ⟨⟨⟨⟨k1,k2⟩,k3⟩,k4⟩,k5⟩:=hk
   obtain ⟨el,q1,q2⟩:=Ao k5
   simp only [aS] at h
   obtain ⟨c,h1,h⟩:=aA h
   obtain ⟨l,h2,h⟩:=aA h
   obtain ⟨ch,h3,h⟩:=aA h
   obtain ⟨hh,h4,h⟩:=aA h
   obtain ⟨cm,h5,h⟩:=aA h
   obtain ⟨m,h6,h⟩:=aA h
   obtain ⟨d,h7,h⟩:=aA h
   cases h
   obtain ⟨u,r1,r2,r3⟩:=zoz (w:=w) hL ho k1 k2 k3 k4 (iD q1) q2 h1 h2 h3 h4 h5 h6 h7
   exact zkl hG hL hd r1 r2 r3
  ·cases hk
 | storeP k x' y' =>
  simp only [eW] at hk
  split at hk
  ·rename_i t x y ho
   simp only [Bool.and_eq_true,beq_iff_eq] at hk
   obtain ⟨⟨k1,k2⟩,k3⟩:=hk
   simp only [aS,bF,eU] at h
   obtain ⟨r,hr,h⟩:=aA h
   cases h
   obtain ⟨p,h1,hr⟩:=aA hr
   obtain ⟨c,h2,hr⟩:=aA hr
   cases p with
   | loc b off=>cases hr
   | ptr id off =>
    obtain ⟨cs,h3,hr⟩:=aA hr
    obtain ⟨h4,hr⟩:=aJ hr
    cases hr
    exact zkn hG hL ho hd k1 k2 k3 h1 h2 h3 h4
   | eptr d=>cases hr
  ·cases hk
 | makeA k by_ z x' y' =>
  simp only [eW] at hk
  split at hk
  ·rename_i t x y ho
   simp only [Bool.and_eq_true] at hk
   obtain ⟨⟨⟨⟨k1,k2⟩,k3⟩,k4⟩,k5⟩:=hk
   obtain ⟨zs,q1,q2,q3,q4,q5⟩:=nL k3
   obtain ⟨zs',q3',k4⟩:=sJ k4
   rw [q3] at q3'
   cases q3'
   have q6:kF P k.el=some by_:=by
    unfold lW at k5
    rw [q1] at k5
    simpa using k5
   simp only [aS,bF,eU] at h
   obtain ⟨r,hr,h⟩:=aA h
   cases h
   obtain ⟨c,h1,hr⟩:=aA hr
   obtain ⟨l,h2,hr⟩:=aA hr
   obtain ⟨d,h3,hr⟩:=aA hr
   obtain ⟨l',h4,hr⟩:=aA hr
   obtain ⟨h5,hr⟩:=aJ hr
   cases hr
   simp only [Bool.and_eq_true,beq_iff_eq,decide_eq_true_eq] at h5
   obtain ⟨⟨rfl,h5⟩,h6⟩:=h5
   exact zpd hG hL ho hd k1 k2 q1 q2 q3 q4 q5 k4 q6 h1 h3 h2 h4 h5 h6
  ·cases hk
 | buildA k qs =>
  simp only [eW] at hk
  split at hk
  ·rename_i t len ps ho
   simp only [Bool.and_eq_true,beq_iff_eq] at hk
   obtain ⟨zs,k1,k2,k3,k4,k5⟩:=nL hk.2
   simp only [aS,bF,eU] at h
   obtain ⟨r,hr,h⟩:=aA h
   cases h
   obtain ⟨ds,h1,hr⟩:=aA hr
   obtain ⟨h2,hr⟩:=aJ hr
   cases hr
   simp only [Bool.and_eq_true,decide_eq_true_eq] at h2
   exact zke hG hL ho hd hk.1.1 hk.1.2 k1 k2 k3 k4 k5 h1 h2.1 h2.2
  ·cases hk
 | appendA k by_ x' y' =>
  simp only [eW] at hk
  split at hk
  ·rename_i x y t t' ho
   simp only [Bool.and_eq_true,beq_iff_eq] at hk
   obtain ⟨⟨⟨⟨rfl,k1⟩,k2⟩,k3⟩,k4⟩:=hk
   obtain ⟨zs,q1,q2,q3,q4,q5⟩:=nL k3
   have q6:kF P k.el=some by_:=by
    unfold lW at k4
    rw [q1] at k4
    simpa using k4
   simp only [aS,bF,eU] at h
   obtain ⟨r,hr,h⟩:=aA h
   cases h
   obtain ⟨c,h1,hr⟩:=aA hr
   obtain ⟨d,h2,hr⟩:=aA hr
   obtain ⟨ys,h3,hr⟩:=aA hr
   exact Nw hG hL ho hd k1 k2 q1 q2 q3 q4 q5 q6 h1 h2 h3 hr
  ·cases hk
 | appendW ws k by_ x' y' =>
  simp only [eW] at hk
  split at hk
  ·rename_i x y t t' ho
   simp only [Bool.and_eq_true,beq_iff_eq] at hk
   obtain ⟨⟨⟨⟨rfl,k1⟩,k2⟩,k3⟩,k4⟩:=hk
   obtain ⟨zs,q1,q2,q3,q4,q5⟩:=nL k3
   have q6:kF P k.el=some by_:=by
    unfold lW at k4
    rw [q1] at k4
    simpa using k4
   simp only [aS,bF,eU] at h
   obtain ⟨r,hr,h⟩:=aA h
   cases h
   obtain ⟨c,h1,hr⟩:=aA hr
   obtain ⟨d,h2,hr⟩:=aA hr
   obtain ⟨ys,h3,hr⟩:=aA hr
   exact Nw hG hL ho hd k1 k2 q1 q2 q3 q4 q5 q6 h1 h2 h3 hr
  ·cases hk
 | copyA sz x' y' =>
  simp only [eW] at hk
  split at hk
  ·rename_i x y t t' ho
   simp only [Bool.and_eq_true] at hk
   obtain ⟨⟨⟨k1,k2⟩,k3⟩,k4⟩:=hk
   obtain ⟨el,q1,q2⟩:=Ao k4
   obtain ⟨el',q3⟩:=Option.isSome_iff_exists.1 k3
   simp only [aS,bF,eU] at h
   obtain ⟨r,hr,h⟩:=aA h
   cases h
   obtain ⟨c,h1,hr⟩:=aA hr
   obtain ⟨d,h2,hr⟩:=aA hr
   obtain ⟨ys,h3,hr⟩:=aA hr
   obtain ⟨p,h4,hr⟩:=aA hr
   cases hr
   exact zo9 hG hL ho hd k1 k2 q1 q3 q2 h1 h2 h3 h4
  ·cases hk
 | clearA sz z x' =>
  simp only [eW] at hk
  split at hk
  ·rename_i x t ho
   simp only [Bool.and_eq_true] at hk
   obtain ⟨k1,k2⟩:=hk
   split at k2
   ·rename_i el hel
    simp only [Bool.and_eq_true,beq_iff_eq] at k2
    obtain ⟨k2,k3⟩:=k2
    obtain ⟨zs,q1,q2⟩:=sJ k3
    simp only [aS,bF,eU] at h
    obtain ⟨r,hr,h⟩:=aA h
    cases h
    obtain ⟨c,h1,hr⟩:=aA hr
    obtain ⟨σ1,h2,hr⟩:=aA hr
    cases hr
    exact zkf hG hL ho hd k1 hel k2 q1 q2 h1 h2
   ·cases k2
  ·cases hk
 | growZ k by_ z x' y' =>
  simp only [eW] at hk
  split at hk
  ·rename_i x y t t' ho
   simp only [Bool.and_eq_true,beq_iff_eq] at hk
   obtain ⟨⟨⟨⟨⟨k1,k2⟩,k3⟩,k4⟩,k5⟩,k6⟩:=hk
   simp only [aS] at h
   obtain ⟨c,h1,h⟩:=aA h
   split at h
   ·rename_i hcn
    obtain ⟨m,h2,h⟩:=aA h
    split at h
    ·rename_i mi hm
     obtain ⟨h3,h4⟩:=aJ h
     cases h4
     simp only [Bool.and_eq_true,decide_eq_true_eq] at h3
     obtain ⟨zs,q1,q2,q3,q4,q5⟩:=nL k3
     obtain ⟨zs',q3',k4⟩:=sJ k4
     rw [q3] at q3'
     cases q3'
     have q6:kF P k.el=some by_:=by
      unfold lW at k5
      rw [q1] at k5
      simpa using k5
     exact zpb hG hL ho hd k1 k2 q1 k6 q2 q3 q4 q5 q6 k4 h1 hcn h2 hm h3.1.1 h3.1.2 h3.2
    ·cases h
   ·cases h
  ·cases hk
 | capZ x' =>
  simp only [eW] at hk
  split at hk
  ·rename_i x t ho
   simp only [Bool.and_eq_true] at hk
   simp only [aS] at h
   obtain ⟨c,h1,h⟩:=aA h
   split at h
   ·rename_i hcn
    simp only [Option.some.injEq,Prod.mk.injEq] at h
    obtain ⟨rfl,rfl⟩:=h
    exact zsn hG hL ho hd hk.1 hk.2 h1 hcn
   ·cases h
  ·cases hk
 | cloneM x' =>
  simp only [eW] at hk
  split at hk
  ·rename_i g x ts ho
   simp only [Bool.and_eq_true] at hk
   simp only [aS] at h
   obtain ⟨c,h1,h⟩:=aA h
   obtain ⟨ob,dd⟩:=c
   cases dd <;> simp only [reduceCtorEq] at h
   rename_i tt d2
   cases d2 <;> simp only [reduceCtorEq] at h
   obtain ⟨x2,h2,h⟩:=aA h
   cases x2 <;> simp only [reduceCtorEq,Option.some.injEq,Prod.mk.injEq] at h
   obtain ⟨rfl,rfl⟩:=h
   exact zkg hG hL ho hk.1 hd hk.2 h1 h2
  ·cases hk
 | assertP t' x' =>
  simp only [eW] at hk
  split at hk
  ·rename_i x u t ho
   simp only [Bool.and_eq_true,beq_iff_eq] at hk
   obtain ⟨⟨rfl,k1⟩,k2⟩:=hk
   simp only [aS] at h
   obtain ⟨c,h1,h⟩:=aA h
   split at h
   ·rename_i t'' d hcd
    obtain ⟨h3,h4⟩:=aJ h
    cases h4
    have h3:=beq_iff_eq.1 h3
    rw [h3] at hcd
    exact zid hG hL ho hd k1 k2 h1 hcd
   ·cases h
  ·cases hk
 | makeMap =>
  simp only [aS,bF,eU,aC,aF,Option.some.injEq,Prod.mk.injEq] at h
  obtain ⟨rfl,rfl⟩:=h
  simp only [eW] at hk
  split at hk
  ·rename_i t ho
   exact zif hG hL ho hd
  ·rename_i t k n ho
   obtain ⟨⟨kt,el⟩,hm⟩:=Option.isSome_iff_exists.1 hk
   exact zcy hG hL ho (rM hm) hd
  ·cases hk
 | update ks x' i' y' =>
  have main:∀ {t:TypeId} {x i y:Operand},(o.op=.mapUpdate t x i y∨o.op=.insert t x i y)→(aH x x' && aH i i' && aH y y' && (match qK P t with | some (kt,_)=>pX P ks kt | none=>false))=true→Did P N ι j own w o a e' σ':=by
   intro t x i y ho hk
   simp only [Bool.and_eq_true] at hk
   obtain ⟨⟨⟨k1,k2⟩,k3⟩,k4⟩:=hk
   split at k4
   ·rename_i kt el hm
    simp only [aS,bF,eU] at h
    obtain ⟨r,hr,h⟩:=aA h
    cases h
    obtain ⟨c,h1,hr⟩:=aA hr
    obtain ⟨k,h2,hr⟩:=aA hr
    obtain ⟨v,h3,hr⟩:=aA hr
    obtain ⟨⟨id,es,cl⟩,h4,hr⟩:=aA hr
    obtain ⟨h5,hr⟩:=aJ hr
    obtain ⟨f,h6,hr⟩:=aA hr
    cases hr
    simp only [Bool.and_eq_true] at h5
    exact zko hG hL ho hd k1 k2 k3 hm k4 h1 h2 h3 h4 h5.1 h6
   ·cases k4
  simp only [eW] at hk
  split at hk
  ·rename_i t x i y ho
   exact main (.inl ho) hk
  ·rename_i t x i y ho
   exact main (.inr ho) hk
  ·cases hk
 | delete ks x' i' =>
  simp only [eW] at hk
  split at hk
  ·rename_i x i t tk ho
   simp only [Bool.and_eq_true] at hk
   obtain ⟨⟨k1,k2⟩,k4⟩:=hk
   split at k4
   ·rename_i kt el hm
    simp only [aS,bF,eU] at h
    obtain ⟨r,hr,h⟩:=aA h
    cases h
    obtain ⟨c,h1,hr⟩:=aA hr
    obtain ⟨k,h2,hr⟩:=aA hr
    obtain ⟨⟨id,es,cl⟩,h4,hr⟩:=aA hr
    obtain ⟨h5,hr⟩:=aJ hr
    obtain ⟨f,h6,hr⟩:=aA hr
    cases hr
    exact zki hG hL ho hd k1 k2 hm k4 h1 h2 h4 h5 h6
   ·cases k4
  ·cases hk
 | entry ks z x' i' =>
  simp only [eW] at hk
  split at hk
  ·rename_i t x i ho
   simp only [Bool.and_eq_true] at hk
   obtain ⟨⟨k1,k2⟩,k4⟩:=hk
   split at k4
   ·rename_i kt el hm
    simp only [Bool.and_eq_true] at k4
    obtain ⟨k4,k5⟩:=k4
    split at k5
    ·rename_i zv hz
     simp only [aS,bF,eU] at h
     obtain ⟨r,hr,h⟩:=aA h
     cases h
     obtain ⟨c,h1,hr⟩:=aA hr
     obtain ⟨k,h2,hr⟩:=aA hr
     obtain ⟨⟨id,es,cl⟩,h4,hr⟩:=aA hr
     obtain ⟨h5,hr⟩:=aJ hr
     obtain ⟨f,h6,hr⟩:=aA hr
     cases hr
     exact zpa hG hL ho hd k1 k2 hm k4 hz k5 h1 h2 h4 h5 h6
    ·cases k5
   ·cases k4
  ·cases hk
 | entryStore x' s' y' =>
  simp only [eW] at hk
  split at hk
  ·rename_i t x s y ho
   simp only [Bool.and_eq_true] at hk
   obtain ⟨⟨k1,k2⟩,k3⟩:=hk
   simp only [aS,bF,eU] at h
   obtain ⟨r,hr,h⟩:=aA h
   cases h
   obtain ⟨c,h1,hr⟩:=aA hr
   obtain ⟨b,h2,hr⟩:=aA hr
   obtain ⟨bn,h3,hr⟩:=aA hr
   obtain ⟨v,h4,hr⟩:=aA hr
   obtain ⟨⟨id,es,cl⟩,h5,hr⟩:=aA hr
   obtain ⟨h6,hr⟩:=aJ hr
   cases hr
   simp only [Bool.and_eq_true] at h6
   exact Ya hG hL ho hd k1 k2 k3 h1 h2 h3 h4 h5 h6.2
  ·cases hk
 | deferv f' as' =>
  simp only [eW] at hk
  split at hk
  ·rename_i f as ts ho
   simp only [Bool.and_eq_true] at hk
   simp only [aS] at h
   obtain ⟨c,h1,h⟩:=aA h
   obtain ⟨⟨g,x,y⟩,h2,h⟩:=aA h
   obtain ⟨ds,h3,h⟩:=aA h
   cases h
   exact zkh hG hL ho hd hk.1 hk.2 h1 h2 h3
  ·cases hk
 | call g as'=>simp only [aS,aK,aC,cC,reduceCtorEq] at h
 | callv g as'=>simp only [aS,aK,aC,cC,reduceCtorEq] at h
 | callW ws g as'=>simp only [aS,aK,aC,cC,reduceCtorEq] at h
 | callvW ws g as'=>simp only [aS,aK,aC,cC,reduceCtorEq] at h
 | panic y=>simp only [aS,aK,aC,cC,reduceCtorEq] at h
 | _ =>
  simp only [eW] at hk
  simp only [aS] at h
  obtain ⟨v,h1,h⟩:=aA h
  cases h
  exact value hk v h1 rfl rfl
theorem zin (hL:LSim ι j own lb N e a w) {ops:Array Oper} {o:Oper} {g:Option (Nat × Bool)} (hk:Df ops o.guard g=true) (hN:∀ i s b,o.guard=some (i,b)→((ops[i]?).bind (·.dst))=some s→s < N) {b:Bool} (h:nJ g e=some b) :
  Region.wanted o (yielded ops a.tmps)=b:=by
 unfold Region.wanted
 cases hg:o.guard with
 | none =>
  rw [hg] at hk
  cases g with
  | none=>simp only [nJ,Option.some.injEq] at h; subst h; rfl
  | some p=>simp [Df] at hk
 | some p =>
  obtain ⟨i,want⟩:=p
  rw [hg] at hk
  cases g with
  | none=>simp [Df] at hk
  | some q =>
   obtain ⟨s,want'⟩:=q
   simp only [Df,Bool.and_eq_true,beq_iff_eq] at hk
   obtain ⟨h1,rfl⟩:=hk
   have hdst:((ops[i]?).bind (·.dst))=some s:=by
    cases ho:ops[i]? with
    | none=>rw [ho] at h1; cases h1
    | some o=>rw [ho] at h1; simpa using h1
   have hlt:=hN i s want hg hdst
   simp only [nJ] at h
   obtain ⟨c,h2,h⟩:=aA h
   have hr:=(hL.slots s c h2).1
   have hget:a.tmps[s]?=some (a.tmps.getD s Go.undef):=by
    rw [Array.getD_eq_getD_getElem?,Array.getElem?_eq_getElem (by rw [hL.size]; exact hlt)]
    rfl
   simp only [yielded,hdst,Option.bind_some,hget]
   cases hb:c.d.bool? with
   | some t =>
    rw [hb] at h
    simp only [aF,Option.some.injEq] at h
    cases hd:c.d <;> rw [hd] at hb <;> simp only [D.bool?,reduceCtorEq,Option.some.injEq] at hb
    subst hb
    rw [hd] at hr
    simp only [Rep] at hr
    rw [hr]
    subst h
    simp
   | none =>
    rw [hb] at h
    simp only [cC] at h
    cases hd:c.d <;> rw [hd] at h <;> simp only [Oj,aE,aG,reduceCtorEq,Option.some.injEq] at h
    subst h
    rw [hd] at hr
    simp only [Rep] at hr
    rw [hr]
    rfl
end
end Go.Mx
