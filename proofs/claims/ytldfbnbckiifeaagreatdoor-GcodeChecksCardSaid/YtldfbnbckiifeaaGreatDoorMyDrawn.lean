/-
 Calls: what is said of one,and how a frame goes on behind it.
-/
import Derived.Conc.MuLone
import Derived.RangeFuncLeaves
import Derived.OrdersIn
import Derived.TacticsIn
import Derived.Test.YtldfbnbckiifeaaGreatDoorMyOpers
import Derived.Test.YtldfbnbckiifeaaGreatDoorMySwap
set_option linter.unusedSimpArgs false
set_option linter.unusedVariables false
set_option linter.unusedSectionVars false
namespace Go.Mx
open Go
def shared (own:Own):Own:=fun b=>match own b with
 | some t=>if t.isLocal=true then none else some t
 | none=>none
theorem zk0 {own:Own} {b:Nat} {t:Tag} (h:shared own b=some t):own b=some t∧t.isLocal=false:=by
 unfold shared at h
 cases ho:own b with
 | none=>rw [ho] at h; cases h
 | some u =>
  rw [ho] at h
  simp only at h
  by_cases hu:u.isLocal=true
  ·rw [if_pos hu] at h; cases h
  ·rw [if_neg hu] at h; cases h; exact ⟨rfl,by simpa using hu⟩
theorem zoc {own:Own} {b:Nat} {t:Tag} (h:own b=some t) (ht:t.isLocal=false):shared own b=some t:=by
 unfold shared
 rw [h]
 simp [ht]
def zeo (own:Own):Prop:=∀ b t,own b=some t→t.isLocal=false
theorem zdl (own:Own):zeo (shared own):=fun _ _ h=>(zk0 h).2
def zmxb (ι:Imm) (own0:Own) (w0:World) (own:Own) (w:World) (sz:RowK) (es:List D) (v:Value):Prop :=
 (∃ a,v=.slice a es.length es.length∧(sz.el=5→es=[]))∨∃ b cap cur T,v=.slice (some ⟨b,0,none⟩) es.length cap∧(w0.heap.size≤b∨(own0 b).isSome=true)∧own b=none ∧
   w.heap[b]?=some (.cells cur T (0,0))∧(T=sz.el∧cur.size=cap * sz.sz)∧∀ o,es.length * sz.sz≤o→ι b o=none
def Fresh (ι:Imm) (own0:Own) (w0:World) (own:Own) (w:World) (d:D) (v:Value):Prop:=match prin d v with
 | some p=>zmxb ι own0 w0 own w p.1 p.2.1 p.2.2
 | none=>True
def zb5 [LoopKit] (ι:Imm) (j:Lay) (own:Own) (w:World) (out:Out) (σ':Store) (e:Ending) (w':World):Prop :=
 ∃ ι' j' own',GSim ι' j' own' σ' w'∧Evo ι j own w ι' j' own' w' (fun _=>True)∧zeo own'∧match out,e with
  | .ret c,.returned v=>Rep ι' j' c.d v∧(c.own=true→Fresh ι' own w own' w' c.d v)
  | .panic d,.panicked chain=>∃ v,chain=[{v:=v,recovered:=false}]∧Rep ι' j' d v
  | _,_=>False
structure Ctx where
 n:Nat
 K:World→Prop
 stable:∀ w w',(∀ b,b < n→w'.heap[b]?=w.heap[b]?)→K w→K w'
structure Base (κ:Ctx) (own:Own) (w:World):Prop where
 size:κ.n≤w.heap.size
 free:∀ b,b < κ.n→own b=none
 K:κ.K w
theorem Base.evo {κ:Ctx} {ι ι':Imm} {j j':Lay} {own own':Own} {w w':World} {TT:Tag→Prop} (h:Base κ own w) (hE:Evo ι j own w ι' j' own' w' TT):Base κ own' w' where
 size:=Nat.le_trans h.size hE.size
 free:=fun b hb=>by
  have hn:=h.free b hb
  rw [(hE.block b (Nat.lt_of_lt_of_le hb h.size) (fun t k=>by rw [hn] at k; cases k)).2.1,hn]
 K:=κ.stable w w' (fun b hb=>(hE.block b (Nat.lt_of_lt_of_le hb h.size) (fun t k=>by rw [h.free b hb] at k; cases k)).1) h.K
theorem Base.shared {κ:Ctx} {own:Own} {w:World} (h:Base κ own w):Base κ (shared own) w where
 size:=h.size
 free:=fun b hb=>by
  unfold Go.Mx.shared
  rw [h.free b hb]
 K:=h.K
def zjg (P:Program) (f:FuncId):Prop:=∃ fn c,P.funcs[f]?=some fn∧(fn.name == "runtime.NumGoroutine")=false∧fn.body=some c
def FW (r:Option Nat):Fence:=match r with
 | none=>Fence.wide
 | some l=>Fence.wide.inRound l
theorem zuz (r:Option Nat):(FW r).round=r:=by cases r <;> rfl
theorem FW_fn (r:Option Nat) (f:FuncId):(FW r).fn f:=by cases r <;> exact trivial
theorem zpi (r:Option Nat):(FW r).depth.isSome=true→∀ {p:Prop},p:=fun h=>by cases r <;> cases h
theorem zqo {r:Option Nat} {n:Nat} {P:Program} {f:FuncId} {args:Array Value} {w:World} {R:Ending→World→Prop}:CallsIn (FW r) n P f args w R↔Calls P f args w R:=by
 cases r with
 | none=>exact callsIn_wide
 | some l=>exact (callsIn_wide:CallsIn Fence.wide n P f args w R↔_)
theorem zdlb {r:Option Nat} {n:Nat} {P:Program} {l:Nat} {f:FuncId} {tmps:Array Value} {assign body:Code} {w:World} {R:Ending→World→Prop} (h:RoundIn Fence.wide 0 P l f tmps assign body w R):RoundIn (FW r) n P l f tmps assign body w R:=by
 cases r with
 | none=>exact ⟨trivial,fun c cs _=>h.2 c cs (room_wide _)⟩
 | some _=>exact ⟨trivial,fun c cs _=>h.2 c cs (room_wide _)⟩
def zc9 [LoopKit] (P:Program) (κ:Ctx) (f:FuncId) (ds:List D) (σ:Store) (out:Out) (σ':Store):Prop :=
 if isY f=true then ∀ ι j own w vs b,zeo own→Base κ own w→GSim ι j own σ w→RepL ι j ds vs→j (f - zbl)=some b →
  ∃ fn tmps assign body,(Instr.yield b ⟨vs⟩).run P w=.ok (.round b fn tmps assign body) w∧RoundIn Fence.wide 0 P b fn tmps assign body w (zb5 ι j own w out σ')
 else zjg P f∧∀ ι j own w vs,zeo own→Base κ own w→GSim ι j own σ w→RepL ι j ds vs→Calls P f ⟨vs⟩ w (zb5 ι j own w out σ')
theorem zcq [LoopKit] {P:Program} {κ:Ctx} {f:FuncId} {ds:List D} {σ:Store} {out:Out} {σ':Store} (hY:isY f=false) :
  zc9 P κ f ds σ out σ'↔zjg P f∧∀ ι j own w vs,zeo own→Base κ own w→GSim ι j own σ w→RepL ι j ds vs→Calls P f ⟨vs⟩ w (zb5 ι j own w out σ'):=by
 unfold zc9
 rw [if_neg (by rw [hY]; simp)]
theorem za6b (id:Nat):isY (zbl + id)=true:=by
 unfold isY
 simp
def zjyb [LoopKit] (P:Program) (κ:Ctx) (f:FuncId) (ds:List D) (σ:Store) (out:Out) (σ':Store):Prop :=
 zjg P f∧∀ ι j own w vs u,zeo own→Base κ own w→GSim ι j own σ w→RepL ι j ds vs→CallsD P f ⟨vs⟩ u w fun e u' w'=>u'=u∧zb5 ι j own w out σ' e w'
section
variable [LoopKit] {P:Program} {ι ι':Imm} {j j':Lay} {own own':Own} {lb:Lay} {N:Nat} {e:Env} {a:Go.Act} {w w':World} {σ σ':Store}
theorem Owned.reown {t:Tag} {d:D} {v:Value} (h:∀ b,own b=some t→own' b=some t) (k:Owned ι own w t d v):Owned ι own' w t d v:=by
 unfold Owned at k ⊢
 cases hp:prin d v with
 | none=>trivial
 | some p =>
  rw [hp] at k
  rcases k with k | ⟨b,cap,cur,T,h1,h2,h3⟩
  ·exact .inl k
  ·exact .inr ⟨b,cap,cur,T,h1,h b h2,h3⟩
theorem zcw.reown {b:Nat} {mk:Nat→Tag} {cs:List Cell} (h:∀ i b,own b=some (mk i)→own' b=some (mk i)) (k:zcw ι j own w b mk cs):zcw ι j own' w b mk cs:=by
 obtain ⟨vs,T,h1,h2,h3⟩:=k
 refine ⟨vs,T,h1,h2,fun i c hi=>?_⟩
 obtain ⟨v,q1,q2,q3,q4⟩:=h3 i c hi
 exact ⟨v,q1,q2,q3,fun ho=>(q4 ho).reown (h i)⟩
theorem GSim.toShared (hG:GSim ι j own σ w):GSim ι j (shared own) σ w where
 holds:=hG.holds
 noimm:=fun b t h=>hG.noimm b t (zk0 h).1
 objs:=fun id cs h=>by
  obtain ⟨b,q1,q2,q3⟩:=hG.objs id cs h
  exact ⟨b,q1,zoc q2 rfl,q3.reown fun i b h=>zoc h rfl⟩
 tys:=hG.tys
 oth:=fun id x h=>by
  obtain ⟨b,q1,q2,q3⟩:=hG.oth id x h
  exact ⟨b,q1,zoc q2 rfl,q3⟩
 jlt:=hG.jlt
 ownlt:=fun b t h=>hG.ownlt b t (zk0 h).1
theorem zd7 {own1:Own} (hG:GSim ι j own σ w) (hL:LSim ι j own lb N e a w) (hG1:GSim ι' j' own1 σ' w') (hE:Evo ι j (shared own) w ι' j' own1 w' (fun _=>True)) (hS:zeo own1) (s:Nat) (mark:Bool) (d:D) (v:Value)
  (hF:mark=true→Fresh ι' (shared own) w own1 w' d v) :
  ∃ own2,GSim ι' j' own2 σ' w'∧LSim ι' j' own2 lb N e a w'∧Evo ι j own w ι' j' own2 w' (fun _=>True)∧(mark=true→Owned ι' own2 w' (.slot s) d v):=by
 classical
 -- the block that is marked
 obtain ⟨mb,hmb⟩:∃ mb:Option Nat,(∀ b,mb=some b→(w.heap.size≤b∨(shared own b).isSome=true)∧own1 b=none∧b < w'.heap.size) ∧
   (mark=true→∀ p,prin d v=some p→(∃ a,p.2.2=.slice a p.2.1.length p.2.1.length∧(p.1.el=5→p.2.1=[]))∨∃ b cap cur T,p.2.2=.slice (some ⟨b,0,none⟩) p.2.1.length cap∧mb=some b∧w'.heap[b]?=some (.cells cur T (0,0))∧(T=p.1.el∧cur.size=cap * p.1.sz)∧∀ o,p.2.1.length * p.1.sz≤o→ι' b o=none):=by
  cases mark with
  | false=>exact ⟨none,(fun _ h=>by cases h),(fun h=>by cases h)⟩
  | true =>
   have hF:=hF rfl
   unfold Fresh at hF
   cases hp:prin d v with
   | none=>exact ⟨none,(fun _ h=>by cases h),(fun _ p h=>by cases h)⟩
   | some p =>
    rw [hp] at hF
    rcases hF with hF | ⟨b,cap,cur,T,f1,f2,f3,f4,f5,f6⟩
    ·exact ⟨none,(fun _ h=>by cases h),(fun _ q h=>by cases h; exact .inl hF)⟩
    ·exact ⟨some b,(fun b' h=>by cases h; exact ⟨f2,f3,(Array.getElem?_eq_some_iff.1 f4).1⟩),(fun _ q h=>by cases h; exact .inr ⟨b,cap,cur,T,f1,rfl,f4,f5,f6⟩)⟩
 obtain ⟨hm1,hm2⟩:=hmb
 let loc:Nat→Prop:=fun b=>∃ t,own b=some t∧t.isLocal=true
 let own2:Own:=fun b=>if loc b then own b else if mb=some b then some (.slot s) else own1 b
 have hloc:∀ b,loc b→own1 b=none∧w'.heap[b]?=w.heap[b]?∧(∀ o,ι' b o=ι b o)∧b < w.heap.size∧shared own b=none:=by
  rintro b ⟨t,ht,htl⟩
  have hlt:=hG.ownlt b t ht
  have hsn:shared own b=none:=by
   unfold shared
   rw [ht]
   simp [htl]
  obtain ⟨k1,k2,k3⟩:=hE.block b hlt (fun t h=>by rw [hsn] at h; cases h)
  exact ⟨k2.trans hsn,k1,k3,hlt,hsn⟩
 have hnm:∀ b,loc b→mb≠some b:=by
  intro b hb h
  obtain ⟨k1,_,_⟩:=hm1 b h
  obtain ⟨_,_,_,q1,q2⟩:=hloc b hb
  rcases k1 with k1 | k1
  ·omega
  ·rw [q2] at k1; cases k1
 -- the shared marks stand
 have hsh:∀ b t,own1 b=some t→own2 b=some t:=by
  intro b t h
  by_cases hb:loc b
  ·rw [(hloc b hb).1] at h; cases h
  ·have hne:mb≠some b:=fun hm=>by rw [(hm1 b hm).2.1] at h; cases h
   simp only [own2,if_neg hb,if_neg hne]
   exact h
 have hE2:Evo ι j own w ι' j' own2 w' (fun t=>t.isLocal=false):=by
  refine ⟨hE.os,hE.tape,hE.output,hE.size,hE.imm,hE.lay,fun b hb ht=>?_⟩
  have hsn:shared own b=none:=by
   unfold shared
   cases ho:own b with
   | none=>rfl
   | some t =>
    have:t.isLocal=true:=by simpa using ht t ho
    simp [this]
  obtain ⟨k1,k2,k3⟩:=hE.block b hb (fun t h=>by rw [hsn] at h; cases h)
  refine ⟨k1,?_,k3⟩
  by_cases hl:loc b
  ·simp only [own2,if_pos hl]
  ·have hn:own b=none:=by
    cases ho:own b with
    | none=>rfl
    | some t=>exact absurd ⟨t,ho,by simpa using ht t ho⟩ hl
   have hne:mb≠some b:=fun hm=>by
    rcases (hm1 b hm).1 with q | q
    ·omega
    ·rw [hsn] at q; cases q
   simp only [own2,if_neg hl,if_neg hne,hn]
   exact k2.trans hsn
 have hG2:GSim ι' j' own2 σ' w':=by
  refine ⟨hG1.holds,fun b t h hu o=>?_,fun id cs h=>?_,hG1.tys,fun id x h=>?_,hG1.jlt,fun b t h=>?_⟩
  ·by_cases hb:loc b
   ·simp only [own2,if_pos hb] at h
    rw [(hloc b hb).2.2.1 o]
    exact hG.noimm b t h hu o
   ·by_cases hm:mb=some b
    ·simp only [own2,if_neg hb,if_pos hm,Option.some.injEq] at h
     subst h
     cases hu
    ·simp only [own2,if_neg hb,if_neg hm] at h
     exact hG1.noimm b t h hu o
  ·obtain ⟨b,q1,q2,q3⟩:=hG1.objs id cs h
   exact ⟨b,q1,hsh b _ q2,q3.reown fun i b h=>hsh b _ h⟩
  ·obtain ⟨b,q1,q2,q3⟩:=hG1.oth id x h
   exact ⟨b,q1,hsh b _ q2,q3⟩
  ·by_cases hb:loc b
   ·exact Nat.lt_of_lt_of_le (hloc b hb).2.2.2.1 hE.size
   ·by_cases hm:mb=some b
    ·exact (hm1 b hm).2.2
    ·simp only [own2,if_neg hb,if_neg hm] at h
     exact hG1.ownlt b t h
 refine ⟨own2,hG2,hL.evo hE2 (fun _ _ _ _ h=>by cases h) (fun _ _ _=>⟨(fun h=>by cases h),(fun _ _ _ _ h=>by cases h)⟩),hE2.weaken fun _ _=>trivial,fun hmk=>?_⟩
 have:=hm2 hmk
 unfold Owned
 cases hp:prin d v with
 | none=>trivial
 | some p =>
  rcases this p hp with this | ⟨b,cap,cur,T,f1,f2,f3,f4,f5⟩
  ·exact .inl this
  ·have hnl:¬ loc b:=fun h=>hnm b h f2
   refine .inr ⟨b,cap,cur,T,f1,?_,f3,f4,f5⟩
   simp only [own2,if_neg hnl,if_pos f2]
def St (ι0:Imm) (j0:Lay) (own0:Own) (w0:World) (N:Nat) (e:Env) (σ:Store) (a:Go.Act) (w:World):Prop :=
 ∃ ι j own lb,GSim ι j own σ w∧LSim ι j own lb N e a w∧Evo ι0 j0 own0 w0 ι j own w (fun _=>True)
theorem LSim.bare (hL:LSim ι j own lb N e a w):LSim ι j own lb N e.bare a w :=
 hL.sub (fun s c h=>by simp [Env.bare,zb3] at h) (fun s p h=>by simp [Env.bare,zb3] at h) (fun s cs h=>by simp [Env.bare,zb3] at h) rfl
def StP (ι0:Imm) (j0:Lay) (own0:Own) (w0:World) (N:Nat) (d:D) (chain:List PanicEntry) (e:Env) (σ:Store) (a:Go.Act) (w:World):Prop :=
 ∃ ι j own lb,GSim ι j own σ w∧LSim ι j own lb N e a w∧Evo ι0 j0 own0 w0 ι j own w (fun _=>True)∧∃ v,chain=[{v:=v,recovered:=false}]∧Rep ι j d v
variable {ι0:Imm} {j0:Lay} {own0:Own} {w0:World} {κ:Ctx}
def zc1 (P:Program) (κ:Ctx) (C:CallF):Prop:=∀ f ds σ out σ',C f ds σ=some (out,σ')→zc9 P κ f ds σ out σ'
def zws (P:Program) (r:Option Nat) (ops:Array Oper) (o:Oper) (Q:Exit→Go.Act→World→Prop) (K:Go.Act→World→Prop) (a:Go.Act) (w:World):Prop :=
 if Region.wanted o (yielded ops a.tmps) then o.wpIn (FW r) 0 P a w K Q else (∀ f,o.about P w a.eval=some f→(FW r).fn f)∧K (a.put o.dst undef) w
def zhkb (ι0:Imm) (j0:Lay) (own0:Own) (w0:World) (N:Nat) (C:CallF) (o':AOper) (e:Env) (σ:Store) (Q:Exit→Go.Act→World→Prop) (K:Go.Act→World→Prop):Step→Prop
 | .next e' σ'=>∀ a' w',St ι0 j0 own0 w0 N e' σ' a' w'→K a' w'
 | .call f as=>∃ out σ',C f as σ=some (out,σ')∧match out with
  | .ret c=>∀ a' w',St ι0 j0 own0 w0 N (e.put o'.dst c) σ' a' w'→K a' w'
  | .panic d=>∀ a' w' chain,StP ι0 j0 own0 w0 N d chain e σ' a' w'→Q (.panic chain) a' w'
 | .panic d=>∀ a' w' chain,StP ι0 j0 own0 w0 N d chain e σ a' w'→Q (.panic chain) a' w'
theorem zjcb {o:Oper} {f:Operand} {as:Array Operand} {ts:Array TypeId} {g:FuncId} {vf vc:List Value} (ho:o.op=.call {callee:=.value f,args:=as,argTypes:=ts}) (hb:zjg P g) (hv:a.eval f=.func (.func g) ⟨vf⟩ ⟨vc⟩) :
  (execOp a.eval o).run P w=.ok (.enter g (⟨vf ++ as.toList.map a.eval ++ vc⟩)) w:=by
 obtain ⟨fn,c,h1,h2,h3⟩:=hb
 have harr:(⟨vf⟩:Array Value) ++ as.map a.eval ++ ⟨vc⟩=⟨vf ++ as.toList.map a.eval ++ vc⟩:=by
  apply Array.ext'
  simp
 simp only [execOp,ho,resolve,hv,Deferred.ofValue,Sem.run_bind,Sem.run_pure,Result.andThen_ok,invoke,harr]
 exact MuLone.run_callFunc_enter h1 h2 h3 _ w
theorem zl7b {o:Oper} {f:Operand} {as:Array Operand} {ts:Array TypeId} {b:Nat} {n:Next} {w':World} (ho:o.op=.call {callee:=.value f,args:=as,argTypes:=ts}) (hv:a.eval f=.func (.yield b) ⟨[]⟩ ⟨[]⟩) (hy:(Instr.yield b ⟨as.toList.map a.eval⟩).run P w=.ok n w') :
  (execOp a.eval o).run P w=.ok n w':=by
 have harr:(⟨[]⟩:Array Value) ++ as.map a.eval ++ ⟨[]⟩=⟨as.toList.map a.eval⟩:=by
  apply Array.ext'
  simp
 have harr':(⟨[]⟩:Array Value) ++ as.map a.eval=⟨as.toList.map a.eval⟩:=by
  apply Array.ext'
  simp
 simp only [execOp,ho,resolve,hv,Deferred.ofValue,Sem.run_bind,Sem.run_pure,Result.andThen_ok,invoke,harr,harr',hy]
theorem zmm {r:Option Nat} {ρ:Operand→Value} {o:Oper} (h:r=none∨∀ c,o.op≠.defer c):Oper.semAt (FW r).round ρ o=execOp ρ o:=by
 rw [zuz]
 cases r with
 | none=>exact Oper.semAt_none ρ o
 | some l=>exact Oper.semAt_some l ρ o (h.resolve_left (by simp))
theorem op_wp {r:Option Nat} {C:CallF} (hC:zc1 P κ C) (hB:Base κ own0 w0) {ops:Array Oper} (hops:∀ (i:Nat) (o:Oper) (s:Nat),ops[i]?=some o→o.dst=some s→s < N) {o:Oper} {o':AOper} (hk:zns P N ops o o'=true) (hdf:r=none∨∀ c,o.op≠.defer c)
  (hSt:St ι0 j0 own0 w0 N e σ a w) {st:Step} (h:zb0 o' e σ=some st) {Q:Exit→Go.Act→World→Prop} {K:Go.Act→World→Prop} (hpost:zhkb ι0 j0 own0 w0 N C o' e σ Q K st):zws P r ops o Q K a w:=by
 obtain ⟨ι,j,own,lb,hG,hL,hE⟩:=hSt
 simp only [zns,Bool.and_eq_true] at hk
 obtain ⟨⟨hk1,hk2⟩,hk3⟩:=hk
 obtain ⟨hdst,hd⟩:=ziub hk1
 unfold zb0 at h
 obtain ⟨b,hb,h⟩:=zaa h
 have hw:=zxu hL hk2 (fun i s b' hg hs=>by
  cases ho:ops[i]? with
  | none=>rw [ho] at hs; cases hs
  | some oi=>rw [ho] at hs; exact hops i oi s ho hs) hb
 unfold zws
 rw [hw]
 cases b with
 | false =>
  simp only [zab,Option.some.injEq] at h
  subst h
  simp only [Bool.false_eq_true,if_false]
  refine ⟨fun f _=>FW_fn r f,hpost _ _ ⟨ι,j,own,lb,hG,?_,hE⟩⟩
  rw [← hdst]
  cases hds:o.dst with
  | none=>exact hL
  | some s=>exact hL.putC (hd s hds) ⟨by simp only [Rep],fun h=>by cases h⟩
 | true =>
  simp only [zac] at h
  simp only [if_true]
  -- behind a call
  have after:∀ {out:Out} {σ':Store} {en:Ending} {w':World},(match out with
    | .ret c=>∀ a' w',St ι0 j0 own0 w0 N (e.put o'.dst c) σ' a' w'→K a' w'
    | .panic d=>∀ a' w' chain,StP ι0 j0 own0 w0 N d chain e σ' a' w'→Q (.panic chain) a' w')→zb5 ι j (shared own) w out σ' en w' →
    (match (motive:=Ending→World→Prop) en,w' with
     | .returned v,w''=>K (a.put o.dst v) w''
     | .panicked chain,w''=>Q (.panic chain) a w''
     | .outgrown,_=>LetsOut Q):=by
   rintro out σ' en w' hpost ⟨ι',j',own1,k1,k2,k3,k4⟩
   cases out with
   | ret c =>
    cases en with
    | returned v =>
     cases hdso:o.dst with
     | none =>
      obtain ⟨own2,q1,q2,q3,_⟩:=zd7 hG hL k1 k2 k3 0 false c.d v (fun h=>by cases h)
      refine hpost _ _ ⟨ι',j',own2,lb,q1,?_,hE.trans q3⟩
      rw [← hdst,hdso]
      exact q2
     | some s =>
      obtain ⟨own2,q1,q2,q3,q4⟩:=zd7 hG hL k1 k2 k3 s c.own c.d v k4.2
      refine hpost _ _ ⟨ι',j',own2,lb,q1,?_,hE.trans q3⟩
      rw [← hdst,hdso]
      exact zhx (hd s hdso) (q2.forget s) ⟨k4.1,q4⟩
    | panicked chain=>exact k4.elim
    | outgrown=>exact k4.elim
   | panic d =>
    cases en with
    | returned v=>exact k4.elim
    | outgrown=>exact k4.elim
    | panicked chain =>
     obtain ⟨own2,q1,q2,q3,_⟩:=zd7 hG hL k1 k2 k3 0 false d .nilFunc (fun h=>by cases h)
     obtain ⟨v,rfl,hv⟩:=k4
     exact hpost _ _ _ ⟨ι',j',own2,lb,q1,q2,hE.trans q3,v,rfl,hv⟩
  -- a call
  have called:∀ {f:Operand} {as:Array Operand} {ts:Array TypeId} {g:FuncId} {vf vc:List Value} {x ds y:List D},isY g=false→o.op=.call {callee:=.value f,args:=as,argTypes:=ts}→a.eval f=.func (.func g) ⟨vf⟩ ⟨vc⟩→RepL ι j x vf→RepL ι j ds (as.toList.map a.eval)→RepL ι j y vc →
    st=.call g (x ++ ds ++ y)→o.wpIn (FW r) 0 P a w K Q:=by
   rintro f as ts g vf vc x ds y hY ho hv hx hds hy rfl
   obtain ⟨out,σ',hout,hpost⟩:=hpost
   obtain ⟨hbody,hcall⟩:=(zcq hY).1 (hC g _ σ out σ' hout)
   unfold Oper.wpIn
   rw [zmm (.inr (fun c h=>by rw [ho] at h; cases h)),zjcb ho hbody hv]
   refine ⟨fun f _=>FW_fn r f,fun h=>zpi r h,zqo.2 ((hcall ι j (shared own) w _ (zdl own) (hB.evo hE).shared hG.toShared ((hx.append hds).append hy)).mono ?_)⟩
   exact fun en w' hA=>after hpost hA
  have calledY:∀ {f:Operand} {as:Array Operand} {ts:Array TypeId} {id b:Nat} {ds:List D},o.op=.call {callee:=.value f,args:=as,argTypes:=ts}→a.eval f=.func (.yield b) ⟨[]⟩ ⟨[]⟩→j id=some b→RepL ι j ds (as.toList.map a.eval) →
    st=.call (zbl + id) ds→o.wpIn (FW r) 0 P a w K Q:=by
   rintro f as ts id b ds ho hv hj hds rfl
   obtain ⟨out,σ',hout,hpost⟩:=hpost
   have hcall:=hC _ _ σ out σ' hout
   unfold zc9 at hcall
   rw [if_pos (za6b id)] at hcall
   obtain ⟨fn,tmps,assign,body,hy,hround⟩:=hcall ι j (shared own) w _ b (zdl own) (hB.evo hE).shared hG.toShared hds (by rw [Nat.add_sub_cancel_left]; exact hj)
   unfold Oper.wpIn
   rw [zmm (.inr (fun c h=>by rw [ho] at h; cases h)),zl7b ho hv hy]
   refine ⟨fun f _=>FW_fn r f,fun h=>zpi r h,(zdlb hround).mono ?_⟩
   exact fun en w' hA=>after hpost hA
  cases hkind:o'.op.kind with
  | op =>
   rw [hkind] at h
   simp only at h
   obtain ⟨⟨e',σ'⟩,h1,h⟩:=zaa h
   cases h
   rw [← hdst] at h1
   obtain ⟨nx,w',a',hrun,hnx,ι',j',own',lb',k1,k2,k3⟩:=zvg hG hL hk3 hd h1
   have:=hpost a' w' ⟨ι',j',own',lb',k1,k2,hE.trans k3⟩
   unfold Oper.wpIn
   rw [zmm hdf,hrun]
   refine ⟨fun f _=>FW_fn r f,?_⟩
   rcases hnx with ⟨v,rfl,rfl⟩ | ⟨rfl,rfl⟩ | ⟨d,rfl,rfl⟩ <;> exact this
  | call =>
   rw [hkind] at h
   simp only at h
   obtain ⟨⟨g,as⟩,h1,h⟩:=zaa h
   cases h
   cases hop:o'.op <;> rw [hop] at hkind h1 hk3 <;> simp only [AOp.kind,reduceCtorEq] at hkind
   ·simp only [okOp] at hk3
    split at hk3
    ·rename_i f as0 ts ho
     simp only [Bool.and_eq_true] at hk3
     simp only [zer] at h1
     obtain ⟨ds,h2,h1⟩:=zaa h1
     cases h1
     have hf:=zak hL hk3.1 (c:=⟨false,.fn (.func g) [] []⟩) rfl
     simp only [Rep,RepL] at hf
     obtain ⟨vf,vc,hv,rfl,rfl⟩:=hf
     exact called (by simpa using hk3.2.1) ho hv (x:=[]) (y:=[]) (by simp only [RepL]) (zem hL hk3.2.2 h2) (by simp only [RepL]) (by simp)
    ·cases hk3
   ·simp only [okOp] at hk3
    split at hk3
    ·rename_i f as0 ts ho
     simp only [Bool.and_eq_true] at hk3
     simp only [zer] at h1
     obtain ⟨c,h2,h1⟩:=zaa h1
     obtain ⟨⟨g',x,y⟩,h3,h1⟩:=zaa h1
     obtain ⟨ds,h4,h1⟩:=zaa h1
     cases h1
     rcases fn_of h3 (zak hL hk3.1 h2) with ⟨hY,vf,vc,hv,r1,r2⟩ | ⟨id,b,_,rfl,rfl,rfl,hj,hv⟩
     ·exact called hY ho hv r1 (zem hL hk3.2 h4) r2 rfl
     ·exact calledY ho hv hj (zem hL hk3.2 h4) (by simp)
    ·cases hk3
   ·simp only [okOp] at hk3
    split at hk3
    ·rename_i f as0 ts ho
     simp only [Bool.and_eq_true] at hk3
     simp only [zer] at h1
     obtain ⟨ds,h2,h1⟩:=zaa h1
     cases h1
     have hf:=zak hL hk3.1 (c:=⟨false,.fn (.func g) [] []⟩) rfl
     simp only [Rep,RepL] at hf
     obtain ⟨vf,vc,hv,rfl,rfl⟩:=hf
     exact called (by simpa using hk3.2.1) ho hv (x:=[]) (y:=[]) (by simp only [RepL]) (zem hL hk3.2.2 h2) (by simp only [RepL]) (by simp)
    ·cases hk3
   ·simp only [okOp] at hk3
    split at hk3
    ·rename_i f as0 ts ho
     simp only [Bool.and_eq_true] at hk3
     simp only [zer] at h1
     obtain ⟨c,h2,h1⟩:=zaa h1
     obtain ⟨⟨g',x,y⟩,h3,h1⟩:=zaa h1
     obtain ⟨ds,h4,h1⟩:=zaa h1
     cases h1
     rcases fn_of h3 (zak hL hk3.1 h2) with ⟨hY,vf,vc,hv,r1,r2⟩ | ⟨id,b,_,rfl,rfl,rfl,hj,hv⟩
     ·exact called hY ho hv r1 (zem hL hk3.2 h4) r2 rfl
     ·exact calledY ho hv hj (zem hL hk3.2 h4) (by simp)
    ·cases hk3
  | panic =>
   rw [hkind] at h
   simp only at h
   obtain ⟨d,h1,h⟩:=zaa h
   cases h
   cases hop:o'.op <;> rw [hop] at hkind h1 hk3 <;> simp only [AOp.kind,reduceCtorEq] at hkind
   simp only [okOp] at hk3
   split at hk3
   ·rename_i x ho
    simp only [zhw] at h1
    obtain ⟨c,h2,h1⟩:=zaa h1
    have hr:=zak hL hk3 h2
    cases hd':c.d <;> rw [hd'] at h1 hr <;> simp only [reduceCtorEq,Option.some.injEq] at h1
    subst h1
    obtain ⟨u,hu,hru⟩:=(by simpa only [Rep] using hr:∃ u,a.eval x=.iface _ u∧Rep ι j _ u)
    unfold Oper.wpIn
    have hrun:(execOp a.eval o).run P w=.halt (.panic (a.eval x)) w:=by
     simp only [execOp,ho,Instr.panic,hu,goPanic,Sem.run_bind]
     rfl
    rw [zmm hdf,hrun]
    exact ⟨fun f _=>FW_fn r f,hpost a w _ ⟨ι,j,own,lb,hG,hL,hE,_,rfl,hr⟩⟩
   ·cases hk3
end
end Go.Mx
namespace Go.Mx
open Go
def zea (ops:Array Oper) (k:Nat):List Nat:=match ops[k]? with
 | some o=>(o.after.toList.filter fun e=>Region.binds .any e).map (·.on)
 | none=>[]
def addN:List Nat→List Nat→List Nat
 | [],m=>m
 | x :: l,m=>ifB (mem m x) (addN l m) (addN l (x :: m))
def za8b (ops:Array Oper):Nat→List (List Nat)
 | 0=>[]
 | k + 1=>let t:=za8b ops k; t ++ [(zea ops k).foldl (fun m d=>addN ((nth t d).getD []) m) (zea ops k)]
def zg5 (t:List (List Nat)) (k:Nat):List Nat:=(nth t k).getD []
def zk9 (ops:Array Oper) (t:List (List Nat)):Nat→Bool
 | 0=>true
 | k + 1=>zk9 ops t k && (zg5 t k).all fun r=>(zea ops k).contains r || (zea ops k).any fun d=>(zg5 t d).contains r
def onceB (p i:AOper):Bool:=match lslot p.op with
 | some s=>!(i.dst == some s)
 | none=>true
def zd4 (ops:Array Oper) (t:List (List Nat)):List (Nat × AOper)→Bool
 | []=>true
 | p :: l=>(!(zea ops p.1).contains p.1 && (zea ops p.1).all fun d=>decide (d < ops.size)) && (l.all fun i=>!(zea ops p.1).contains i.1 && (((zg5 t i.1).contains p.1 || apart p.2 i.2) && onceB p.2 i.2)) && zd4 ops t l
def zjv (P:Program) (N:Nat) (ops:Array Oper):List (Nat × AOper)→Bool
 | []=>true
 | p :: l=>(match ops[p.1]? with | some o=>zns P N ops o p.2 | none=>false) && zgz p.2.op && zjv P N ops l
def znr (N:Nat) (ops:Array Oper):Bool:=ops.toList.all fun o=>match o.dst with | some s=>decide (s < N) | none=>true
def zq5:List Nat→Bool
 | []=>true
 | x :: l=>!l.contains x && zq5 l
def za9b (P:Program) (N:Nat) (ops:Array Oper) (l:List AOper) (perm:List Nat):Bool :=
 let t:=za8b ops ops.size
 perm.length == l.length && l.length == ops.size && zq5 perm && ((List.range ops.size).all fun k=>perm.contains k) && znr N ops && zk9 ops t ops.size && zd4 ops t (perm.zip l) && zjv P N ops (perm.zip l)
def okOps (P:Program) (N:Nat) (ops:Array Oper):List Oper→List AOper→Bool
 | [],[]=>true
 | o :: l,o' :: l'=>zns P N ops o o' && okOps P N ops l l'
 | _,_=>false
section
variable [LoopKit] {P:Program} {N:Nat} {e:Env} {a:Go.Act} {w:World} {σ:Store} {ι0:Imm} {j0:Lay} {own0:Own} {w0:World} {κ:Ctx}
theorem zo5 {ops:Array Oper} (h:znr N ops=true) (i:Nat) (o:Oper) (s:Nat) (hi:ops[i]?=some o) (hs:o.dst=some s):s < N:=by
 have:=List.all_eq_true.1 h o (by
  have:=List.mem_of_getElem? (l:=ops.toList) (i:=i) (a:=o) (by rw [Array.getElem?_toList]; exact hi)
  exact this)
 rw [hs] at this
 simpa using this
def zaob (ι0:Imm) (j0:Lay) (own0:Own) (w0:World) (N:Nat) (Q:Exit→Go.Act→World→Prop):OpsOut→Prop
 | .normal e σ=>∀ a w,St ι0 j0 own0 w0 N e σ a w→Q .normal a w
 | .panic d e σ=>∀ a w chain,StP ι0 j0 own0 w0 N d chain e σ a w→Q (.panic chain) a w
def zjn (ι0:Imm) (j0:Lay) (own0:Own) (w0:World) (N:Nat) (Q:Exit→Go.Act→World→Prop):OpsOut→Prop
 | .normal e σ=>∀ a w,St ι0 j0 own0 w0 N e σ a w→Q .normal a w
 | .panic d e σ=>∀ a w chain,StP ι0 j0 own0 w0 N d chain e.bare σ a w→Q (.panic chain) a w
theorem StP.bare {d:D} {chain:List PanicEntry} (h:StP ι0 j0 own0 w0 N d chain e σ a w):StP ι0 j0 own0 w0 N d chain e.bare σ a w:=by
 obtain ⟨ι,j,own,lb,h1,h2,h3⟩:=h
 exact ⟨ι,j,own,lb,h1,h2.bare,h3⟩
theorem zj3 {r:Option Nat} {C:CallF} (hC:zc1 P κ C) (hB:Base κ own0 w0) {ops:Array Oper} (hops:znr N ops=true) {Q:Exit→Go.Act→World→Prop}:∀ (l:List Oper) (l':List AOper),okOps P N ops l l'=true→(r=none∨∀ o∈l,∀ c,o.op≠.defer c)→∀ {e σ a w out},zbg C l' e σ=some out→St ι0 j0 own0 w0 N e σ a w →
  zaob ι0 j0 own0 w0 N Q out→wpListIn (FW r) 0 P ops Q l a w
 | [],[],_,_,e,σ,a,w,out,h,hSt,hQ=>by
  simp only [zbg,Option.some.injEq] at h
  subst h
  exact hQ a w hSt
 | [],_ :: _,hk,_,_,_,_,_,_,_,_,_=>by simp only [okOps,Bool.false_eq_true] at hk
 | _ :: _,[],hk,_,_,_,_,_,_,_,_,_=>by simp only [okOps,Bool.false_eq_true] at hk
 | o :: l,o' :: l',hk,hdf,e,σ,a,w,out,h,hSt,hQ=>by
  simp only [okOps,Bool.and_eq_true] at hk
  simp only [zbg] at h
  obtain ⟨st,h1,h⟩:=zaa h
  simp only [wpListIn]
  have hdl:r=none∨∀ o∈l,∀ c,o.op≠.defer c:=hdf.imp id fun h o ho=>h o (by simp [ho])
  refine op_wp hC hB (fun i o s hi hs=>zo5 hops i o s hi hs) hk.1 (hdf.imp id fun h=>h o (by simp)) hSt h1 ?_
  cases st with
  | next e' σ'=>exact fun a' w' h'=>zj3 hC hB hops l l' hk.2 hdl (zah h).2 h' hQ
  | call f as =>
   simp only at h
   obtain ⟨⟨r,σ'⟩,h2,h⟩:=zaa h
   obtain ⟨_,h⟩:=zah h
   refine ⟨r,σ',h2,?_⟩
   cases r with
   | ret c=>exact fun a' w' h'=>zj3 hC hB hops l l' hk.2 hdl h h' hQ
   | panic d =>
    simp only [Option.some.injEq] at h
    subst h
    exact hQ
  | panic d =>
   simp only [Option.some.injEq] at h
   subst h
   exact hQ
theorem St.eqv {e':Env} (h:St ι0 j0 own0 w0 N e σ a w) (he:Eqv e e'):St ι0 j0 own0 w0 N e' σ a w:=by
 obtain ⟨ι,j,own,lb,h1,h2,h3⟩:=h
 exact ⟨ι,j,own,lb,h1,h2.sub (fun s c h=>⟨c,by rw [he.slots]; exact h,rfl,fun h=>h⟩) (fun s p h=>by rw [he.locs]; exact h) (fun s cs h=>⟨cs,by rw [he.boxes]; exact h,zb1.refl cs⟩) he.defers.symm,h3⟩
theorem zjn.eqv {Q:Exit→Go.Act→World→Prop} {out out':OpsOut} (h:zjn ι0 j0 own0 w0 N Q out) (he:OutEqv out out'):zjn ι0 j0 own0 w0 N Q out':=by
 cases he with
 | normal he=>exact fun a w hs=>h a w (hs.eqv he.symm)
 | panic he =>
  rename_i d e e' σ
  have:e.bare=e'.bare:=by unfold Env.bare; rw [he]
  intro a w chain hs
  rw [← this] at hs
  exact h a w chain hs
theorem St.draw (h:St ι0 j0 own0 w0 N e σ a w):St ι0 j0 own0 w0 N e σ a {w with drawn:=w.drawn + 1}:=by
 obtain ⟨ι,j,own,lb,h1,h2,h3⟩:=h
 have hE:Evo ι j own w ι j own {w with drawn:=w.drawn + 1} (fun _=>False):=⟨rfl,rfl,rfl,Nat.le_refl _,fun _ _ _ h=>h,fun _ _ h=>h,fun _ _ _=>⟨rfl,rfl,fun _=>rfl⟩⟩
 exact ⟨ι,j,own,lb,h1.evo hE h1.holds h1.noimm h1.ownlt h1.jlt (fun _ _ _=>⟨fun h=>h,fun _ _ _ _ h=>h⟩) (fun _ _ _ h=>h),h2.evo hE (fun _ _ _ _ h=>h) (fun _ _ _=>⟨fun h=>h,fun _ _ _ _ h=>h⟩),h3.trans (hE.weaken fun _ h=>h.elim)⟩
theorem zq3 {ops:Array Oper} {k:Nat} {o:Oper} (hk:ops[k]?=some o) {x:Nat} (h:x∈zea ops k):∃ e∈o.after,Region.binds .any e=true∧e.on=x:=by
 simp only [zea,hk,List.mem_map,List.mem_filter,Array.mem_toList_iff] at h
 obtain ⟨e,⟨h1,h2⟩,h3⟩:=h
 exact ⟨e,h1,h2,h3⟩
theorem znu {ops:Array Oper} {t:List (List Nat)}:∀ {n:Nat},zk9 ops t n=true→∀ k,k < n→∀ r∈zg5 t k,r∈zea ops k∨∃ d∈zea ops k,r∈zg5 t d
 | 0,_,k,hk,_,_=>by omega
 | n + 1,h,k,hk,r,hr=>by
  simp only [zk9,Bool.and_eq_true] at h
  by_cases hkn:k=n
  ·subst hkn
   have:=List.all_eq_true.1 h.2 r hr
   simp only [Bool.or_eq_true,List.contains_iff_mem,List.any_eq_true] at this
   exact this
  ·exact znu h.1 k (by omega) r hr
theorem zku {ops:Array Oper} {t:List (List Nat)}:∀ {l m:List (Nat × AOper)},m.Sublist l→zd4 ops t l=true→zd4 ops t m=true
 | _,_,.slnil,_=>rfl
 | _,_,.cons _ h,hk=>by
  simp only [zd4,Bool.and_eq_true] at hk
  exact zku h hk.2
 | _,_,.cons_cons _ h,hk=>by
  simp only [zd4,Bool.and_eq_true] at hk ⊢
  refine ⟨⟨hk.1.1,?_⟩,zku h hk.2⟩
  exact List.all_eq_true.2 fun x hx=>List.all_eq_true.1 hk.1.2 x (h.subset hx)
theorem zq7 {ops:Array Oper} {t:List (List Nat)}:∀ {A B:List (Nat × AOper)} {i:Nat × AOper},zd4 ops t (A ++ i :: B)=true→∀ p∈A,(zg5 t i.1).contains p.1=true∨apart p.2 i.2=true
 | [],_,_,_,p,hp=>by cases hp
 | q :: A,B,i,h,p,hp=>by
  simp only [List.cons_append,zd4,Bool.and_eq_true] at h
  rcases List.mem_cons.1 hp with rfl | hp
  ·have:=List.all_eq_true.1 h.1.2 i (by simp)
   simp only [Bool.and_eq_true,Bool.or_eq_true] at this
   exact this.2.1
  ·exact zq7 h.2 p hp
theorem znt {ops:Array Oper} {t:List (List Nat)}:∀ {A B:List (Nat × AOper)},zd4 ops t (A ++ B)=true→Once (A.map (·.2))
 | [],_,_=>trivial
 | q :: A,B,h=>by
  simp only [List.cons_append,zd4,Bool.and_eq_true] at h
  refine ⟨fun s hs a ha=>?_,znt h.2⟩
  obtain ⟨x,hx,rfl⟩:=List.mem_map.1 ha
  have:=List.all_eq_true.1 h.1.2 x (by simp [hx])
  simp only [Bool.and_eq_true] at this
  have h2:=this.2.2
  unfold onceB at h2
  rw [hs] at h2
  simpa using h2
theorem zg3 {ops:Array Oper}:∀ {l:List (Nat × AOper)},zjv P N ops l=true→∀ p∈l,(∃ o,ops[p.1]?=some o∧zns P N ops o p.2=true)∧zgz p.2.op=true
 | [],_,p,hp=>by cases hp
 | q :: l,h,p,hp=>by
  simp only [zjv,Bool.and_eq_true] at h
  rcases List.mem_cons.1 hp with rfl | hp
  ·refine ⟨?_,h.1.2⟩
   have:=h.1.1
   split at this
   ·rename_i o ho
    exact ⟨o,ho,this⟩
   ·cases this
  ·exact zg3 h.2 p hp
theorem zo4:∀ {l:List Nat},zq5 l=true→l.Nodup
 | [],_=>List.nodup_nil
 | x :: l,h=>by
  simp only [zq5,Bool.and_eq_true,Bool.not_eq_true',List.contains_eq_mem,decide_eq_false_iff_not] at h
  exact List.nodup_cons.2 ⟨h.1,zo4 h.2⟩
theorem zalb {r:Option Nat} {C:CallF} (hC:zc1 P κ C) (hB:Base κ own0 w0) {ops:Array Oper} (hdf:r=none∨∀ o∈ops.toList,∀ c,o.op≠.defer c) (hops:znr N ops=true) {t:List (List Nat)} (ht:zk9 ops t ops.size=true) {Q:Exit→Go.Act→World→Prop} :
  ∀ (L:List (Nat × AOper)) (listed:Array Bool) {e σ a w out},zd4 ops t L=true→zjv P N ops L=true→(L.map (·.1)).Nodup→listed.size=ops.size→(∀ k,k < ops.size→(listed.getD k true=false↔k∈L.map (·.1))) →
  (∀ k,k < ops.size→k ∉ L.map (·.1)→∀ r∈zg5 t k,r ∉ L.map (·.1))→zbg C (L.map (·.2)) e σ=some out→St ι0 j0 own0 w0 N e σ a w→zjn ι0 j0 own0 w0 N Q out→wpAnyIn (FW r) 0 P .any ops Q L.length listed a w:=by
 intro L
 generalize hn:L.length=n
 induction n generalizing L with
 | zero =>
  intro listed e σ a w out _ _ _ _ hl _ hrun hSt hQ
  have:L=[]:=List.eq_nil_of_length_eq_zero hn
  subst this
  simp only [List.map_nil,zbg,Option.some.injEq] at hrun
  subst hrun
  refine ⟨?_,hQ a w hSt⟩
  apply List.eq_nil_iff_forall_not_mem.2
  intro k hk
  obtain ⟨h1,o,ho,_⟩:=mem_ready.1 hk
  have hlt:=(Array.getElem?_eq_some_iff.1 ho).1
  have:=(hl k hlt).1 h1
  simp at this
 | succ n ih =>
  intro listed e σ a w out hp he hnd hsz hl hcl hrun hSt hQ
  have unl:∀ k,k < ops.size→listed.getD k false=true→k ∉ L.map (·.1):=by
   intro k hk h hm
   have:=(hl k hk).2 hm
   have hks:k < listed.size:=by omega
   simp only [Array.getD_eq_getD_getElem?,Array.getElem?_eq_getElem hks,Option.getD_some] at h this
   rw [h] at this
   cases this
  refine ⟨fun hnil=>?_,fun k hk=>?_⟩
  ·
   exfalso
   cases L with
   | nil=>simp at hn
   | cons p L' =>
    obtain ⟨⟨o,ho,_⟩,_⟩:=zg3 he p (by simp)
    have hlt:=(Array.getElem?_eq_some_iff.1 ho).1
    have:p.1∈Region.ready .any ops listed:=by
     refine mem_ready.2 ⟨(hl p.1 hlt).2 (by simp),o,ho,fun ed hed hb=>?_⟩
     have hdir:ed.on∈zea ops p.1:=by
      simp only [zea,ho,List.mem_map,List.mem_filter,Array.mem_toList_iff]
      exact ⟨ed,⟨hed,hb⟩,rfl⟩
     simp only [zd4,Bool.and_eq_true,Bool.not_eq_true',List.contains_eq_mem,decide_eq_false_iff_not] at hp
     have hds:ed.on < ops.size:=by simpa using List.all_eq_true.1 hp.1.1.2 ed.on hdir
     have hnm:ed.on ∉ (p :: L').map (·.1):=by
      intro hm
      simp only [List.map_cons,List.mem_cons,List.mem_map] at hm
      rcases hm with hm | ⟨q,hq,hqe⟩
      ·exact hp.1.1.1 (hm ▸ hdir)
      ·have:=List.all_eq_true.1 hp.1.2 q hq
       simp only [Bool.and_eq_true,Bool.not_eq_true',decide_eq_false_iff_not] at this
       exact this.1 (hqe ▸ hdir)
     have hks:ed.on < listed.size:=by omega
     have hnf:¬ listed.getD ed.on true=false:=fun h=>hnm ((hl ed.on hds).1 h)
     simp only [Array.getD_eq_getD_getElem?,Array.getElem?_eq_getElem hks,Option.getD_some] at hnf ⊢
     simpa using hnf
    rw [hnil] at this
    cases this
  ·obtain ⟨h1,o,ho,hall⟩:=mem_ready.1 hk
   have hlt:=(Array.getElem?_eq_some_iff.1 ho).1
   have hm:=(hl k hlt).1 h1
   obtain ⟨pr,hpr,hprk⟩:=List.mem_map.1 hm
   obtain ⟨A,B,rfl⟩:=List.append_of_mem hpr
   obtain ⟨i,oi⟩:=pr
   simp only at hprk
   subst hprk
   obtain ⟨⟨o2,ho2,hok⟩,_⟩:=zg3 he (i,oi) (by simp)
   rw [ho] at ho2
   cases ho2
   -- what it reaches is done
   have hdir:∀ d∈zea ops i,d < ops.size→d ∉ (A ++ (i,oi) :: B).map (·.1):=by
    intro d hd hds
    obtain ⟨ed,q1,q2,rfl⟩:=zq3 ho hd
    exact unl _ hds (hall ed q1 q2)
   have hidx:∀ x∈(A ++ (i,oi) :: B).map (·.1),x < ops.size:=by
    intro x hx
    obtain ⟨q,hq,rfl⟩:=List.mem_map.1 hx
    obtain ⟨⟨oq,hoq,_⟩,_⟩:=zg3 he q hq
    exact (Array.getElem?_eq_some_iff.1 hoq).1
   have hreach:∀ r∈zg5 t i,r ∉ (A ++ (i,oi) :: B).map (·.1):=by
    intro r hr hmem
    have hrs:=hidx r hmem
    rcases znu ht i hlt r hr with h | ⟨d,hd,hrd⟩
    ·exact hdir r h hrs hmem
    ·have hds:d < ops.size:=by
      apply Nat.lt_of_not_le
      intro hge
      obtain ⟨ed,q1,q2,rfl⟩:=zq3 ho hd
      have:=hall ed q1 q2
      rw [Array.getD_eq_getD_getElem?,Array.getElem?_eq_none (by omega)] at this
      cases this
     exact hcl d hds (hdir d hd hds) r hrd hmem
   have hap:∀ p∈A.map (·.2),apart p oi=true:=by
    intro p hp'
    obtain ⟨q,hq,rfl⟩:=List.mem_map.1 hp'
    rcases zq7 hp q hq with h | h
    ·exact absurd (List.mem_map.2 ⟨q,by simp [hq],rfl⟩) (hreach q.1 (by simpa using h))
    ·exact h
   have hdr:∀ o∈A.map (·.2) ++ B.map (·.2),zgz o.op=true:=by
    intro o' ho'
    rw [← List.map_append] at ho'
    obtain ⟨q,hq,rfl⟩:=List.mem_map.1 ho'
    exact (zg3 he q (by simp at hq ⊢; rcases hq with h | h <;> simp [h])).2
   rw [List.map_append,List.map_cons] at hrun
   obtain ⟨out',hrun',heq,_⟩:=zww hap hdr (znt hp) hrun
   have hQ':=hQ.eqv heq
   simp only [zjl] at hrun'
   obtain ⟨st,hst,hrun'⟩:=zaa hrun'
   have hsub:(A ++ B).Sublist (A ++ (i,oi) :: B):=List.Sublist.append_left (List.sublist_cons_self _ _) A
   have hnd':((A ++ B).map (·.1)).Nodup:=hnd.sublist (hsub.map _)
   have hni:i ∉ (A ++ B).map (·.1):=by
    rw [List.map_append,List.map_cons] at hnd
    rw [List.map_append]
    intro hmem
    rw [List.nodup_append] at hnd
    obtain ⟨n1,n2,n3⟩:=hnd
    rcases List.mem_append.1 hmem with h | h
    ·exact n3 i h i (by simp) rfl
    ·exact (List.nodup_cons.1 n2).1 h
   have hmem_iff:∀ x,x∈(A ++ (i,oi) :: B).map (·.1)↔x=i∨x∈(A ++ B).map (·.1):=by
    intro x
    simp only [List.map_append,List.map_cons,List.mem_append,List.mem_cons]
    constructor
    ·rintro (h | h | h)
     ·exact .inr (.inl h)
     ·exact .inl h
     ·exact .inr (.inr h)
    ·rintro (h | h | h)
     ·exact .inr (.inl h)
     ·exact .inl h
     ·exact .inr (.inr h)
   have go:∀ {e' σ' a' w'},zbg C ((A ++ B).map (·.2)) e' σ'=some out'→St ι0 j0 own0 w0 N e' σ' a' w'→wpAnyIn (FW r) 0 P .any ops Q n (listed.setIfInBounds i true) a' w':=by
    intro e' σ' a' w' hr hs
    refine ih (A ++ B) (by simp at hn ⊢; omega) _ (zku hsub hp) ?_ hnd' (by simpa using hsz) (fun x hx=>?_) (fun x hx hxn r hr' hrm=>?_) hr hs hQ'
    ·have:∀ (l:List (Nat × AOper)),(∀ p∈l,p∈A ++ (i,oi) :: B)→zjv P N ops l=true:=by
      intro l
      induction l with
      | nil=>intro _; rfl
      | cons p l ihl =>
       intro hl'
       obtain ⟨⟨o3,ho3,hok3⟩,hd3⟩:=zg3 he p (hl' p (by simp))
       simp only [zjv,ho3,hok3,hd3,Bool.true_and,ihl fun q hq=>hl' q (by simp [hq])]
     exact this _ fun p hp'=>hsub.subset hp'
    ·by_cases hxi:x=i
     ·subst hxi
      have hks:x < listed.size:=by omega
      have:(listed.setIfInBounds x true).getD x true=true:=by simp [hks]
      rw [this]
      exact ⟨(fun h=>by cases h),(fun h=>absurd h hni)⟩
     ·rw [getD_set_ne true (Ne.symm hxi),hl x hx,hmem_iff]
      exact ⟨fun h=>h.resolve_left hxi,fun h=>.inr h⟩
    ·have hrm':=(hmem_iff r).2 (.inr hrm)
     by_cases hxi:x=i
     ·subst hxi
      exact hreach r hr' hrm'
     ·exact hcl x hx (fun h=>by
       rcases (hmem_iff x).1 h with h | h
       ·exact hxi h
       ·exact hxn h) r hr' hrm'
   have hgoal:zws P r ops o Q (wpAnyIn (FW r) 0 P .any ops Q n (listed.setIfInBounds i true)) a w:=by
    refine op_wp hC hB (fun i o s hi hs=>zo5 hops i o s hi hs) hok (hdf.imp id fun h=>h o (Array.mem_toList_iff.2 (Array.mem_of_getElem? ho))) hSt hst ?_
    rw [← List.map_append] at hrun'
    cases st with
    | next e' σ'=>exact fun a' w' h'=>go hrun' h'
    | call f as =>
     simp only at hrun'
     obtain ⟨⟨r,σ'⟩,h2,hrun'⟩:=zaa hrun'
     refine ⟨r,σ',h2,?_⟩
     cases r with
     | ret c=>exact fun a' w' h'=>go hrun' h'
     | panic d =>
      simp only [Option.some.injEq] at hrun'
      subst hrun'
      exact fun a' w' chain h=>hQ' a' w' chain h.bare
    | panic d =>
     simp only [Option.some.injEq] at hrun'
     subst hrun'
     exact fun a' w' chain h=>hQ' a' w' chain h.bare
   simp only [wpOpIn,ho]
   exact hgoal
end
end Go.Mx
