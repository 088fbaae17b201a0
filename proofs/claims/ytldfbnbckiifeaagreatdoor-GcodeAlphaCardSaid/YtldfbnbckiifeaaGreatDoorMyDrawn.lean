/-
 Calls: what is said of one,and how a frame goes on behind it.
-/
import Derived.Conc.MuLone
import Derived.RangeFuncLeaves
import Derived.OrdersIn
import Derived.TacticsIn
import Derived.Test.YtldfbnbckiifeaaGreatDoorMyOpers
import Derived.Test.YtldfbnbckiifeaaGreatDoorMySwap
set_option linter.unusedSimpArgs false
set_option linter.unusedVariables false
set_option linter.unusedSectionVars false
namespace Go.Mx
open Go
def shared (own:Own):Own:=fun b=>match own b with
 | some t=>if t.isLocal=true then none else some t
 | none=>none
theorem Gg {own:Own} {b:Nat} {t:Tag} (h:shared own b=some t):own b=some t∧t.isLocal=false:=by
 unfold shared at h
 cases ho:own b with
 | none=>rw [ho] at h; cases h
 | some u =>
  rw [ho] at h
  simp only at h
  by_cases hu:u.isLocal=true
  ·rw [if_pos hu] at h; cases h
  ·rw [if_neg hu] at h; cases h; exact ⟨rfl,by simpa using hu⟩
theorem Rb {own:Own} {b:Nat} {t:Tag} (h:own b=some t) (ht:t.isLocal=false):shared own b=some t:=by
 unfold shared
 rw [h]
 simp [ht]
def pX (own:Own):Prop:=∀ b t,own b=some t→t.isLocal=false
theorem nQ (own:Own):pX (shared own):=fun _ _ h=>(Gg h).2
def zelb (ι:Imm) (own0:Own) (w0:World) (own:Own) (w:World) (sz:RowK) (es:List D) (v:Value):Prop :=
 (∃ a,v=.slice a es.length es.length∧(sz.el=5→es=[]))∨∃ b cap cur T,v=.slice (some ⟨b,0,none⟩) es.length cap∧(w0.heap.size≤b∨(own0 b).isSome=true)∧own b=none ∧
   w.heap[b]?=some (.cells cur T (0,0))∧(T=sz.el∧cur.size=cap * sz.sz)∧∀ o,es.length * sz.sz≤o→ι b o=none
def Xy (ι:Imm) (own0:Own) (w0:World) (own:Own) (w:World) (d:D) (v:Value):Prop:=match vU d v with
 | some p=>zelb ι own0 w0 own w p.1 p.2.1 p.2.2
 | none=>True
def kA [LoopKit] (ι:Imm) (j:Lay) (own:Own) (w:World) (out:Out) (σ':Store) (e:Ending) (w':World):Prop :=
 ∃ ι' j' own',GSim ι' j' own' σ' w'∧Evo ι j own w ι' j' own' w' (fun _=>True)∧pX own'∧match out,e with
  | .ret c,.returned v=>Rep ι' j' c.d v∧(c.own=true→Xy ι' own w own' w' c.d v)
  | .panic d,.panicked chain=>∃ v,chain=[{v:=v,recovered:=false}]∧Rep ι' j' d v
  | _,_=>False
structure Ctx where
 n:Nat
 K:World→Prop
 stable:∀ w w',(∀ b,b < n→w'.heap[b]?=w.heap[b]?)→K w→K w'
structure Base (κ:Ctx) (own:Own) (w:World):Prop where
 size:κ.n≤w.heap.size
 free:∀ b,b < κ.n→own b=none
 K:κ.K w
theorem Base.evo {κ:Ctx} {ι ι':Imm} {j j':Lay} {own own':Own} {w w':World} {TT:Tag→Prop} (h:Base κ own w) (hE:Evo ι j own w ι' j' own' w' TT):Base κ own' w' where
 size:=Nat.le_trans h.size hE.size
 free:=fun b hb=>by
  have hn:=h.free b hb
  rw [(hE.block b (aP hb h.size) (fun t k=>by rw [hn] at k; cases k)).2.1,hn]
 K:=κ.stable w w' (fun b hb=>(hE.block b (aP hb h.size) (fun t k=>by rw [h.free b hb] at k; cases k)).1) h.K
theorem Base.shared {κ:Ctx} {own:Own} {w:World} (h:Base κ own w):Base κ (shared own) w where
 size:=h.size
 free:=fun b hb=>by
  unfold Go.Mx.shared
  rw [h.free b hb]
 K:=h.K
def Ag (P:Program) (f:FuncId):Prop:=∃ fn c,P.funcs[f]?=some fn∧(fn.name == "runtime.NumGoroutine")=false∧fn.body=some c
def FW (r:Option Nat):Fence:=match r with
 | none=>Fence.wide
 | some l=>Fence.wide.inRound l
theorem zh5 (r:Option Nat):(FW r).round=r:=by cases r <;> rfl
theorem Rj (r:Option Nat) (f:FuncId):(FW r).fn f:=by cases r <;> exact trivial
theorem Vb (r:Option Nat):(FW r).depth.isSome=true→∀ {p:Prop},p:=fun h=>by cases r <;> cases h
theorem Yn {r:Option Nat} {n:Nat} {P:Program} {f:FuncId} {args:Array Value} {w:World} {R:Ending→World→Prop}:CallsIn (FW r) n P f args w R↔Calls P f args w R:=by
 cases r with
 | none=>exact callsIn_wide
 | some l=>exact (callsIn_wide:CallsIn Fence.wide n P f args w R↔_)
theorem zr3 {r:Option Nat} {n:Nat} {P:Program} {l:Nat} {f:FuncId} {tmps:Array Value} {assign body:Code} {w:World} {R:Ending→World→Prop} (h:RoundIn Fence.wide 0 P l f tmps assign body w R):RoundIn (FW r) n P l f tmps assign body w R:=by
 cases r with
 | none=>exact ⟨trivial,fun c cs _=>h.2 c cs (room_wide _)⟩
 | some _=>exact ⟨trivial,fun c cs _=>h.2 c cs (room_wide _)⟩
def mZ [LoopKit] (P:Program) (κ:Ctx) (f:FuncId) (ds:List D) (σ:Store) (out:Out) (σ':Store):Prop :=
 if isY f=true then ∀ ι j own w vs b,pX own→Base κ own w→GSim ι j own σ w→dM ι j ds vs→j (f - iG)=some b →
  ∃ fn tmps assign body,(Instr.yield b ⟨vs⟩).run P w=.ok (.round b fn tmps assign body) w∧RoundIn Fence.wide 0 P b fn tmps assign body w (kA ι j own w out σ')
 else Ag P f∧∀ ι j own w vs,pX own→Base κ own w→GSim ι j own σ w→dM ι j ds vs→Calls P f ⟨vs⟩ w (kA ι j own w out σ')
theorem lG [LoopKit] {P:Program} {κ:Ctx} {f:FuncId} {ds:List D} {σ:Store} {out:Out} {σ':Store} (hY:isY f=false) :
  mZ P κ f ds σ out σ'↔Ag P f∧∀ ι j own w vs,pX own→Base κ own w→GSim ι j own σ w→dM ι j ds vs→Calls P f ⟨vs⟩ w (kA ι j own w out σ'):=by
 unfold mZ
 rw [if_neg (by rw [hY]; simp)]
theorem zol (id:Nat):isY (iG + id)=true:=by
 unfold isY
 simp
def zbgb [LoopKit] (P:Program) (κ:Ctx) (f:FuncId) (ds:List D) (σ:Store) (out:Out) (σ':Store):Prop :=
 Ag P f∧∀ ι j own w vs u,pX own→Base κ own w→GSim ι j own σ w→dM ι j ds vs→CallsD P f ⟨vs⟩ u w fun e u' w'=>u'=u∧kA ι j own w out σ' e w'
section
variable [LoopKit] {P:Program} {ι ι':Imm} {j j':Lay} {own own':Own} {lb:Lay} {N:Nat} {e:Env} {a:Go.Act} {w w':World} {σ σ':Store}
theorem iP.reown {t:Tag} {d:D} {v:Value} (h:∀ b,own b=some t→own' b=some t) (k:iP ι own w t d v):iP ι own' w t d v:=by
 unfold iP at k ⊢
 cases hp:vU d v with
 | none=>trivial
 | some p =>
  rw [hp] at k
  rcases k with k | ⟨b,cap,cur,T,h1,h2,h3⟩
  ·exact .inl k
  ·exact .inr ⟨b,cap,cur,T,h1,h b h2,h3⟩
theorem lO.reown {b:Nat} {mk:Nat→Tag} {cs:List Cell} (h:∀ i b,own b=some (mk i)→own' b=some (mk i)) (k:lO ι j own w b mk cs):lO ι j own' w b mk cs:=by
 obtain ⟨vs,T,h1,h2,h3⟩:=k
 refine ⟨vs,T,h1,h2,fun i c hi=>?_⟩
 obtain ⟨v,q1,q2,q3,q4⟩:=h3 i c hi
 exact ⟨v,q1,q2,q3,fun ho=>(q4 ho).reown (h i)⟩
theorem GSim.toShared (hG:GSim ι j own σ w):GSim ι j (shared own) σ w where
 holds:=hG.holds
 noimm:=fun b t h=>hG.noimm b t (Gg h).1
 objs:=fun id cs h=>by
  obtain ⟨b,q1,q2,q3⟩:=hG.objs id cs h
  exact ⟨b,q1,Rb q2 rfl,q3.reown fun i b h=>Rb h rfl⟩
 tys:=hG.tys
 oth:=fun id x h=>by
  obtain ⟨b,q1,q2,q3⟩:=hG.oth id x h
  exact ⟨b,q1,Rb q2 rfl,q3⟩
 jlt:=hG.jlt
 ownlt:=fun b t h=>hG.ownlt b t (Gg h).1
theorem sL {own1:Own} (hG:GSim ι j own σ w) (hL:LSim ι j own lb N e a w) (hG1:GSim ι' j' own1 σ' w') (hE:Evo ι j (shared own) w ι' j' own1 w' (fun _=>True)) (hS:pX own1) (s:Nat) (mark:Bool) (d:D) (v:Value)
  (hF:mark=true→Xy ι' (shared own) w own1 w' d v) :
  ∃ eS,GSim ι' j' eS σ' w'∧LSim ι' j' eS lb N e a w'∧Evo ι j own w ι' j' eS w' (fun _=>True)∧(mark=true→iP ι' eS w' (.slot s) d v):=by
 classical
 -- the block that is marked
 obtain ⟨mb,hmb⟩:∃ mb:Option Nat,(∀ b,mb=some b→(w.heap.size≤b∨(shared own b).isSome=true)∧own1 b=none∧b < w'.heap.size) ∧
   (mark=true→∀ p,vU d v=some p→(∃ a,p.2.2=.slice a p.2.1.length p.2.1.length∧(p.1.el=5→p.2.1=[]))∨∃ b cap cur T,p.2.2=.slice (some ⟨b,0,none⟩) p.2.1.length cap∧mb=some b∧w'.heap[b]?=some (.cells cur T (0,0))∧(T=p.1.el∧cur.size=cap * p.1.sz)∧∀ o,p.2.1.length * p.1.sz≤o→ι' b o=none):=by
  cases mark with
  | false=>exact ⟨none,(fun _ h=>by cases h),(fun h=>by cases h)⟩
  | true =>
   have hF:=hF rfl
   unfold Xy at hF
   cases hp:vU d v with
   | none=>exact ⟨none,(fun _ h=>by cases h),(fun _ p h=>by cases h)⟩
   | some p =>
    rw [hp] at hF
    rcases hF with hF | ⟨b,cap,cur,T,f1,f2,f3,f4,f5,f6⟩
    ·exact ⟨none,(fun _ h=>by cases h),(fun _ q h=>by cases h; exact .inl hF)⟩
    ·exact ⟨some b,(fun b' h=>by cases h; exact ⟨f2,f3,(Array.getElem?_eq_some_iff.1 f4).1⟩),(fun _ q h=>by cases h; exact .inr ⟨b,cap,cur,T,f1,rfl,f4,f5,f6⟩)⟩
 obtain ⟨hm1,hm2⟩:=hmb
 let loc:Nat→Prop:=fun b=>∃ t,own b=some t∧t.isLocal=true
 let eS:Own:=fun b=>if loc b then own b else if mb=some b then some (.slot s) else own1 b
 have hloc:∀ b,loc b→own1 b=none∧w'.heap[b]?=w.heap[b]?∧(∀ o,ι' b o=ι b o)∧b < w.heap.size∧shared own b=none:=by
  rintro b ⟨t,ht,htl⟩
  have hlt:=hG.ownlt b t ht
  have hsn:shared own b=none:=by
   unfold shared
   rw [ht]
   simp [htl]
  obtain ⟨k1,k2,k3⟩:=hE.block b hlt (fun t h=>by rw [hsn] at h; cases h)
  exact ⟨k2.trans hsn,k1,k3,hlt,hsn⟩
 have hnm:∀ b,loc b→mb≠some b:=by
  intro b hb h
  obtain ⟨k1,_,_⟩:=hm1 b h
  obtain ⟨_,_,_,q1,q2⟩:=hloc b hb
  rcases k1 with k1 | k1
  ·omega
  ·rw [q2] at k1; cases k1
 -- the shared marks stand
 have hsh:∀ b t,own1 b=some t→eS b=some t:=by
  intro b t h
  by_cases hb:loc b
  ·rw [(hloc b hb).1] at h; cases h
  ·have hne:mb≠some b:=fun hm=>by rw [(hm1 b hm).2.1] at h; cases h
   simp only [eS,if_neg hb,if_neg hne]
   exact h
 have hE2:Evo ι j own w ι' j' eS w' (fun t=>t.isLocal=false):=by
  refine ⟨hE.os,hE.tape,hE.output,hE.size,hE.imm,hE.lay,fun b hb ht=>?_⟩
  have hsn:shared own b=none:=by
   unfold shared
   cases ho:own b with
   | none=>rfl
   | some t =>
    have:t.isLocal=true:=by simpa using ht t ho
    simp [this]
  obtain ⟨k1,k2,k3⟩:=hE.block b hb (fun t h=>by rw [hsn] at h; cases h)
  refine ⟨k1,?_,k3⟩
  by_cases hl:loc b
  ·simp only [eS,if_pos hl]
  ·have hn:own b=none:=by
    cases ho:own b with
    | none=>rfl
    | some t=>exact absurd ⟨t,ho,by simpa using ht t ho⟩ hl
   have hne:mb≠some b:=fun hm=>by
    rcases (hm1 b hm).1 with q | q
    ·omega
    ·rw [hsn] at q; cases q
   simp only [eS,if_neg hl,if_neg hne,hn]
   exact k2.trans hsn
 have hG2:GSim ι' j' eS σ' w':=by
  refine ⟨hG1.holds,fun b t h hu o=>?_,fun id cs h=>?_,hG1.tys,fun id x h=>?_,hG1.jlt,fun b t h=>?_⟩
  ·by_cases hb:loc b
   ·simp only [eS,if_pos hb] at h
    rw [(hloc b hb).2.2.1 o]
    exact hG.noimm b t h hu o
   ·by_cases hm:mb=some b
    ·simp only [eS,if_neg hb,if_pos hm,aA] at h
     subst h
     cases hu
    ·simp only [eS,if_neg hb,if_neg hm] at h
     exact hG1.noimm b t h hu o
  ·obtain ⟨b,q1,q2,q3⟩:=hG1.objs id cs h
   exact ⟨b,q1,hsh b _ q2,q3.reown fun i b h=>hsh b _ h⟩
  ·obtain ⟨b,q1,q2,q3⟩:=hG1.oth id x h
   exact ⟨b,q1,hsh b _ q2,q3⟩
  ·by_cases hb:loc b
   ·exact aP (hloc b hb).2.2.2.1 hE.size
   ·by_cases hm:mb=some b
    ·exact (hm1 b hm).2.2
    ·simp only [eS,if_neg hb,if_neg hm] at h
     exact hG1.ownlt b t h
 refine ⟨eS,hG2,hL.evo hE2 (fun _ _ _ _ h=>by cases h) (fun _ _ _=>⟨(fun h=>by cases h),(fun _ _ _ _ h=>by cases h)⟩),hE2.weaken fun _ _=>trivial,fun hmk=>?_⟩
 have:=hm2 hmk
 unfold iP
 cases hp:vU d v with
 | none=>trivial
 | some p =>
  rcases this p hp with this | ⟨b,cap,cur,T,f1,f2,f3,f4,f5⟩
  ·exact .inl this
  ·have hnl:¬ loc b:=fun h=>hnm b h f2
   refine .inr ⟨b,cap,cur,T,f1,?_,f3,f4,f5⟩
   simp only [eS,if_neg hnl,if_pos f2]
def St (ι0:Imm) (j0:Lay) (own0:Own) (w0:World) (N:Nat) (e:Env) (σ:Store) (a:Go.Act) (w:World):Prop :=
 ∃ ι j own lb,GSim ι j own σ w∧LSim ι j own lb N e a w∧Evo ι0 j0 own0 w0 ι j own w (fun _=>True)
theorem LSim.bare (hL:LSim ι j own lb N e a w):LSim ι j own lb N e.bare a w :=
 hL.sub (fun s c h=>by simp [Env.bare,jV] at h) (fun s p h=>by simp [Env.bare,jV] at h) (fun s cs h=>by simp [Env.bare,jV] at h) rfl
def StP (ι0:Imm) (j0:Lay) (own0:Own) (w0:World) (N:Nat) (d:D) (chain:List PanicEntry) (e:Env) (σ:Store) (a:Go.Act) (w:World):Prop :=
 ∃ ι j own lb,GSim ι j own σ w∧LSim ι j own lb N e a w∧Evo ι0 j0 own0 w0 ι j own w (fun _=>True)∧∃ v,chain=[{v:=v,recovered:=false}]∧Rep ι j d v
variable {ι0:Imm} {j0:Lay} {own0:Own} {w0:World} {κ:Ctx}
def lM (P:Program) (κ:Ctx) (C:dQ):Prop:=∀ f ds σ out σ',C f ds σ=some (out,σ')→mZ P κ f ds σ out σ'
def zkc (P:Program) (r:Option Nat) (ops:Array Oper) (o:Oper) (Q:Exit→Go.Act→World→Prop) (K:Go.Act→World→Prop) (a:Go.Act) (w:World):Prop :=
 if Region.wanted o (yielded ops a.tmps) then o.wpIn (FW r) 0 P a w K Q else (∀ f,o.about P w a.eval=some f→(FW r).fn f)∧K (a.put o.dst undef) w
def zwr (ι0:Imm) (j0:Lay) (own0:Own) (w0:World) (N:Nat) (C:dQ) (o':AOper) (e:Env) (σ:Store) (Q:Exit→Go.Act→World→Prop) (K:Go.Act→World→Prop):Step→Prop
 | .next e' σ'=>∀ a' w',St ι0 j0 own0 w0 N e' σ' a' w'→K a' w'
 | .call f as=>∃ out σ',C f as σ=some (out,σ')∧match out with
  | .ret c=>∀ a' w',St ι0 j0 own0 w0 N (e.put o'.dst c) σ' a' w'→K a' w'
  | .panic d=>∀ a' w' chain,StP ι0 j0 own0 w0 N d chain e σ' a' w'→Q (.panic chain) a' w'
 | .panic d=>∀ a' w' chain,StP ι0 j0 own0 w0 N d chain e σ a' w'→Q (.panic chain) a' w'
theorem zyu {o:Oper} {f:Operand} {as:Array Operand} {ts:Array TypeId} {g:FuncId} {vf vc:List Value} (ho:o.op=.call {callee:=.value f,args:=as,argTypes:=ts}) (hb:Ag P g) (hv:a.eval f=.func (.func g) ⟨vf⟩ ⟨vc⟩) :
  (execOp a.eval o).run P w=.ok (.enter g (⟨vf ++ as.toList.map a.eval ++ vc⟩)) w:=by
 obtain ⟨fn,c,h1,h2,h3⟩:=hb
 have harr:(⟨vf⟩:Array Value) ++ as.map a.eval ++ ⟨vc⟩=⟨vf ++ as.toList.map a.eval ++ vc⟩:=by
  apply Array.ext'
  simp
 simp only [execOp,ho,resolve,hv,Deferred.ofValue,Sem.run_bind,Sem.run_pure,Result.andThen_ok,invoke,harr]
 exact MuLone.run_callFunc_enter h1 h2 h3 _ w
theorem zd0b {o:Oper} {f:Operand} {as:Array Operand} {ts:Array TypeId} {b:Nat} {n:Next} {w':World} (ho:o.op=.call {callee:=.value f,args:=as,argTypes:=ts}) (hv:a.eval f=.func (.yield b) ⟨[]⟩ ⟨[]⟩) (hy:(Instr.yield b ⟨as.toList.map a.eval⟩).run P w=.ok n w') :
  (execOp a.eval o).run P w=.ok n w':=by
 have harr:(⟨[]⟩:Array Value) ++ as.map a.eval ++ ⟨[]⟩=⟨as.toList.map a.eval⟩:=by
  apply Array.ext'
  simp
 have harr':(⟨[]⟩:Array Value) ++ as.map a.eval=⟨as.toList.map a.eval⟩:=by
  apply Array.ext'
  simp
 simp only [execOp,ho,resolve,hv,Deferred.ofValue,Sem.run_bind,Sem.run_pure,Result.andThen_ok,invoke,harr,harr',hy]
theorem Lh {r:Option Nat} {ρ:Operand→Value} {o:Oper} (h:r=none∨∀ c,o.op≠.defer c):Oper.semAt (FW r).round ρ o=execOp ρ o:=by
 rw [zh5]
 cases r with
 | none=>exact Oper.semAt_none ρ o
 | some l=>exact Oper.semAt_some l ρ o (h.resolve_left (by simp))
theorem za6b {r:Option Nat} {C:dQ} (hC:lM P κ C) (hB:Base κ own0 w0) {ops:Array Oper} (hops:∀ (i:Nat) (o:Oper) (s:Nat),ops[i]?=some o→o.dst=some s→s < N) {o:Oper} {o':AOper} (hk:Qd P N ops o o'=true) (hdf:r=none∨∀ c,o.op≠.defer c)
  (hSt:St ι0 j0 own0 w0 N e σ a w) {st:Step} (h:jP o' e σ=some st) {Q:Exit→Go.Act→World→Prop} {K:Go.Act→World→Prop} (hpost:zwr ι0 j0 own0 w0 N C o' e σ Q K st):zkc P r ops o Q K a w:=by
 obtain ⟨ι,j,own,lb,hG,hL,hE⟩:=hSt
 simp only [Qd,aC] at hk
 obtain ⟨⟨hk1,hk2⟩,hk3⟩:=hk
 obtain ⟨hdst,hd⟩:=zx7 hk1
 unfold jP at h
 obtain ⟨b,hb,h⟩:=dC h
 have hw:=zlc hL hk2 (fun i s b' hg hs=>by
  cases ho:ops[i]? with
  | none=>rw [ho] at hs; cases hs
  | some oi=>rw [ho] at hs; exact hops i oi s ho hs) hb
 unfold zkc
 rw [hw]
 cases b with
 | false =>
  simp only [dH,aA] at h
  subst h
  simp only [aE,if_false]
  refine ⟨fun f _=>Rj r f,hpost _ _ ⟨ι,j,own,lb,hG,?_,hE⟩⟩
  rw [← hdst]
  cases hds:o.dst with
  | none=>exact hL
  | some s=>exact hL.putC (hd s hds) ⟨by simp only [Rep],fun h=>by cases h⟩
 | true =>
  simp only [dJ] at h
  simp only [if_true]
  -- behind a call
  have after:∀ {out:Out} {σ':Store} {en:Ending} {w':World},(match out with
    | .ret c=>∀ a' w',St ι0 j0 own0 w0 N (e.put o'.dst c) σ' a' w'→K a' w'
    | .panic d=>∀ a' w' chain,StP ι0 j0 own0 w0 N d chain e σ' a' w'→Q (.panic chain) a' w')→kA ι j (shared own) w out σ' en w' →
    (match (motive:=Ending→World→Prop) en,w' with
     | .returned v,w''=>K (a.put o.dst v) w''
     | .panicked chain,w''=>Q (.panic chain) a w''
     | .outgrown,_=>LetsOut Q):=by
   rintro out σ' en w' hpost ⟨ι',j',own1,k1,k2,k3,k4⟩
   cases out with
   | ret c =>
    cases en with
    | returned v =>
     cases hdso:o.dst with
     | none =>
      obtain ⟨eS,q1,q2,q3,_⟩:=sL hG hL k1 k2 k3 0 false c.d v (fun h=>by cases h)
      refine hpost _ _ ⟨ι',j',eS,lb,q1,?_,hE.trans q3⟩
      rw [← hdst,hdso]
      exact q2
     | some s =>
      obtain ⟨eS,q1,q2,q3,q4⟩:=sL hG hL k1 k2 k3 s c.own c.d v k4.2
      refine hpost _ _ ⟨ι',j',eS,lb,q1,?_,hE.trans q3⟩
      rw [← hdst,hdso]
      exact xB (hd s hdso) (q2.forget s) ⟨k4.1,q4⟩
    | panicked chain=>exact k4.elim
    | outgrown=>exact k4.elim
   | panic d =>
    cases en with
    | returned v=>exact k4.elim
    | outgrown=>exact k4.elim
    | panicked chain =>
     obtain ⟨eS,q1,q2,q3,_⟩:=sL hG hL k1 k2 k3 0 false d .nilFunc (fun h=>by cases h)
     obtain ⟨v,rfl,hv⟩:=k4
     exact hpost _ _ _ ⟨ι',j',eS,lb,q1,q2,hE.trans q3,v,rfl,hv⟩
  -- a call
  have called:∀ {f:Operand} {as:Array Operand} {ts:Array TypeId} {g:FuncId} {vf vc:List Value} {x ds y:List D},isY g=false→o.op=.call {callee:=.value f,args:=as,argTypes:=ts}→a.eval f=.func (.func g) ⟨vf⟩ ⟨vc⟩→dM ι j x vf→dM ι j ds (as.toList.map a.eval)→dM ι j y vc →
    st=.call g (x ++ ds ++ y)→o.wpIn (FW r) 0 P a w K Q:=by
   rintro f as ts g vf vc x ds y hY ho hv hx hds hy rfl
   obtain ⟨out,σ',hout,hpost⟩:=hpost
   obtain ⟨hbody,hcall⟩:=(lG hY).1 (hC g _ σ out σ' hout)
   unfold Oper.wpIn
   rw [Lh (.inr (fun c h=>by rw [ho] at h; cases h)),zyu ho hbody hv]
   refine ⟨fun f _=>Rj r f,fun h=>Vb r h,Yn.2 ((hcall ι j (shared own) w _ (nQ own) (hB.evo hE).shared hG.toShared ((hx.append hds).append hy)).mono ?_)⟩
   exact fun en w' hA=>after hpost hA
  have calledY:∀ {f:Operand} {as:Array Operand} {ts:Array TypeId} {id b:Nat} {ds:List D},o.op=.call {callee:=.value f,args:=as,argTypes:=ts}→a.eval f=.func (.yield b) ⟨[]⟩ ⟨[]⟩→j id=some b→dM ι j ds (as.toList.map a.eval) →
    st=.call (iG + id) ds→o.wpIn (FW r) 0 P a w K Q:=by
   rintro f as ts id b ds ho hv hj hds rfl
   obtain ⟨out,σ',hout,hpost⟩:=hpost
   have hcall:=hC _ _ σ out σ' hout
   unfold mZ at hcall
   rw [if_pos (zol id)] at hcall
   obtain ⟨fn,tmps,assign,body,hy,hround⟩:=hcall ι j (shared own) w _ b (nQ own) (hB.evo hE).shared hG.toShared hds (by rw [Nat.add_sub_cancel_left]; exact hj)
   unfold Oper.wpIn
   rw [Lh (.inr (fun c h=>by rw [ho] at h; cases h)),zd0b ho hv hy]
   refine ⟨fun f _=>Rj r f,fun h=>Vb r h,(zr3 hround).mono ?_⟩
   exact fun en w' hA=>after hpost hA
  cases hkind:o'.op.kind with
  | op =>
   rw [hkind] at h
   simp only at h
   obtain ⟨⟨e',σ'⟩,h1,h⟩:=dC h
   cases h
   rw [← hdst] at h1
   obtain ⟨nx,w',a',hrun,hnx,ι',j',own',lb',k1,k2,k3⟩:=zi2 hG hL hk3 hd h1
   have:=hpost a' w' ⟨ι',j',own',lb',k1,k2,hE.trans k3⟩
   unfold Oper.wpIn
   rw [Lh hdf,hrun]
   refine ⟨fun f _=>Rj r f,?_⟩
   rcases hnx with ⟨v,rfl,rfl⟩ | ⟨rfl,rfl⟩ | ⟨d,rfl,rfl⟩ <;> exact this
  | call =>
   rw [hkind] at h
   simp only at h
   obtain ⟨⟨g,as⟩,h1,h⟩:=dC h
   cases h
   cases hop:o'.op <;> rw [hop] at hkind h1 hk3 <;> simp only [AOp.kind,reduceCtorEq] at hkind
   ·simp only [jG] at hk3
    split at hk3
    ·rename_i f as0 ts ho
     simp only [aC] at hk3
     simp only [qA] at h1
     obtain ⟨ds,h2,h1⟩:=dC h1
     cases h1
     have hf:=dT hL hk3.1 (c:=⟨false,.fn (.func g) [] []⟩) rfl
     simp only [Rep,dM] at hf
     obtain ⟨vf,vc,hv,rfl,rfl⟩:=hf
     exact called (by simpa using hk3.2.1) ho hv (x:=[]) (y:=[]) (by simp only [dM]) (pS hL hk3.2.2 h2) (by simp only [dM]) (by simp)
    ·cases hk3
   ·simp only [jG] at hk3
    split at hk3
    ·rename_i f as0 ts ho
     simp only [aC] at hk3
     simp only [qA] at h1
     obtain ⟨c,h2,h1⟩:=dC h1
     obtain ⟨⟨g',x,y⟩,h3,h1⟩:=dC h1
     obtain ⟨ds,h4,h1⟩:=dC h1
     cases h1
     rcases zaub h3 (dT hL hk3.1 h2) with ⟨hY,vf,vc,hv,r1,r2⟩ | ⟨id,b,_,rfl,rfl,rfl,hj,hv⟩
     ·exact called hY ho hv r1 (pS hL hk3.2 h4) r2 rfl
     ·exact calledY ho hv hj (pS hL hk3.2 h4) (by simp)
    ·cases hk3
   ·simp only [jG] at hk3
    split at hk3
    ·rename_i f as0 ts ho
     simp only [aC] at hk3
     simp only [qA] at h1
     obtain ⟨ds,h2,h1⟩:=dC h1
     cases h1
     have hf:=dT hL hk3.1 (c:=⟨false,.fn (.func g) [] []⟩) rfl
     simp only [Rep,dM] at hf
     obtain ⟨vf,vc,hv,rfl,rfl⟩:=hf
     exact called (by simpa using hk3.2.1) ho hv (x:=[]) (y:=[]) (by simp only [dM]) (pS hL hk3.2.2 h2) (by simp only [dM]) (by simp)
    ·cases hk3
   ·simp only [jG] at hk3
    split at hk3
    ·rename_i f as0 ts ho
     simp only [aC] at hk3
     simp only [qA] at h1
     obtain ⟨c,h2,h1⟩:=dC h1
     obtain ⟨⟨g',x,y⟩,h3,h1⟩:=dC h1
     obtain ⟨ds,h4,h1⟩:=dC h1
     cases h1
     rcases zaub h3 (dT hL hk3.1 h2) with ⟨hY,vf,vc,hv,r1,r2⟩ | ⟨id,b,_,rfl,rfl,rfl,hj,hv⟩
     ·exact called hY ho hv r1 (pS hL hk3.2 h4) r2 rfl
     ·exact calledY ho hv hj (pS hL hk3.2 h4) (by simp)
    ·cases hk3
  | panic =>
   rw [hkind] at h
   simp only at h
   obtain ⟨d,h1,h⟩:=dC h
   cases h
   cases hop:o'.op <;> rw [hop] at hkind h1 hk3 <;> simp only [AOp.kind,reduceCtorEq] at hkind
   simp only [jG] at hk3
   split at hk3
   ·rename_i x ho
    simp only [xA] at h1
    obtain ⟨c,h2,h1⟩:=dC h1
    have hr:=dT hL hk3 h2
    cases hd':c.d <;> rw [hd'] at h1 hr <;> simp only [reduceCtorEq,aA] at h1
    subst h1
    obtain ⟨u,hu,hru⟩:=(by simpa only [Rep] using hr:∃ u,a.eval x=.iface _ u∧Rep ι j _ u)
    unfold Oper.wpIn
    have hrun:(execOp a.eval o).run P w=.halt (.panic (a.eval x)) w:=by
     simp only [execOp,ho,Instr.panic,hu,goPanic,Sem.run_bind]
     rfl
    rw [Lh hdf,hrun]
    exact ⟨fun f _=>Rj r f,hpost a w _ ⟨ι,j,own,lb,hG,hL,hE,_,rfl,hr⟩⟩
   ·cases hk3
end
end Go.Mx
namespace Go.Mx
open Go
def pE (ops:Array Oper) (k:Nat):List Nat:=match ops[k]? with
 | some o=>(o.after.toList.filter fun e=>Region.binds .any e).map (·.on)
 | none=>[]
def zwt:List Nat→List Nat→List Nat
 | [],m=>m
 | x :: l,m=>ifB (mem m x) (zwt l m) (zwt l (x :: m))
def zow (ops:Array Oper):Nat→List (List Nat)
 | 0=>[]
 | k + 1=>let t:=zow ops k; t ++ [(pE ops k).foldl (fun m d=>zwt ((nth t d).getD []) m) (pE ops k)]
def vC (t:List (List Nat)) (k:Nat):List Nat:=(nth t k).getD []
def Gt (ops:Array Oper) (t:List (List Nat)):Nat→Bool
 | 0=>true
 | k + 1=>Gt ops t k && (vC t k).all fun r=>(pE ops k).contains r || (pE ops k).any fun d=>(vC t d).contains r
def za5b (p i:AOper):Bool:=match tC p.op with
 | some s=>!(i.dst == some s)
 | none=>true
def oW (ops:Array Oper) (t:List (List Nat)):List (Nat × AOper)→Bool
 | []=>true
 | p :: l=>(!(pE ops p.1).contains p.1 && (pE ops p.1).all fun d=>decide (d < ops.size)) && (l.all fun i=>!(pE ops p.1).contains i.1 && (((vC t i.1).contains p.1 || Ie p.2 i.2) && za5b p.2 i.2)) && oW ops t l
def Br (P:Program) (N:Nat) (ops:Array Oper):List (Nat × AOper)→Bool
 | []=>true
 | p :: l=>(match ops[p.1]? with | some o=>Qd P N ops o p.2 | none=>false) && uU p.2.op && Br P N ops l
def Qc (N:Nat) (ops:Array Oper):Bool:=ops.toList.all fun o=>match o.dst with | some s=>decide (s < N) | none=>true
def Zv:List Nat→Bool
 | []=>true
 | x :: l=>!l.contains x && Zv l
def zoy (P:Program) (N:Nat) (ops:Array Oper) (l:List AOper) (perm:List Nat):Bool :=
 let t:=zow ops ops.size
 perm.length == l.length && l.length == ops.size && Zv perm && ((List.range ops.size).all fun k=>perm.contains k) && Qc N ops && Gt ops t ops.size && oW ops t (perm.zip l) && Br P N ops (perm.zip l)
def Tj (P:Program) (N:Nat) (ops:Array Oper):List Oper→List AOper→Bool
 | [],[]=>true
 | o :: l,o' :: l'=>Qd P N ops o o' && Tj P N ops l l'
 | _,_=>false
section
variable [LoopKit] {P:Program} {N:Nat} {e:Env} {a:Go.Act} {w:World} {σ:Store} {ι0:Imm} {j0:Lay} {own0:Own} {w0:World} {κ:Ctx}
theorem Um {ops:Array Oper} (h:Qc N ops=true) (i:Nat) (o:Oper) (s:Nat) (hi:ops[i]?=some o) (hs:o.dst=some s):s < N:=by
 have:=bM.1 h o (by
  have:=List.mem_of_getElem? (l:=ops.toList) (i:=i) (a:=o) (by rw [Array.getElem?_toList]; exact hi)
  exact this)
 rw [hs] at this
 simpa using this
def znv (ι0:Imm) (j0:Lay) (own0:Own) (w0:World) (N:Nat) (Q:Exit→Go.Act→World→Prop):OpsOut→Prop
 | .normal e σ=>∀ a w,St ι0 j0 own0 w0 N e σ a w→Q .normal a w
 | .panic d e σ=>∀ a w chain,StP ι0 j0 own0 w0 N d chain e σ a w→Q (.panic chain) a w
def Aq (ι0:Imm) (j0:Lay) (own0:Own) (w0:World) (N:Nat) (Q:Exit→Go.Act→World→Prop):OpsOut→Prop
 | .normal e σ=>∀ a w,St ι0 j0 own0 w0 N e σ a w→Q .normal a w
 | .panic d e σ=>∀ a w chain,StP ι0 j0 own0 w0 N d chain e.bare σ a w→Q (.panic chain) a w
theorem StP.bare {d:D} {chain:List PanicEntry} (h:StP ι0 j0 own0 w0 N d chain e σ a w):StP ι0 j0 own0 w0 N d chain e.bare σ a w:=by
 obtain ⟨ι,j,own,lb,h1,h2,h3⟩:=h
 exact ⟨ι,j,own,lb,h1,h2.bare,h3⟩
theorem Di {r:Option Nat} {C:dQ} (hC:lM P κ C) (hB:Base κ own0 w0) {ops:Array Oper} (hops:Qc N ops=true) {Q:Exit→Go.Act→World→Prop}:∀ (l:List Oper) (l':List AOper),Tj P N ops l l'=true→(r=none∨∀ o∈l,∀ c,o.op≠.defer c)→∀ {e σ a w out},gJ C l' e σ=some out→St ι0 j0 own0 w0 N e σ a w →
  znv ι0 j0 own0 w0 N Q out→wpListIn (FW r) 0 P ops Q l a w
 | [],[],_,_,e,σ,a,w,out,h,hSt,hQ=>by
  simp only [gJ,aA] at h
  subst h
  exact hQ a w hSt
 | [],_ :: _,hk,_,_,_,_,_,_,_,_,_=>by simp only [Tj,aE] at hk
 | _ :: _,[],hk,_,_,_,_,_,_,_,_,_=>by simp only [Tj,aE] at hk
 | o :: l,o' :: l',hk,hdf,e,σ,a,w,out,h,hSt,hQ=>by
  simp only [Tj,aC] at hk
  simp only [gJ] at h
  obtain ⟨st,h1,h⟩:=dC h
  simp only [wpListIn]
  have hdl:r=none∨∀ o∈l,∀ c,o.op≠.defer c:=hdf.imp id fun h o ho=>h o (by simp [ho])
  refine za6b hC hB (fun i o s hi hs=>Um hops i o s hi hs) hk.1 (hdf.imp id fun h=>h o (by simp)) hSt h1 ?_
  cases st with
  | next e' σ'=>exact fun a' w' h'=>Di hC hB hops l l' hk.2 hdl (dN h).2 h' hQ
  | call f as =>
   simp only at h
   obtain ⟨⟨r,σ'⟩,h2,h⟩:=dC h
   obtain ⟨_,h⟩:=dN h
   refine ⟨r,σ',h2,?_⟩
   cases r with
   | ret c=>exact fun a' w' h'=>Di hC hB hops l l' hk.2 hdl h h' hQ
   | panic d =>
    simp only [aA] at h
    subst h
    exact hQ
  | panic d =>
   simp only [aA] at h
   subst h
   exact hQ
theorem St.eqv {e':Env} (h:St ι0 j0 own0 w0 N e σ a w) (he:Eqv e e'):St ι0 j0 own0 w0 N e' σ a w:=by
 obtain ⟨ι,j,own,lb,h1,h2,h3⟩:=h
 exact ⟨ι,j,own,lb,h1,h2.sub (fun s c h=>⟨c,by rw [he.slots]; exact h,rfl,fun h=>h⟩) (fun s p h=>by rw [he.locs]; exact h) (fun s cs h=>⟨cs,by rw [he.boxes]; exact h,jR.refl cs⟩) he.defers.symm,h3⟩
theorem Aq.eqv {Q:Exit→Go.Act→World→Prop} {out out':OpsOut} (h:Aq ι0 j0 own0 w0 N Q out) (he:OutEqv out out'):Aq ι0 j0 own0 w0 N Q out':=by
 cases he with
 | normal he=>exact fun a w hs=>h a w (hs.eqv he.symm)
 | panic he =>
  rename_i d e e' σ
  have:e.bare=e'.bare:=by unfold Env.bare; rw [he]
  intro a w chain hs
  rw [← this] at hs
  exact h a w chain hs
theorem St.draw (h:St ι0 j0 own0 w0 N e σ a w):St ι0 j0 own0 w0 N e σ a {w with drawn:=w.drawn + 1}:=by
 obtain ⟨ι,j,own,lb,h1,h2,h3⟩:=h
 have hE:Evo ι j own w ι j own {w with drawn:=w.drawn + 1} (fun _=>False):=⟨rfl,rfl,rfl,aM _,fun _ _ _ h=>h,fun _ _ h=>h,fun _ _ _=>⟨rfl,rfl,fun _=>rfl⟩⟩
 exact ⟨ι,j,own,lb,h1.evo hE h1.holds h1.noimm h1.ownlt h1.jlt (fun _ _ _=>⟨fun h=>h,fun _ _ _ _ h=>h⟩) (fun _ _ _ h=>h),h2.evo hE (fun _ _ _ _ h=>h) (fun _ _ _=>⟨fun h=>h,fun _ _ _ _ h=>h⟩),h3.trans (hE.weaken fun _ h=>h.elim)⟩
theorem Zc {ops:Array Oper} {k:Nat} {o:Oper} (hk:ops[k]?=some o) {x:Nat} (h:x∈pE ops k):∃ e∈o.after,Region.binds .any e=true∧e.on=x:=by
 simp only [pE,hk,bF,List.mem_filter,Array.mem_toList_iff] at h
 obtain ⟨e,⟨h1,h2⟩,h3⟩:=h
 exact ⟨e,h1,h2,h3⟩
theorem Qf {ops:Array Oper} {t:List (List Nat)}:∀ {n:Nat},Gt ops t n=true→∀ k,k < n→∀ r∈vC t k,r∈pE ops k∨∃ d∈pE ops k,r∈vC t d
 | 0,_,k,hk,_,_=>by omega
 | n + 1,h,k,hk,r,hr=>by
  simp only [Gt,aC] at h
  by_cases hkn:k=n
  ·subst hkn
   have:=bM.1 h.2 r hr
   simp only [Bool.or_eq_true,List.contains_iff_mem,List.any_eq_true] at this
   exact this
  ·exact Qf h.1 k (by omega) r hr
theorem Fh {ops:Array Oper} {t:List (List Nat)}:∀ {l m:List (Nat × AOper)},m.Sublist l→oW ops t l=true→oW ops t m=true
 | _,_,.slnil,_=>rfl
 | _,_,.cons _ h,hk=>by
  simp only [oW,aC] at hk
  exact Fh h hk.2
 | _,_,.cons_cons _ h,hk=>by
  simp only [oW,aC] at hk ⊢
  refine ⟨⟨hk.1.1,?_⟩,Fh h hk.2⟩
  exact bM.2 fun x hx=>bM.1 hk.1.2 x (h.subset hx)
theorem Zx {ops:Array Oper} {t:List (List Nat)}:∀ {A B:List (Nat × AOper)} {i:Nat × AOper},oW ops t (A ++ i :: B)=true→∀ p∈A,(vC t i.1).contains p.1=true∨Ie p.2 i.2=true
 | [],_,_,_,p,hp=>by cases hp
 | q :: A,B,i,h,p,hp=>by
  simp only [aW,oW,aC] at h
  rcases aS.1 hp with rfl | hp
  ·have:=bM.1 h.1.2 i (by simp)
   simp only [aC,Bool.or_eq_true] at this
   exact this.2.1
  ·exact Zx h.2 p hp
theorem Qe {ops:Array Oper} {t:List (List Nat)}:∀ {A B:List (Nat × AOper)},oW ops t (A ++ B)=true→zwp (A.map (·.2))
 | [],_,_=>trivial
 | q :: A,B,h=>by
  simp only [aW,oW,aC] at h
  refine ⟨fun s hs a ha=>?_,Qe h.2⟩
  obtain ⟨x,hx,rfl⟩:=bF.1 ha
  have:=bM.1 h.1.2 x (by simp [hx])
  simp only [aC] at this
  have h2:=this.2.2
  unfold za5b at h2
  rw [hs] at h2
  simpa using h2
theorem vA {ops:Array Oper}:∀ {l:List (Nat × AOper)},Br P N ops l=true→∀ p∈l,(∃ o,ops[p.1]?=some o∧Qd P N ops o p.2=true)∧uU p.2.op=true
 | [],_,p,hp=>by cases hp
 | q :: l,h,p,hp=>by
  simp only [Br,aC] at h
  rcases aS.1 hp with rfl | hp
  ·refine ⟨?_,h.1.2⟩
   have:=h.1.1
   split at this
   ·rename_i o ho
    exact ⟨o,ho,this⟩
   ·cases this
  ·exact vA h.2 p hp
theorem Ul:∀ {l:List Nat},Zv l=true→l.Nodup
 | [],_=>List.nodup_nil
 | x :: l,h=>by
  simp only [Zv,aC,Bool.not_eq_true',List.contains_eq_mem,decide_eq_false_iff_not] at h
  exact List.nodup_cons.2 ⟨h.1,Ul h.2⟩
theorem zns {r:Option Nat} {C:dQ} (hC:lM P κ C) (hB:Base κ own0 w0) {ops:Array Oper} (hdf:r=none∨∀ o∈ops.toList,∀ c,o.op≠.defer c) (hops:Qc N ops=true) {t:List (List Nat)} (ht:Gt ops t ops.size=true) {Q:Exit→Go.Act→World→Prop} :
  ∀ (L:List (Nat × AOper)) (listed:Array Bool) {e σ a w out},oW ops t L=true→Br P N ops L=true→(L.map (·.1)).Nodup→listed.size=ops.size→(∀ k,k < ops.size→(listed.getD k true=false↔k∈L.map (·.1))) →
  (∀ k,k < ops.size→k ∉ L.map (·.1)→∀ r∈vC t k,r ∉ L.map (·.1))→gJ C (L.map (·.2)) e σ=some out→St ι0 j0 own0 w0 N e σ a w→Aq ι0 j0 own0 w0 N Q out→wpAnyIn (FW r) 0 P .any ops Q L.length listed a w:=by
 intro L
 generalize hn:L.length=n
 induction n generalizing L with
 | zero =>
  intro listed e σ a w out _ _ _ _ hl _ hrun hSt hQ
  have:L=[]:=bL hn
  subst this
  simp only [aZ,gJ,aA] at hrun
  subst hrun
  refine ⟨?_,hQ a w hSt⟩
  apply List.eq_nil_iff_forall_not_mem.2
  intro k hk
  obtain ⟨h1,o,ho,_⟩:=mem_ready.1 hk
  have hlt:=(Array.getElem?_eq_some_iff.1 ho).1
  have:=(hl k hlt).1 h1
  simp at this
 | succ n ih =>
  intro listed e σ a w out hp he hnd hsz hl hcl hrun hSt hQ
  have unl:∀ k,k < ops.size→listed.getD k false=true→k ∉ L.map (·.1):=by
   intro k hk h hm
   have:=(hl k hk).2 hm
   have hks:k < listed.size:=by omega
   simp only [Array.getD_eq_getD_getElem?,Array.getElem?_eq_getElem hks,Option.getD_some] at h this
   rw [h] at this
   cases this
  refine ⟨fun hnil=>?_,fun k hk=>?_⟩
  ·
   exfalso
   cases L with
   | nil=>simp at hn
   | cons p L' =>
    obtain ⟨⟨o,ho,_⟩,_⟩:=vA he p (by simp)
    have hlt:=(Array.getElem?_eq_some_iff.1 ho).1
    have:p.1∈Region.ready .any ops listed:=by
     refine mem_ready.2 ⟨(hl p.1 hlt).2 (by simp),o,ho,fun ed hed hb=>?_⟩
     have hdir:ed.on∈pE ops p.1:=by
      simp only [pE,ho,bF,List.mem_filter,Array.mem_toList_iff]
      exact ⟨ed,⟨hed,hb⟩,rfl⟩
     simp only [oW,aC,Bool.not_eq_true',List.contains_eq_mem,decide_eq_false_iff_not] at hp
     have hds:ed.on < ops.size:=by simpa using bM.1 hp.1.1.2 ed.on hdir
     have hnm:ed.on ∉ (p :: L').map (·.1):=by
      intro hm
      simp only [aO,aS,bF] at hm
      rcases hm with hm | ⟨q,hq,hqe⟩
      ·exact hp.1.1.1 (hm ▸ hdir)
      ·have:=bM.1 hp.1.2 q hq
       simp only [aC,Bool.not_eq_true',decide_eq_false_iff_not] at this
       exact this.1 (hqe ▸ hdir)
     have hks:ed.on < listed.size:=by omega
     have hnf:¬ listed.getD ed.on true=false:=fun h=>hnm ((hl ed.on hds).1 h)
     simp only [Array.getD_eq_getD_getElem?,Array.getElem?_eq_getElem hks,Option.getD_some] at hnf ⊢
     simpa using hnf
    rw [hnil] at this
    cases this
  ·obtain ⟨h1,o,ho,hall⟩:=mem_ready.1 hk
   have hlt:=(Array.getElem?_eq_some_iff.1 ho).1
   have hm:=(hl k hlt).1 h1
   obtain ⟨pr,hpr,hprk⟩:=bF.1 hm
   obtain ⟨A,B,rfl⟩:=List.append_of_mem hpr
   obtain ⟨i,oi⟩:=pr
   simp only at hprk
   subst hprk
   obtain ⟨⟨o2,ho2,hok⟩,_⟩:=vA he (i,oi) (by simp)
   rw [ho] at ho2
   cases ho2
   -- what it reaches is done
   have hdir:∀ d∈pE ops i,d < ops.size→d ∉ (A ++ (i,oi) :: B).map (·.1):=by
    intro d hd hds
    obtain ⟨ed,q1,q2,rfl⟩:=Zc ho hd
    exact unl _ hds (hall ed q1 q2)
   have hidx:∀ x∈(A ++ (i,oi) :: B).map (·.1),x < ops.size:=by
    intro x hx
    obtain ⟨q,hq,rfl⟩:=bF.1 hx
    obtain ⟨⟨oq,hoq,_⟩,_⟩:=vA he q hq
    exact (Array.getElem?_eq_some_iff.1 hoq).1
   have hreach:∀ r∈vC t i,r ∉ (A ++ (i,oi) :: B).map (·.1):=by
    intro r hr hmem
    have hrs:=hidx r hmem
    rcases Qf ht i hlt r hr with h | ⟨d,hd,hrd⟩
    ·exact hdir r h hrs hmem
    ·have hds:d < ops.size:=by
      apply Nat.lt_of_not_le
      intro hge
      obtain ⟨ed,q1,q2,rfl⟩:=Zc ho hd
      have:=hall ed q1 q2
      rw [Array.getD_eq_getD_getElem?,Array.getElem?_eq_none (by omega)] at this
      cases this
     exact hcl d hds (hdir d hd hds) r hrd hmem
   have hap:∀ p∈A.map (·.2),Ie p oi=true:=by
    intro p hp'
    obtain ⟨q,hq,rfl⟩:=bF.1 hp'
    rcases Zx hp q hq with h | h
    ·exact absurd (bF.2 ⟨q,by simp [hq],rfl⟩) (hreach q.1 (by simpa using h))
    ·exact h
   have hdr:∀ o∈A.map (·.2) ++ B.map (·.2),uU o.op=true:=by
    intro o' ho'
    rw [← aU] at ho'
    obtain ⟨q,hq,rfl⟩:=bF.1 ho'
    exact (vA he q (by simp at hq ⊢; rcases hq with h | h <;> simp [h])).2
   rw [aU,aO] at hrun
   obtain ⟨out',hrun',heq,_⟩:=zkh hap hdr (Qe hp) hrun
   have hQ':=hQ.eqv heq
   simp only [Ao] at hrun'
   obtain ⟨st,hst,hrun'⟩:=dC hrun'
   have hsub:(A ++ B).Sublist (A ++ (i,oi) :: B):=List.Sublist.append_left (List.sublist_cons_self _ _) A
   have hnd':((A ++ B).map (·.1)).Nodup:=hnd.sublist (hsub.map _)
   have hni:i ∉ (A ++ B).map (·.1):=by
    rw [aU,aO] at hnd
    rw [aU]
    intro hmem
    rw [List.nodup_append] at hnd
    obtain ⟨n1,n2,n3⟩:=hnd
    rcases bJ.1 hmem with h | h
    ·exact n3 i h i (by simp) rfl
    ·exact (List.nodup_cons.1 n2).1 h
   have hmem_iff:∀ x,x∈(A ++ (i,oi) :: B).map (·.1)↔x=i∨x∈(A ++ B).map (·.1):=by
    intro x
    simp only [aU,aO,bJ,aS]
    constructor
    ·rintro (h | h | h)
     ·exact .inr (.inl h)
     ·exact .inl h
     ·exact .inr (.inr h)
    ·rintro (h | h | h)
     ·exact .inr (.inl h)
     ·exact .inl h
     ·exact .inr (.inr h)
   have go:∀ {e' σ' a' w'},gJ C ((A ++ B).map (·.2)) e' σ'=some out'→St ι0 j0 own0 w0 N e' σ' a' w'→wpAnyIn (FW r) 0 P .any ops Q n (listed.setIfInBounds i true) a' w':=by
    intro e' σ' a' w' hr hs
    refine ih (A ++ B) (by simp at hn ⊢; omega) _ (Fh hsub hp) ?_ hnd' (by simpa using hsz) (fun x hx=>?_) (fun x hx hxn r hr' hrm=>?_) hr hs hQ'
    ·have:∀ (l:List (Nat × AOper)),(∀ p∈l,p∈A ++ (i,oi) :: B)→Br P N ops l=true:=by
      intro l
      induction l with
      | nil=>intro _; rfl
      | cons p l ihl =>
       intro hl'
       obtain ⟨⟨o3,ho3,hok3⟩,hd3⟩:=vA he p (hl' p (by simp))
       simp only [Br,ho3,hok3,hd3,bX,ihl fun q hq=>hl' q (by simp [hq])]
     exact this _ fun p hp'=>hsub.subset hp'
    ·by_cases hxi:x=i
     ·subst hxi
      have hks:x < listed.size:=by omega
      have:(listed.setIfInBounds x true).getD x true=true:=by simp [hks]
      rw [this]
      exact ⟨(fun h=>by cases h),(fun h=>absurd h hni)⟩
     ·rw [getD_set_ne true (Ne.symm hxi),hl x hx,hmem_iff]
      exact ⟨fun h=>h.resolve_left hxi,fun h=>.inr h⟩
    ·have hrm':=(hmem_iff r).2 (.inr hrm)
     by_cases hxi:x=i
     ·subst hxi
      exact hreach r hr' hrm'
     ·exact hcl x hx (fun h=>by
       rcases (hmem_iff x).1 h with h | h
       ·exact hxi h
       ·exact hxn h) r hr' hrm'
   have hgoal:zkc P r ops o Q (wpAnyIn (FW r) 0 P .any ops Q n (listed.setIfInBounds i true)) a w:=by
    refine za6b hC hB (fun i o s hi hs=>Um hops i o s hi hs) hok (hdf.imp id fun h=>h o (Array.mem_toList_iff.2 (Array.mem_of_getElem? ho))) hSt hst ?_
    rw [← aU] at hrun'
    cases st with
    | next e' σ'=>exact fun a' w' h'=>go hrun' h'
    | call f as =>
     simp only at hrun'
     obtain ⟨⟨r,σ'⟩,h2,hrun'⟩:=dC hrun'
     refine ⟨r,σ',h2,?_⟩
     cases r with
     | ret c=>exact fun a' w' h'=>go hrun' h'
     | panic d =>
      simp only [aA] at hrun'
      subst hrun'
      exact fun a' w' chain h=>hQ' a' w' chain h.bare
    | panic d =>
     simp only [aA] at hrun'
     subst hrun'
     exact fun a' w' chain h=>hQ' a' w' chain h.bare
   simp only [wpOpIn,ho]
   exact hgoal
end
end Go.Mx
