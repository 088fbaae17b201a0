/-
 Calls: what is said of one,and how a frame goes on behind it.
-/
import Derived.Conc.MuLone
import Derived.RangeFuncLeaves
import Derived.OrdersIn
import Derived.TacticsIn
import Derived.Test.YtieacpoabejcoaaGreatDoorMyOpers
set_option linter.unusedSimpArgs false
set_option linter.unusedVariables false
set_option linter.unusedSectionVars false
namespace Go.Mx
open Go
def shared (own:Own):Own:=fun b=>match own b with
 | some t=>if t.isLocal=true then none else some t
 | none=>none
theorem zks {own:Own} {b:Nat} {t:Tag} (h:shared own b=some t):own b=some t∧t.isLocal=false:=by
 unfold shared at h
 cases ho:own b with
 | none=>rw [ho] at h; cases h
 | some u =>
  rw [ho] at h
  simp only at h
  by_cases hu:u.isLocal=true
  ·rw [if_pos hu] at h; cases h
  ·rw [if_neg hu] at h; cases h; exact ⟨rfl,by simpa using hu⟩
theorem zoh {own:Own} {b:Nat} {t:Tag} (h:own b=some t) (ht:t.isLocal=false):shared own b=some t:=by
 unfold shared
 rw [h]
 simp [ht]
def zdv (own:Own):Prop:=∀ b t,own b=some t→t.isLocal=false
theorem zc1 (own:Own):zdv (shared own):=fun _ _ h=>(zks h).2
def zowb (ι:Imm) (own0:Own) (w0:World) (own:Own) (w:World) (sz:RowK) (es:List D) (v:Value):Prop :=
 (∃ a,v=.slice a es.length es.length∧(sz.el=5→es=[]))∨∃ b g0 cap cur T,v=.slice (some ⟨b,g0,none⟩) es.length cap∧(w0.heap.size≤b∨(own0 b).isSome=true)∧own b=none ∧
   w.heap[b]?=some (.cells cur T (0,0))∧(T=sz.el∧cur.size=g0 + cap * sz.sz∧(sz.el=5→g0=0))∧∀ o,g0 + es.length * sz.sz≤o→ι b o=none
def Fresh (ι:Imm) (own0:Own) (w0:World) (own:Own) (w:World) (d:D) (v:Value):Prop:=match prin d v with
 | some p=>zowb ι own0 w0 own w p.1 p.2.1 p.2.2
 | none=>True
def zbx [LoopKit] (ι:Imm) (j:Lay) (own:Own) (w:World) (out:Out) (σ':Store) (e:Ending) (w':World):Prop :=
 ∃ ι' j' own',GSim ι' j' own' σ' w'∧Evo ι j own w ι' j' own' w' (fun _=>True)∧zdv own'∧match out,e with
  | .ret c,.returned v=>Rep ι' j' c.d v∧(c.own=true→Fresh ι' own w own' w' c.d v)
  | .panic d,.panicked chain=>∃ v,chain=[{v:=v,recovered:=false}]∧Rep ι' j' d v
  | _,_=>False
structure Ctx where
 n:Nat
 K:World→Prop
 stable:∀ w w',(∀ b,b < n→w'.heap[b]?=w.heap[b]?)→K w→K w'
structure Base (κ:Ctx) (own:Own) (w:World):Prop where
 size:κ.n≤w.heap.size
 free:∀ b,b < κ.n→own b=none
 K:κ.K w
theorem Base.evo {κ:Ctx} {ι ι':Imm} {j j':Lay} {own own':Own} {w w':World} {TT:Tag→Prop} (h:Base κ own w) (hE:Evo ι j own w ι' j' own' w' TT):Base κ own' w' where
 size:=Nat.le_trans h.size hE.size
 free:=fun b hb=>by
  have hn:=h.free b hb
  rw [(hE.block b (Nat.lt_of_lt_of_le hb h.size) (fun t k=>by rw [hn] at k; cases k)).2.1,hn]
 K:=κ.stable w w' (fun b hb=>(hE.block b (Nat.lt_of_lt_of_le hb h.size) (fun t k=>by rw [h.free b hb] at k; cases k)).1) h.K
theorem Base.shared {κ:Ctx} {own:Own} {w:World} (h:Base κ own w):Base κ (shared own) w where
 size:=h.size
 free:=fun b hb=>by
  unfold Go.Mx.shared
  rw [h.free b hb]
 K:=h.K
def zi2 (P:Program) (f:FuncId):Prop:=∃ fn c,P.funcs[f]?=some fn∧(fn.name == "runtime.NumGoroutine")=false∧fn.body=some c
def FW (r:Option Nat):Fence:=match r with
 | none=>Fence.wide
 | some l=>Fence.wide.inRound l
theorem zvg (r:Option Nat):(FW r).round=r:=by cases r <;> rfl
theorem FW_fn (r:Option Nat) (f:FuncId):(FW r).fn f:=by cases r <;> exact trivial
theorem zlk (r:Option Nat):(FW r).depth.isSome=true→∀ {p:Prop},p:=fun h=>by cases r <;> cases h
theorem zlr {r:Option Nat} {n:Nat} {P:Program} {f:FuncId} {args:Array Value} {w:World} {R:Ending→World→Prop}:CallsIn (FW r) n P f args w R↔Calls P f args w R:=by
 cases r with
 | none=>exact callsIn_wide
 | some l=>exact (callsIn_wide:CallsIn Fence.wide n P f args w R↔_)
theorem zd9b {r:Option Nat} {n:Nat} {P:Program} {l:Nat} {f:FuncId} {tmps:Array Value} {assign body:Code} {w:World} {R:Ending→World→Prop} (h:RoundIn Fence.wide 0 P l f tmps assign body w R):RoundIn (FW r) n P l f tmps assign body w R:=by
 cases r with
 | none=>exact ⟨trivial,fun c cs _=>h.2 c cs (room_wide _)⟩
 | some _=>exact ⟨trivial,fun c cs _=>h.2 c cs (room_wide _)⟩
def zdk [LoopKit] (P:Program) (κ:Ctx) (f:FuncId) (ds:List D) (σ:Store) (out:Out) (σ':Store):Prop :=
 if isY f=true then ∀ ι j own w vs b,zdv own→Base κ own w→GSim ι j own σ w→RepL ι j ds vs→j (f - yldBase)=some b →
  ∃ fn tmps assign body,(Instr.yield b ⟨vs⟩).run P w=.ok (.round b fn tmps assign body) w∧RoundIn Fence.wide 0 P b fn tmps assign body w (zbx ι j own w out σ')
 else zi2 P f∧∀ ι j own w vs,zdv own→Base κ own w→GSim ι j own σ w→RepL ι j ds vs→Calls P f ⟨vs⟩ w (zbx ι j own w out σ')
theorem zcd [LoopKit] {P:Program} {κ:Ctx} {f:FuncId} {ds:List D} {σ:Store} {out:Out} {σ':Store} (hY:isY f=false) :
  zdk P κ f ds σ out σ'↔zi2 P f∧∀ ι j own w vs,zdv own→Base κ own w→GSim ι j own σ w→RepL ι j ds vs→Calls P f ⟨vs⟩ w (zbx ι j own w out σ'):=by
 unfold zdk
 rw [if_neg (by rw [hY]; simp)]
theorem zbtb (id:Nat):isY (yldBase + id)=true:=by
 unfold isY
 simp
def zl7b [LoopKit] (P:Program) (κ:Ctx) (f:FuncId) (ds:List D) (σ:Store) (out:Out) (σ':Store):Prop :=
 zi2 P f∧∀ ι j own w vs u,zdv own→Base κ own w→GSim ι j own σ w→RepL ι j ds vs→CallsD P f ⟨vs⟩ u w fun e u' w'=>u'=u∧zbx ι j own w out σ' e w'
section
variable [LoopKit] {P:Program} {ι ι':Imm} {j j':Lay} {own own':Own} {lb:Lay} {N:Nat} {e:Env} {a:Go.Act} {w w':World} {σ σ':Store}
theorem Owned.reown {t:Tag} {d:D} {v:Value} (h:∀ b,own b=some t→own' b=some t) (k:Owned ι own w t d v):Owned ι own' w t d v:=by
 unfold Owned at k ⊢
 cases hp:prin d v with
 | none=>trivial
 | some p =>
  rw [hp] at k
  rcases k with k | ⟨b,g0,cap,cur,T,h1,h2,h3⟩
  ·exact .inl k
  ·exact .inr ⟨b,g0,cap,cur,T,h1,h b h2,h3⟩
theorem zcl.reown {b:Nat} {mk:Nat→Tag} {cs:List Cell} (h:∀ i b,own b=some (mk i)→own' b=some (mk i)) (k:zcl ι j own w b mk cs):zcl ι j own' w b mk cs:=by
 obtain ⟨vs,T,h1,h2,h3⟩:=k
 refine ⟨vs,T,h1,h2,fun i c hi=>?_⟩
 obtain ⟨v,q1,q2,q3,q4⟩:=h3 i c hi
 exact ⟨v,q1,q2,q3,fun ho=>(q4 ho).reown (h i)⟩
theorem GSim.toShared (hG:GSim ι j own σ w):GSim ι j (shared own) σ w where
 holds:=hG.holds
 noimm:=fun b t h=>hG.noimm b t (zks h).1
 objs:=fun id cs h=>by
  obtain ⟨b,q1,q2,q3⟩:=hG.objs id cs h
  exact ⟨b,q1,zoh q2 rfl,q3.reown fun i b h=>zoh h rfl⟩
 tys:=hG.tys
 oth:=fun id x h=>by
  obtain ⟨b,q1,q2,q3⟩:=hG.oth id x h
  exact ⟨b,q1,zoh q2 rfl,q3⟩
 jlt:=hG.jlt
 ownlt:=fun b t h=>hG.ownlt b t (zks h).1
theorem zgd {own1:Own} (hG:GSim ι j own σ w) (hL:LSim ι j own lb N e a w) (hG1:GSim ι' j' own1 σ' w') (hE:Evo ι j (shared own) w ι' j' own1 w' (fun _=>True)) (hS:zdv own1) (s:Nat) (mark:Bool) (d:D) (v:Value)
  (hF:mark=true→Fresh ι' (shared own) w own1 w' d v) :
  ∃ own2,GSim ι' j' own2 σ' w'∧LSim ι' j' own2 lb N e a w'∧Evo ι j own w ι' j' own2 w' (fun _=>True)∧(mark=true→Owned ι' own2 w' (.slot s) d v):=by
 classical
 -- the block that is marked
 obtain ⟨mb,hmb⟩:∃ mb:Option Nat,(∀ b,mb=some b→(w.heap.size≤b∨(shared own b).isSome=true)∧own1 b=none∧b < w'.heap.size) ∧
   (mark=true→∀ p,prin d v=some p→(∃ a,p.2.2=.slice a p.2.1.length p.2.1.length∧(p.1.el=5→p.2.1=[]))∨∃ b g0 cap cur T,p.2.2=.slice (some ⟨b,g0,none⟩) p.2.1.length cap∧mb=some b∧w'.heap[b]?=some (.cells cur T (0,0))∧(T=p.1.el∧cur.size=g0 + cap * p.1.sz∧(p.1.el=5→g0=0))∧∀ o,g0 + p.2.1.length * p.1.sz≤o→ι' b o=none):=by
  cases mark with
  | false=>exact ⟨none,(fun _ h=>by cases h),(fun h=>by cases h)⟩
  | true =>
   have hF:=hF rfl
   unfold Fresh at hF
   cases hp:prin d v with
   | none=>exact ⟨none,(fun _ h=>by cases h),(fun _ p h=>by cases h)⟩
   | some p =>
    rw [hp] at hF
    rcases hF with hF | ⟨b,g0,cap,cur,T,f1,f2,f3,f4,f5,f6⟩
    ·exact ⟨none,(fun _ h=>by cases h),(fun _ q h=>by cases h; exact .inl hF)⟩
    ·exact ⟨some b,(fun b' h=>by cases h; exact ⟨f2,f3,(Array.getElem?_eq_some_iff.1 f4).1⟩),(fun _ q h=>by cases h; exact .inr ⟨b,g0,cap,cur,T,f1,rfl,f4,f5,f6⟩)⟩
 obtain ⟨hm1,hm2⟩:=hmb
 let loc:Nat→Prop:=fun b=>∃ t,own b=some t∧t.isLocal=true
 let own2:Own:=fun b=>if loc b then own b else if mb=some b then some (.slot s) else own1 b
 have hloc:∀ b,loc b→own1 b=none∧w'.heap[b]?=w.heap[b]?∧(∀ o,ι' b o=ι b o)∧b < w.heap.size∧shared own b=none:=by
  rintro b ⟨t,ht,htl⟩
  have hlt:=hG.ownlt b t ht
  have hsn:shared own b=none:=by
   unfold shared
   rw [ht]
   simp [htl]
  obtain ⟨k1,k2,k3⟩:=hE.block b hlt (fun t h=>by rw [hsn] at h; cases h)
  exact ⟨k2.trans hsn,k1,k3,hlt,hsn⟩
 have hnm:∀ b,loc b→mb≠some b:=by
  intro b hb h
  obtain ⟨k1,_,_⟩:=hm1 b h
  obtain ⟨_,_,_,q1,q2⟩:=hloc b hb
  rcases k1 with k1 | k1
  ·omega
  ·rw [q2] at k1; cases k1
 -- the shared marks stand
 have hsh:∀ b t,own1 b=some t→own2 b=some t:=by
  intro b t h
  by_cases hb:loc b
  ·rw [(hloc b hb).1] at h; cases h
  ·have hne:mb≠some b:=fun hm=>by rw [(hm1 b hm).2.1] at h; cases h
   simp only [own2,if_neg hb,if_neg hne]
   exact h
 have hE2:Evo ι j own w ι' j' own2 w' (fun t=>t.isLocal=false):=by
  refine ⟨hE.os,hE.tape,hE.output,hE.size,hE.imm,hE.lay,fun b hb ht=>?_⟩
  have hsn:shared own b=none:=by
   unfold shared
   cases ho:own b with
   | none=>rfl
   | some t =>
    have:t.isLocal=true:=by simpa using ht t ho
    simp [this]
  obtain ⟨k1,k2,k3⟩:=hE.block b hb (fun t h=>by rw [hsn] at h; cases h)
  refine ⟨k1,?_,k3⟩
  by_cases hl:loc b
  ·simp only [own2,if_pos hl]
  ·have hn:own b=none:=by
    cases ho:own b with
    | none=>rfl
    | some t=>exact absurd ⟨t,ho,by simpa using ht t ho⟩ hl
   have hne:mb≠some b:=fun hm=>by
    rcases (hm1 b hm).1 with q | q
    ·omega
    ·rw [hsn] at q; cases q
   simp only [own2,if_neg hl,if_neg hne,hn]
   exact k2.trans hsn
 have hG2:GSim ι' j' own2 σ' w':=by
  refine ⟨hG1.holds,fun b t h hu o=>?_,fun id cs h=>?_,hG1.tys,fun id x h=>?_,hG1.jlt,fun b t h=>?_⟩
  ·by_cases hb:loc b
   ·simp only [own2,if_pos hb] at h
    rw [(hloc b hb).2.2.1 o]
    exact hG.noimm b t h hu o
   ·by_cases hm:mb=some b
    ·simp only [own2,if_neg hb,if_pos hm,Option.some.injEq] at h
     subst h
     cases hu
    ·simp only [own2,if_neg hb,if_neg hm] at h
     exact hG1.noimm b t h hu o
  ·obtain ⟨b,q1,q2,q3⟩:=hG1.objs id cs h
   exact ⟨b,q1,hsh b _ q2,q3.reown fun i b h=>hsh b _ h⟩
  ·obtain ⟨b,q1,q2,q3⟩:=hG1.oth id x h
   exact ⟨b,q1,hsh b _ q2,q3⟩
  ·by_cases hb:loc b
   ·exact Nat.lt_of_lt_of_le (hloc b hb).2.2.2.1 hE.size
   ·by_cases hm:mb=some b
    ·exact (hm1 b hm).2.2
    ·simp only [own2,if_neg hb,if_neg hm] at h
     exact hG1.ownlt b t h
 refine ⟨own2,hG2,hL.evo hE2 (fun _ _ _ _ h=>by cases h) (fun _ _ _=>⟨(fun h=>by cases h),(fun _ _ _ _ h=>by cases h)⟩),hE2.weaken fun _ _=>trivial,fun hmk=>?_⟩
 have:=hm2 hmk
 unfold Owned
 cases hp:prin d v with
 | none=>trivial
 | some p =>
  rcases this p hp with this | ⟨b,g0,cap,cur,T,f1,f2,f3,f4,f5⟩
  ·exact .inl this
  ·have hnl:¬ loc b:=fun h=>hnm b h f2
   refine .inr ⟨b,g0,cap,cur,T,f1,?_,f3,f4,f5⟩
   simp only [own2,if_neg hnl,if_pos f2]
end
mutual
theorem Rep.swap {ι:Imm} {j j':Lay}:∀ (d:D) (v:Value),noPtr d=true→Rep ι j d v→Rep ι j' d v
 | .undef,_,_,h | .bool _,_,_,h | .int _ _,_,_,h | .str _,_,_,h | .nils,_,_,h | .nilp,_,_,h | .nilfn,_,_,h | .niliface,_,_,h | .empt,_,_,h | .nilmap,_,_,h=>by simpa only [Rep] using h
 | .arr _ _ _ _,_,hp,_ | .map _,_,hp,_ | .yld _,_,hp,_=>by simp only [noPtr,Bool.false_eq_true] at hp
 | .junk,_,_,_=>by simp only [Rep]
 | .list sz es,v,hp,h=>by
  simp only [noPtr] at hp
  simp only [Rep] at h ⊢
  obtain ⟨a,cap,h1,h2,h3,h4⟩:=h
  refine ⟨a,cap,h1,h2,h3,?_⟩
  rcases h4 with h4 | ⟨b,o,ha,hr⟩
  ·exact .inl h4
  ·exact .inr ⟨b,o,ha,zas.swap sz.sz es b o hp hr⟩
 | .agg cs,v,hp,h=>by
  simp only [noPtr] at hp
  simp only [Rep] at h ⊢
  obtain ⟨vs,h1,h2,h3⟩:=h
  exact ⟨vs,h1,RepL.swap cs vs hp h2,h3⟩
 | .tup ds,v,hp,h=>by
  simp only [noPtr] at hp
  simp only [Rep] at h ⊢
  obtain ⟨vs,h1,h2⟩:=h
  exact ⟨vs,h1,RepL.swap ds vs hp h2⟩
 | .ptr id off,v,hp,h=>by simp [noPtr] at hp
 | .eptr d,v,hp,h=>by
  simp only [noPtr] at hp
  simp only [Rep] at h ⊢
  obtain ⟨b,o,x,h1,h2,h3⟩:=h
  exact ⟨b,o,x,h1,h2,Rep.swap d x hp h3⟩
 | .fn f first caps,v,hp,h=>by
  simp only [noPtr,Bool.and_eq_true] at hp
  simp only [Rep] at h ⊢
  obtain ⟨vf,vc,h1,h2,h3⟩:=h
  exact ⟨vf,vc,h1,RepL.swap first vf hp.1 h2,RepL.swap caps vc hp.2 h3⟩
 | .iface t d,v,hp,h=>by
  simp only [noPtr] at hp
  simp only [Rep] at h ⊢
  obtain ⟨x,h1,h2⟩:=h
  exact ⟨x,h1,Rep.swap d x hp h2⟩
theorem RepL.swap {ι:Imm} {j j':Lay}:∀ (ds:List D) (vs:List Value),zaz ds=true→RepL ι j ds vs→RepL ι j' ds vs
 | [],_,_,h=>by simpa only [RepL] using h
 | d :: ds,vs,hp,h=>by
  simp only [zaz,Bool.and_eq_true] at hp
  simp only [RepL] at h ⊢
  obtain ⟨x,r,h1,h2,h3⟩:=h
  exact ⟨x,r,h1,Rep.swap d x hp.1 h2,RepL.swap ds r hp.2 h3⟩
theorem zas.swap {ι:Imm} {j j':Lay} (sz:Nat):∀ (ds:List D) (b o:Nat),zaz ds=true→zas ι j sz ds b o→zas ι j' sz ds b o
 | [],_,_,_,_=>by simp only [zas]
 | d :: ds,b,o,hp,h=>by
  simp only [zaz,Bool.and_eq_true] at hp
  simp only [zas] at h ⊢
  obtain ⟨⟨x,h1,h2,h3⟩,h4⟩:=h
  exact ⟨⟨x,h1,h2,Rep.swap d x hp.1 h3⟩,zas.swap sz ds b (o + sz) hp.2 h4⟩
end
def σ0:Store:={objs:=[],tys:=[],oth:=[],next:=0}
section
variable [LoopKit] {P:Program} {ι:Imm} {j:Lay} {own:Own} {w:World} {σ:Store} {κ:Ctx}
theorem GSim.empty (hG:GSim ι j own σ w):GSim ι (fun _=>none) (fun _=>none) σ0 w where
 holds:=hG.holds
 noimm:=fun _ _ h=>by cases h
 objs:=fun id cs h=>by simp [σ0,zbu] at h
 tys:=fun id t cs h=>by simp [σ0,zbu] at h
 oth:=fun id x h=>by simp [σ0,zbu] at h
 jlt:=fun _ _ h=>by cases h
 ownlt:=fun _ _ h=>by cases h
theorem GSim.onto {ι':Imm} {j':Lay} {own':Own} {σ':Store} {w':World} (hG:GSim ι j own σ w) (hG':GSim ι' j' own' σ' w') (hE:Evo ι (fun _=>none) (fun _=>none) w ι' j' own' w' (fun _=>True)) :
  GSim ι' j own σ w'∧Evo ι j own w ι' j own w' (fun _=>True):=by
 have hE2:Evo ι j own w ι' j own w' (fun _=>False):=⟨hE.os,hE.tape,hE.output,hE.size,hE.imm,fun _ _ h=>h,fun b hb _=>by
  obtain ⟨k1,_,k3⟩:=hE.block b hb (fun t h=>by cases h)
  exact ⟨k1,rfl,k3⟩⟩
 refine ⟨hG.evo hE2 hG'.holds (fun b t h hu o=>?_) (fun b t h=>Nat.lt_of_lt_of_le (hG.ownlt b t h) hE.size) hG.jlt (fun _ _ _=>⟨fun h=>h,fun _ _ _ _ h=>h⟩) (fun _ _ _ h=>h),hE2.weaken fun _ h=>h.elim⟩
 rw [(hE2.block b (hG.ownlt b t h) (fun _ _ h=>h)).2.2 o]
 exact hG.noimm b t h hu o
def Out.clean:Out→Bool
 | .ret c=>noPtr c.d
 | .panic d=>noPtr d
theorem zis {f:FuncId} {ds:List D} {out:Out} {σ':Store} (hY:isY f=false) (h:zdk P κ f ds σ0 out σ') (hd:zaz ds=true) (hc:out.clean=true) (σ:Store):zdk P κ f ds σ out σ:=by
 replace h:=(zcd hY).1 h
 refine (zcd hY).2 ⟨h.1,fun ι j own w vs hS hB hG hr=>?_⟩
 refine (h.2 ι (fun _=>none) (fun _=>none) w vs (fun _ _ h=>by cases h) ⟨hB.size,fun _ _=>rfl,hB.K⟩ hG.empty (RepL.swap ds vs hd hr)).mono ?_
 rintro e w' ⟨ι',j',own',k1,k2,k3,k4⟩
 obtain ⟨g1,g2⟩:=hG.onto k1 k2
 refine ⟨ι',j,own,g1,g2,hS,?_⟩
 cases out with
 | ret c =>
  cases e with
  | returned v =>
   simp only at k4 ⊢
   refine ⟨Rep.swap c.d v hc k4.1,fun ho=>?_⟩
   have hF:=k4.2 ho
   unfold Fresh at hF ⊢
   cases hp:prin c.d v with
   | none=>trivial
   | some p =>
    rw [hp] at hF
    rcases hF with hF | ⟨b,g0,cap,cur,T,f1,f2,f3,f4,f5,f6⟩
    ·exact .inl hF
    ·have hb:w.heap.size≤b:=f2.resolve_right (by simp)
     refine .inr ⟨b,g0,cap,cur,T,f1,.inl hb,?_,f4,f5,f6⟩
     cases ho:own b with
     | none=>rfl
     | some t=>have:=hG.ownlt b t ho; omega
  | panicked chain=>exact k4.elim
  | outgrown=>exact k4.elim
 | panic d =>
  cases e with
  | returned v=>exact k4.elim
  | outgrown=>exact k4.elim
  | panicked chain =>
   obtain ⟨v,rfl,hv⟩:=k4
   exact ⟨v,rfl,Rep.swap d v hc hv⟩
end
section
variable [LoopKit] {P:Program} {ι ι':Imm} {j j':Lay} {own own':Own} {lb:Lay} {N:Nat} {e:Env} {a:Go.Act} {w w':World} {σ σ':Store}
def St (ι0:Imm) (j0:Lay) (own0:Own) (w0:World) (N:Nat) (e:Env) (σ:Store) (a:Go.Act) (w:World):Prop :=
 ∃ ι j own lb,GSim ι j own σ w∧LSim ι j own lb N e a w∧Evo ι0 j0 own0 w0 ι j own w (fun _=>True)
theorem LSim.bare (hL:LSim ι j own lb N e a w):LSim ι j own lb N e.bare a w :=
 hL.sub (fun s c h=>by simp [Env.bare,zbu] at h) (fun s p h=>by simp [Env.bare,zbu] at h) (fun s cs h=>by simp [Env.bare,zbu] at h) rfl
def StP (ι0:Imm) (j0:Lay) (own0:Own) (w0:World) (N:Nat) (d:D) (chain:List PanicEntry) (e:Env) (σ:Store) (a:Go.Act) (w:World):Prop :=
 ∃ ι j own lb,GSim ι j own σ w∧LSim ι j own lb N e a w∧Evo ι0 j0 own0 w0 ι j own w (fun _=>True)∧∃ v,chain=[{v:=v,recovered:=false}]∧Rep ι j d v
variable {ι0:Imm} {j0:Lay} {own0:Own} {w0:World} {κ:Ctx}
def zcm (P:Program) (κ:Ctx) (C:CallF):Prop:=∀ f ds σ out σ',C f ds σ=some (out,σ')→zdk P κ f ds σ out σ'
def zxo (P:Program) (r:Option Nat) (ops:Array Oper) (o:Oper) (Q:Exit→Go.Act→World→Prop) (K:Go.Act→World→Prop) (a:Go.Act) (w:World):Prop :=
 if Region.wanted o (yielded ops a.tmps) then o.wpIn (FW r) 0 P a w K Q else (∀ f,o.about P w a.eval=some f→(FW r).fn f)∧K (a.put o.dst undef) w
def zinb (ι0:Imm) (j0:Lay) (own0:Own) (w0:World) (N:Nat) (C:CallF) (o':AOper) (e:Env) (σ:Store) (Q:Exit→Go.Act→World→Prop) (K:Go.Act→World→Prop):Step→Prop
 | .next e' σ'=>∀ a' w',St ι0 j0 own0 w0 N e' σ' a' w'→K a' w'
 | .call f as=>∃ out σ',C f as σ=some (out,σ')∧match out with
  | .ret c=>∀ a' w',St ι0 j0 own0 w0 N (e.put o'.dst c) σ' a' w'→K a' w'
  | .panic d=>∀ a' w' chain,StP ι0 j0 own0 w0 N d chain e σ' a' w'→Q (.panic chain) a' w'
 | .panic d=>∀ a' w' chain,StP ι0 j0 own0 w0 N d chain e σ a' w'→Q (.panic chain) a' w'
theorem zxv {o:Oper} {f:Operand} {as:Array Operand} {ts:Array TypeId} {g:FuncId} {vf vc:List Value} (ho:o.op=.call {callee:=.value f,args:=as,argTypes:=ts}) (hb:zi2 P g) (hv:a.eval f=.func (.func g) ⟨vf⟩ ⟨vc⟩) :
  (execOp a.eval o).run P w=.ok (.enter g (⟨vf ++ as.toList.map a.eval ++ vc⟩)) w:=by
 obtain ⟨fn,c,h1,h2,h3⟩:=hb
 have harr:(⟨vf⟩:Array Value) ++ as.map a.eval ++ ⟨vc⟩=⟨vf ++ as.toList.map a.eval ++ vc⟩:=by
  apply Array.ext'
  simp
 simp only [execOp,ho,resolve,hv,Deferred.ofValue,Sem.run_bind,Sem.run_pure,Result.andThen_ok,invoke,harr]
 exact MuLone.run_callFunc_enter h1 h2 h3 _ w
theorem zogb {o:Oper} {f:Operand} {as:Array Operand} {ts:Array TypeId} {b:Nat} {n:Next} {w':World} (ho:o.op=.call {callee:=.value f,args:=as,argTypes:=ts}) (hv:a.eval f=.func (.yield b) ⟨[]⟩ ⟨[]⟩) (hy:(Instr.yield b ⟨as.toList.map a.eval⟩).run P w=.ok n w') :
  (execOp a.eval o).run P w=.ok n w':=by
 have harr:(⟨[]⟩:Array Value) ++ as.map a.eval ++ ⟨[]⟩=⟨as.toList.map a.eval⟩:=by
  apply Array.ext'
  simp
 have harr':(⟨[]⟩:Array Value) ++ as.map a.eval=⟨as.toList.map a.eval⟩:=by
  apply Array.ext'
  simp
 simp only [execOp,ho,resolve,hv,Deferred.ofValue,Sem.run_bind,Sem.run_pure,Result.andThen_ok,invoke,harr,harr',hy]
theorem zhh {r:Option Nat} {ρ:Operand→Value} {o:Oper} (h:r=none∨∀ c,o.op≠.defer c):Oper.semAt (FW r).round ρ o=execOp ρ o:=by
 rw [zvg]
 cases r with
 | none=>exact Oper.semAt_none ρ o
 | some l=>exact Oper.semAt_some l ρ o (h.resolve_left (by simp))
theorem op_wp {r:Option Nat} {C:CallF} (hC:zcm P κ C) (hB:Base κ own0 w0) {ops:Array Oper} (hops:∀ (i:Nat) (o:Oper) (s:Nat),ops[i]?=some o→o.dst=some s→s < N) {o:Oper} {o':AOper} (hk:znz P N ops o o'=true) (hdf:r=none∨∀ c,o.op≠.defer c)
  (hSt:St ι0 j0 own0 w0 N e σ a w) {st:Step} (h:stepOp C o' e σ=some st) {Q:Exit→Go.Act→World→Prop} {K:Go.Act→World→Prop} (hpost:zinb ι0 j0 own0 w0 N C o' e σ Q K st):zxo P r ops o Q K a w:=by
 obtain ⟨ι,j,own,lb,hG,hL,hE⟩:=hSt
 simp only [znz,Bool.and_eq_true] at hk
 obtain ⟨⟨hk1,hk2⟩,hk3⟩:=hk
 obtain ⟨hdst,hd⟩:=zkyb hk1
 unfold stepOp at h
 obtain ⟨b,hb,h⟩:=zaa h
 have hw:=zyq hL hk2 (fun i s b' hg hs=>by
  cases ho:ops[i]? with
  | none=>rw [ho] at hs; cases hs
  | some oi=>rw [ho] at hs; exact hops i oi s ho hs) hb
 unfold zxo
 rw [hw]
 cases b with
 | false =>
  simp only [zad,Option.some.injEq] at h
  subst h
  simp only [Bool.false_eq_true,if_false]
  refine ⟨fun f _=>FW_fn r f,hpost _ _ ⟨ι,j,own,lb,hG,?_,hE⟩⟩
  rw [← hdst]
  cases hds:o.dst with
  | none=>exact hL
  | some s=>exact hL.putC (hd s hds) ⟨by simp only [Rep],fun h=>by cases h⟩
 | true =>
  simp only [zac] at h
  simp only [if_true]
  -- behind a call
  have after:∀ {out:Out} {σ':Store} {en:Ending} {w':World},(match out with
    | .ret c=>∀ a' w',St ι0 j0 own0 w0 N (e.put o'.dst c) σ' a' w'→K a' w'
    | .panic d=>∀ a' w' chain,StP ι0 j0 own0 w0 N d chain e σ' a' w'→Q (.panic chain) a' w')→zbx ι j (shared own) w out σ' en w' →
    (match (motive:=Ending→World→Prop) en,w' with
     | .returned v,w''=>K (a.put o.dst v) w''
     | .panicked chain,w''=>Q (.panic chain) a w''
     | .outgrown,_=>LetsOut Q):=by
   rintro out σ' en w' hpost ⟨ι',j',own1,k1,k2,k3,k4⟩
   cases out with
   | ret c =>
    cases en with
    | returned v =>
     cases hdso:o.dst with
     | none =>
      obtain ⟨own2,q1,q2,q3,_⟩:=zgd hG hL k1 k2 k3 0 false c.d v (fun h=>by cases h)
      refine hpost _ _ ⟨ι',j',own2,lb,q1,?_,hE.trans q3⟩
      rw [← hdst,hdso]
      exact q2
     | some s =>
      obtain ⟨own2,q1,q2,q3,q4⟩:=zgd hG hL k1 k2 k3 s c.own c.d v k4.2
      refine hpost _ _ ⟨ι',j',own2,lb,q1,?_,hE.trans q3⟩
      rw [← hdst,hdso]
      exact zhe (hd s hdso) (q2.forget s) ⟨k4.1,q4⟩
    | panicked chain=>exact k4.elim
    | outgrown=>exact k4.elim
   | panic d =>
    cases en with
    | returned v=>exact k4.elim
    | outgrown=>exact k4.elim
    | panicked chain =>
     obtain ⟨own2,q1,q2,q3,_⟩:=zgd hG hL k1 k2 k3 0 false d .nilFunc (fun h=>by cases h)
     obtain ⟨v,rfl,hv⟩:=k4
     exact hpost _ _ _ ⟨ι',j',own2,lb,q1,q2,hE.trans q3,v,rfl,hv⟩
  -- a call
  have called:∀ {f:Operand} {as:Array Operand} {ts:Array TypeId} {g:FuncId} {vf vc:List Value} {x ds y:List D},isY g=false→o.op=.call {callee:=.value f,args:=as,argTypes:=ts}→a.eval f=.func (.func g) ⟨vf⟩ ⟨vc⟩→RepL ι j x vf→RepL ι j ds (as.toList.map a.eval)→RepL ι j y vc →
    st=.call g (x ++ ds ++ y)→o.wpIn (FW r) 0 P a w K Q:=by
   rintro f as ts g vf vc x ds y hY ho hv hx hds hy rfl
   obtain ⟨out,σ',hout,hpost⟩:=hpost
   obtain ⟨hbody,hcall⟩:=(zcd hY).1 (hC g _ σ out σ' hout)
   unfold Oper.wpIn
   rw [zhh (.inr (fun c h=>by rw [ho] at h; cases h)),zxv ho hbody hv]
   refine ⟨fun f _=>FW_fn r f,fun h=>zlk r h,zlr.2 ((hcall ι j (shared own) w _ (zc1 own) (hB.evo hE).shared hG.toShared ((hx.append hds).append hy)).mono ?_)⟩
   exact fun en w' hA=>after hpost hA
  have calledY:∀ {f:Operand} {as:Array Operand} {ts:Array TypeId} {id b:Nat} {ds:List D},o.op=.call {callee:=.value f,args:=as,argTypes:=ts}→a.eval f=.func (.yield b) ⟨[]⟩ ⟨[]⟩→j id=some b→RepL ι j ds (as.toList.map a.eval) →
    st=.call (yldBase + id) ds→o.wpIn (FW r) 0 P a w K Q:=by
   rintro f as ts id b ds ho hv hj hds rfl
   obtain ⟨out,σ',hout,hpost⟩:=hpost
   have hcall:=hC _ _ σ out σ' hout
   unfold zdk at hcall
   rw [if_pos (zbtb id)] at hcall
   obtain ⟨fn,tmps,assign,body,hy,hround⟩:=hcall ι j (shared own) w _ b (zc1 own) (hB.evo hE).shared hG.toShared hds (by rw [Nat.add_sub_cancel_left]; exact hj)
   unfold Oper.wpIn
   rw [zhh (.inr (fun c h=>by rw [ho] at h; cases h)),zogb ho hv hy]
   refine ⟨fun f _=>FW_fn r f,fun h=>zlk r h,(zd9b hround).mono ?_⟩
   exact fun en w' hA=>after hpost hA
  cases hkind:o'.op.kind with
  | op =>
   rw [hkind] at h
   simp only at h
   obtain ⟨⟨e',σ'⟩,h1,h⟩:=zaa h
   cases h
   rw [← hdst] at h1
   obtain ⟨nx,w',a',hrun,hnx,ι',j',own',lb',k1,k2,k3⟩:=zv7 hG hL hk3 hd h1
   have:=hpost a' w' ⟨ι',j',own',lb',k1,k2,hE.trans k3⟩
   unfold Oper.wpIn
   rw [zhh hdf,hrun]
   refine ⟨fun f _=>FW_fn r f,?_⟩
   rcases hnx with ⟨v,rfl,rfl⟩ | ⟨rfl,rfl⟩ | ⟨d,rfl,rfl⟩ <;> exact this
  | call =>
   rw [hkind] at h
   simp only at h
   obtain ⟨⟨g,as⟩,h1,h⟩:=zaa h
   cases h
   cases hop:o'.op <;> rw [hop] at hkind h1 hk3 <;> simp only [AOp.kind,reduceCtorEq] at hkind
   ·simp only [okOp] at hk3
    split at hk3
    ·rename_i f as0 ts ho
     simp only [Bool.and_eq_true] at hk3
     simp only [zc8] at h1
     obtain ⟨ds,h2,h1⟩:=zaa h1
     cases h1
     have hf:=zah hL hk3.1 (c:=⟨false,.fn (.func g) [] []⟩) rfl
     simp only [Rep,RepL] at hf
     obtain ⟨vf,vc,hv,rfl,rfl⟩:=hf
     exact called (by simpa using hk3.2.1) ho hv (x:=[]) (y:=[]) (by simp only [RepL]) (zdw hL hk3.2.2 h2) (by simp only [RepL]) (by simp)
    ·cases hk3
   ·simp only [okOp] at hk3
    split at hk3
    ·rename_i f as0 ts ho
     simp only [Bool.and_eq_true] at hk3
     simp only [zc8] at h1
     obtain ⟨c,h2,h1⟩:=zaa h1
     obtain ⟨⟨g',x,y⟩,h3,h1⟩:=zaa h1
     obtain ⟨ds,h4,h1⟩:=zaa h1
     cases h1
     rcases fn_of h3 (zah hL hk3.1 h2) with ⟨hY,vf,vc,hv,r1,r2⟩ | ⟨id,b,_,rfl,rfl,rfl,hj,hv⟩
     ·exact called hY ho hv r1 (zdw hL hk3.2 h4) r2 rfl
     ·exact calledY ho hv hj (zdw hL hk3.2 h4) (by simp)
    ·cases hk3
   ·simp only [okOp] at hk3
    split at hk3
    ·rename_i f as0 ts ho
     simp only [Bool.and_eq_true] at hk3
     simp only [zc8] at h1
     obtain ⟨ds,h2,h1⟩:=zaa h1
     cases h1
     have hf:=zah hL hk3.1 (c:=⟨false,.fn (.func g) [] []⟩) rfl
     simp only [Rep,RepL] at hf
     obtain ⟨vf,vc,hv,rfl,rfl⟩:=hf
     exact called (by simpa using hk3.2.1) ho hv (x:=[]) (y:=[]) (by simp only [RepL]) (zdw hL hk3.2.2 h2) (by simp only [RepL]) (by simp)
    ·cases hk3
   ·simp only [okOp] at hk3
    split at hk3
    ·rename_i f as0 ts ho
     simp only [Bool.and_eq_true] at hk3
     simp only [zc8] at h1
     obtain ⟨c,h2,h1⟩:=zaa h1
     obtain ⟨⟨g',x,y⟩,h3,h1⟩:=zaa h1
     obtain ⟨ds,h4,h1⟩:=zaa h1
     cases h1
     rcases fn_of h3 (zah hL hk3.1 h2) with ⟨hY,vf,vc,hv,r1,r2⟩ | ⟨id,b,_,rfl,rfl,rfl,hj,hv⟩
     ·exact called hY ho hv r1 (zdw hL hk3.2 h4) r2 rfl
     ·exact calledY ho hv hj (zdw hL hk3.2 h4) (by simp)
    ·cases hk3
  | pure =>
   rw [hkind] at h
   simp only at h
   obtain ⟨⟨g,as⟩,h1,h⟩:=zaa h
   obtain ⟨v,h2,h⟩:=zaa h
   cases h
   simp only at h2
   unfold pureC at h2
   obtain ⟨hn,h2⟩:=zae h2
   obtain ⟨⟨out,σ1⟩,h3,h2⟩:=zaa h2
   cases out with
   | panic d=>cases h2
   | ret c =>
    obtain ⟨hc,h2⟩:=zae h2
    cases h2
    cases hop:o'.op <;> rw [hop] at hkind h1 hk3 <;> simp only [AOp.kind,reduceCtorEq] at hkind
    simp only [okOp] at hk3
    split at hk3
    ·rename_i f as0 ts ho
     simp only [Bool.and_eq_true] at hk3
     simp only [zc8] at h1
     obtain ⟨ds,h2,h1⟩:=zaa h1
     cases h1
     have hY:isY g=false:=by simpa using hk3.2.1
     have hf:=zah hL hk3.1 (c:=⟨false,.fn (.func g) [] []⟩) rfl
     simp only [Rep,RepL] at hf
     obtain ⟨vf,vc,hv,rfl,rfl⟩:=hf
     have hOK:=zis hY (hC g _ _ (.ret c) σ1 h3) hn hc σ
     obtain ⟨hbody,hcall⟩:=(zcd hY).1 hOK
     unfold Oper.wpIn
     rw [zhh (.inr (fun c h=>by rw [ho] at h; cases h)),zxv ho hbody hv]
     refine ⟨fun f _=>FW_fn r f,fun h=>zlk r h,zlr.2 ((hcall ι j (shared own) w _ (zc1 own) (hB.evo hE).shared hG.toShared (by simpa using zdw hL hk3.2.2 h2)).mono ?_)⟩
     intro en w' hA
     refine after (out:=.ret ⟨false,c.d⟩) (σ':=σ) hpost ?_
     obtain ⟨ι',j',own1,k1,k2,k3,k4⟩:=hA
     refine ⟨ι',j',own1,k1,k2,k3,?_⟩
     cases en with
     | returned v=>exact ⟨k4.1,fun h=>by cases h⟩
     | panicked chain=>exact k4
     | outgrown=>exact k4
    ·cases hk3
  | panic =>
   rw [hkind] at h
   simp only at h
   obtain ⟨d,h1,h⟩:=zaa h
   cases h
   cases hop:o'.op <;> rw [hop] at hkind h1 hk3 <;> simp only [AOp.kind,reduceCtorEq] at hkind
   simp only [okOp] at hk3
   split at hk3
   ·rename_i x ho
    simp only [zhb] at h1
    obtain ⟨c,h2,h1⟩:=zaa h1
    have hr:=zah hL hk3 h2
    cases hd':c.d <;> rw [hd'] at h1 hr <;> simp only [reduceCtorEq,Option.some.injEq] at h1
    subst h1
    obtain ⟨u,hu,hru⟩:=(by simpa only [Rep] using hr:∃ u,a.eval x=.iface _ u∧Rep ι j _ u)
    unfold Oper.wpIn
    have hrun:(execOp a.eval o).run P w=.halt (.panic (a.eval x)) w:=by
     simp only [execOp,ho,Instr.panic,hu,goPanic,Sem.run_bind]
     rfl
    rw [zhh hdf,hrun]
    exact ⟨fun f _=>FW_fn r f,hpost a w _ ⟨ι,j,own,lb,hG,hL,hE,_,rfl,hr⟩⟩
   ·cases hk3
end
end Go.Mx
