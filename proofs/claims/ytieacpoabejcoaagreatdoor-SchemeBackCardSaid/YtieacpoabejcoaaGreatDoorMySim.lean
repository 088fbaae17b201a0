/-
 How the small machine's data lie in a world: the relations,and what keeps them.
-/
import Derived.WalkKit
import Derived.Test.YtieacpoabejcoaaGreatDoorMyCore
set_option linter.unusedSimpArgs false
set_option linter.unusedVariables false
set_option linter.unusedSectionVars false
namespace Go.Mx
open Go
abbrev Imm:=Nat→Nat→Option Value
def At (ι:Imm) (b o:Nat) (v:Value):Prop:=∀ i x,v.cells[i]?=some x→ι b (o + i)=some x
mutual
def Rep (ι:Imm) (j:Nat→Option Nat):D→Value→Prop
 | .undef,v=>v=Go.undef
 | .bool b,v=>v=.bool b
 | .int k n,v=>v=.int k n
 | .str s,v=>v=.string ⟨⟨s⟩⟩
 | .nils,v=>v=.slice none 0 0
 | .list sz es,v=>∃ a cap,v=.slice a es.length cap∧es.length≤cap∧cap≤maxLen∧(es=[]∨∃ b o,a=some ⟨b,o,none⟩∧zas ι j sz.sz es b o)
 | .agg cs,v=>∃ vs,v=.agg ⟨vs⟩∧RepL ι j cs vs∧∀ x∈vs,x.oneCell'=true
 | .tup ds,v=>∃ vs,v=.tuple ⟨vs⟩∧RepL ι j ds vs
 | .nilp,v=>v=.pointer none
 | .ptr id off,v=>∃ b,j id=some b∧v=.pointer (some ⟨b,off,none⟩)
 | .eptr d,v=>∃ b o x,v=.pointer (some ⟨b,o,none⟩)∧At ι b o x∧Rep ι j d x
 | .fn f first caps,v=>∃ vf vc,v=.func f ⟨vf⟩ ⟨vc⟩∧RepL ι j first vf∧RepL ι j caps vc
 | .nilfn,v=>v=.nilFunc
 | .iface t d,v=>∃ x,v=.iface t x∧Rep ι j d x
 | .niliface,v=>v=.nilIface
 | .junk,_=>True
 | .arr k id off len,v=>∃ b c a,j id=some b∧j (id + 1)=some c∧(off + len≤c∧c≤maxLen)∧v=.slice (some a) len (c - off)∧(off=c∨a=⟨b,off * k.sz,none⟩)
 | .empt,v=>∃ a,v=.slice a 0 0
 | .map id,v=>∃ b,j id=some b∧v=.map (some b)
 | .nilmap,v=>v=.map none
 | .yld id,v=>∃ b,j id=some b∧v=.func (.yield b) ⟨[]⟩ ⟨[]⟩
def RepL (ι:Imm) (j:Nat→Option Nat):List D→List Value→Prop
 | [],vs=>vs=[]
 | d :: ds,vs=>∃ x r,vs=x :: r∧Rep ι j d x∧RepL ι j ds r
def zas (ι:Imm) (j:Nat→Option Nat) (sz:Nat):List D→Nat→Nat→Prop
 | [],_,_=>True
 | d :: ds,b,o=>(∃ x,At ι b o x∧x.cells.size=sz∧Rep ι j d x)∧zas ι j sz ds b (o + sz)
end
section mono
variable {ι ι':Imm} {j j':Nat→Option Nat}
theorem At.mono (hι:∀ b o v,ι b o=some v→ι' b o=some v) {b o:Nat} {v:Value} (h:At ι b o v):At ι' b o v:=fun i x hx=>hι _ _ _ (h i x hx)
mutual
theorem Rep.mono (hι:∀ b o v,ι b o=some v→ι' b o=some v) (hj:∀ i b,j i=some b→j' i=some b):∀ (d:D) (v:Value),Rep ι j d v→Rep ι' j' d v
 | .undef,_,h | .bool _,_,h | .int _ _,_,h | .str _,_,h | .nils,_,h | .nilp,_,h | .nilfn,_,h | .niliface,_,h=>by simpa only [Rep] using h
 | .junk,_,_=>by simp only [Rep]
 | .list sz es,v,h=>by
  simp only [Rep] at h ⊢
  obtain ⟨a,cap,h1,h2,h3,h4⟩:=h
  refine ⟨a,cap,h1,h2,h3,?_⟩
  rcases h4 with h4 | ⟨b,o,ha,hr⟩
  ·exact .inl h4
  ·exact .inr ⟨b,o,ha,zas.mono hι hj sz.sz es b o hr⟩
 | .agg cs,v,h=>by
  simp only [Rep] at h ⊢
  obtain ⟨vs,h1,h2,h3⟩:=h
  exact ⟨vs,h1,RepL.mono hι hj cs vs h2,h3⟩
 | .tup ds,v,h=>by
  simp only [Rep] at h ⊢
  obtain ⟨vs,h1,h2⟩:=h
  exact ⟨vs,h1,RepL.mono hι hj ds vs h2⟩
 | .ptr id off,v,h=>by
  simp only [Rep] at h ⊢
  obtain ⟨b,h1,h2⟩:=h
  exact ⟨b,hj _ _ h1,h2⟩
 | .eptr d,v,h=>by
  simp only [Rep] at h ⊢
  obtain ⟨b,o,x,h1,h2,h3⟩:=h
  exact ⟨b,o,x,h1,h2.mono hι,Rep.mono hι hj d x h3⟩
 | .fn f first caps,v,h=>by
  simp only [Rep] at h ⊢
  obtain ⟨vf,vc,h1,h2,h3⟩:=h
  exact ⟨vf,vc,h1,RepL.mono hι hj first vf h2,RepL.mono hι hj caps vc h3⟩
 | .iface t d,v,h=>by
  simp only [Rep] at h ⊢
  obtain ⟨x,h1,h2⟩:=h
  exact ⟨x,h1,Rep.mono hι hj d x h2⟩
 | .arr k id off len,v,h=>by
  simp only [Rep] at h ⊢
  obtain ⟨b,c,a,h1,h2,h3⟩:=h
  exact ⟨b,c,a,hj _ _ h1,hj _ _ h2,h3⟩
 | .empt,v,h=>by simpa only [Rep] using h
 | .nilmap,v,h=>by simpa only [Rep] using h
 | .map id,v,h=>by
  simp only [Rep] at h ⊢
  obtain ⟨b,h1,h2⟩:=h
  exact ⟨b,hj _ _ h1,h2⟩
 | .yld id,v,h=>by
  simp only [Rep] at h ⊢
  obtain ⟨b,h1,h2⟩:=h
  exact ⟨b,hj _ _ h1,h2⟩
theorem RepL.mono (hι:∀ b o v,ι b o=some v→ι' b o=some v) (hj:∀ i b,j i=some b→j' i=some b):∀ (ds:List D) (vs:List Value),RepL ι j ds vs→RepL ι' j' ds vs
 | [],_,h=>by simpa only [RepL] using h
 | d :: ds,vs,h=>by
  simp only [RepL] at h ⊢
  obtain ⟨x,r,h1,h2,h3⟩:=h
  exact ⟨x,r,h1,Rep.mono hι hj d x h2,RepL.mono hι hj ds r h3⟩
theorem zas.mono (hι:∀ b o v,ι b o=some v→ι' b o=some v) (hj:∀ i b,j i=some b→j' i=some b) (sz:Nat):∀ (ds:List D) (b o:Nat),zas ι j sz ds b o→zas ι' j' sz ds b o
 | [],_,_,_=>by simp only [zas]
 | d :: ds,b,o,h=>by
  simp only [zas] at h ⊢
  obtain ⟨⟨x,h1,h2,h3⟩,h4⟩:=h
  exact ⟨⟨x,h1.mono hι,h2,Rep.mono hι hj d x h3⟩,zas.mono hι hj sz ds b (o + sz) h4⟩
end
end mono
/-! ### Small facts -/
theorem zh0 {α:Type}:∀ (l:List α) (i:Nat),nth l i=l[i]?
 | [],_=>by simp [nth]
 | _ :: _,0=>by simp [nth]
 | _ :: l,n + 1=>by simp [nth,zh0 l n]
theorem zbu {α:Type} (s:Nat):aget ([]:List (Nat × α)) s=none:=rfl
theorem zat {α:Type} (k:Nat) (v:α) (r:List (Nat × α)) (s:Nat):aget ((k,v) :: r) s=if k=s then some v else aget r s:=by
 by_cases h:k=s
 ·subst h; simp [aget,ifB]
 ·have:(k == s)=false:=by simpa using h
  simp [aget,ifB,this,h]
theorem zak {α:Type}:∀ (l:List (Nat × α)) (s t:Nat) (x:α),aget (aset l s x) t=if s=t then some x else aget l t
 | [],s,t,x=>by simp [aset,zat,zbu]
 | (k,v) :: r,s,t,x=>by
  by_cases h:k=s
  ·subst h
   have:(k == k)=true:=by simp
   simp only [aset,this,zac,zat]
   split <;> rfl
  ·have:(k == s)=false:=by simpa using h
   simp only [aset,this,zad]
   cases hb:Nat.ble s k with
   | true=>rw [zac,zat]
   | false =>
    rw [zad,zat,zat,zak r s t x]
    by_cases h1:k=t
    ·subst h1
     simp only [if_true]
     rw [if_neg (fun e=>h e.symm)]
    ·simp only [h1,if_false]
theorem zam {α:Type}:∀ (l:List (Nat × α)) (s t:Nat),aget (adel1 l s) t=if s=t then none else aget l t
 | [],s,t=>by simp [adel1,zbu]
 | (k,v) :: r,s,t=>by
  by_cases h:k=s
  ·subst h
   have:(k == k)=true:=by simp
   simp only [adel1,this,zac,zat,zam r k t]
   split <;> rfl
  ·have:(k == s)=false:=by simpa using h
   simp only [adel1,this,zad,zat,zam r s t]
   by_cases h1:k=t
   ·subst h1
    simp only [if_true]
    rw [if_neg (fun e=>h e.symm)]
   ·simp only [h1,if_false]
theorem zbf {α:Type}:∀ (l:List (Nat × α)) (c:List Nat) (t:Nat) (x:α),aget (adel l c) t=some x→aget l t=some x
 | [],_,_,_,h=>by simp [adel,zbu] at h
 | (k,v) :: r,c,t,x,h=>by
  simp only [adel] at h
  cases hm:mem c k with
  | true =>
   rw [hm,zac] at h
   -- the key is struck wherever it stands: what is left at t stood behind it
   have h':=zbf r c t x h
   rw [zat]
   by_cases hk:k=t
   ·subst hk
    exfalso
    have key:∀ (l:List (Nat × α)),aget (adel l c) k=none:=by
     intro l
     induction l with
     | nil=>rfl
     | cons p l ih =>
      obtain ⟨q,u⟩:=p
      simp only [adel]
      cases hq:mem c q with
      | true=>rw [zac]; exact ih
      | false =>
       rw [zad,zat]
       by_cases hqk:q=k
       ·subst hqk; rw [hm] at hq; cases hq
       ·rw [if_neg hqk]; exact ih
    rw [key r] at h
    cases h
   ·rw [if_neg hk]; exact h'
  | false =>
   rw [hm,zad,zat] at h
   rw [zat]
   by_cases hk:k=t
   ·rw [if_pos hk] at h ⊢; exact h
   ·rw [if_neg hk] at h ⊢; exact zbf r c t x h
theorem zim:∀ (l:List (Nat × (Nat × Nat))) (s t b o:Nat),aget (lkill l s) t=some (b,o)→b≠s∧aget l t=some (b,o)
 | [],_,_,_,_,h=>by simp [lkill,zbu] at h
 | (k,(b',o')) :: r,s,t,b,o,h=>by
  simp only [lkill] at h
  by_cases hb:b'=s
  ·have:(b' == s)=true:=by simpa using hb
   rw [this,zac,zam] at h
   by_cases hk:k=t
   ·rw [if_pos hk] at h; cases h
   ·rw [if_neg hk] at h
    rw [zat,if_neg hk]
    exact zim r s t b o h
  ·have:(b' == s)=false:=by simpa using hb
   rw [this,zad,zat] at h
   rw [zat]
   by_cases hk:k=t
   ·rw [if_pos hk] at h ⊢
    cases h
    exact ⟨hb,rfl⟩
   ·rw [if_neg hk] at h ⊢
    exact zim r s t b o h
theorem zmm:∀ (l:List (Nat × (Nat × Nat))) (s t b o:Nat),aget l t=some (b,o)→b≠s→aget (lkill l s) t=some (b,o)
 | [],_,_,_,_,h,_=>by simp [zbu] at h
 | (k,(b',o')) :: r,s,t,b,o,h,hb=>by
  rw [zat] at h
  simp only [lkill]
  by_cases hk:k=t
  ·rw [if_pos hk] at h
   simp only [Option.some.injEq,Prod.mk.injEq] at h
   have:(b' == s)=false:=by rw [h.1]; simpa using hb
   rw [this,zad,zat,if_pos hk,h.1,h.2]
  ·rw [if_neg hk] at h
   have ih:=zmm r s t b o h hb
   cases hbs:b' == s with
   | true=>rw [zac,zam,if_neg hk]; exact ih
   | false=>rw [zad,zat,if_neg hk]; exact ih
theorem zaa {α β:Type} {x:Option α} {f:α→Option β} {y:β} (h:bindO x f=some y):∃ a,x=some a∧f a=some y:=by
 cases x with
 | none=>cases h
 | some a=>exact ⟨a,rfl,h⟩
theorem zae {β:Type} {b:Bool} {x:Option β} {y:β} (h:ifB b x none=some y):b=true∧x=some y:=by
 cases b with
 | true=>exact ⟨rfl,h⟩
 | false=>cases h
theorem zae' {β:Type} {b:Bool} {x:Option β} {y:β} (h:ifB b none x=some y):b=false∧x=some y:=by
 cases b with
 | true=>cases h
 | false=>exact ⟨rfl,h⟩
end Go.Mx
namespace Go.Mx
open Go
inductive Tag where
 | slot (s:Nat)
 | box (s:Nat)
 | cell (s c:Nat)
 | obj (id:Nat)
 | ocell (id c:Nat)
def Tag.isBox:Tag→Bool
 | .box _=>true
 | .obj _=>true
 | _=>false
def Tag.isLocal:Tag→Bool
 | .obj _=>false
 | .ocell _ _=>false
 | _=>true
abbrev Own:=Nat→Option Tag
abbrev Lay:=Nat→Option Nat
def zgh:List D→List Value→Option (RowK × List D × Value)
 | .list k es :: _,v :: _=>some (k,es,v)
 | _ :: ds,_ :: vs=>zgh ds vs
 | _,_=>none
def prin:D→Value→Option (RowK × List D × Value)
 | .list k es,v=>some (k,es,v)
 | .agg cs,.agg vs=>zgh cs vs.toList
 | _,_=>none
def zfv (ι:Imm) (own:Own) (w:World) (t:Tag) (sz:RowK) (es:List D) (v:Value):Prop :=
 (∃ a,v=.slice a es.length es.length∧(sz.el=5→es=[]))∨∃ b g0 cap cur T,v=.slice (some ⟨b,g0,none⟩) es.length cap∧own b=some t∧w.heap[b]?=some (.cells cur T (0,0))∧(T=sz.el∧cur.size=g0 + cap * sz.sz∧(sz.el=5→g0=0))∧∀ o,g0 + es.length * sz.sz≤o→ι b o=none
def Owned (ι:Imm) (own:Own) (w:World) (t:Tag) (d:D) (v:Value):Prop:=match prin d v with
 | some p=>zfv ι own w t p.1 p.2.1 p.2.2
 | none=>True
theorem zed {ι:Imm} {own:Own} {w:World} {t:Tag} {sz:RowK} {es:List D} {v:Value}:Owned ι own w t (.list sz es) v↔zfv ι own w t sz es v:=Iff.rfl
def zcw (ι:Imm) (j:Lay) (own:Own) (w:World) (t:Tag) (c:Cell) (v:Value):Prop:=Rep ι j c.d v∧(c.own=true→Owned ι own w t c.d v)
def zcl (ι:Imm) (j:Lay) (own:Own) (w:World) (b:Nat) (mk:Nat→Tag) (cs:List Cell):Prop :=
 ∃ vs T,w.heap[b]?=some (.cells ⟨vs⟩ T (0,0))∧cs.length≤vs.length∧∀ i c,cs[i]?=some c→∃ v,vs[i]?=some v∧v.oneCell'=true∧zcw ι j own w (mk i) c v
def TyRel (j:Lay) (w:World) (id b:Nat) (ty:Ty):Prop:=∃ row,w.heap[b]?=some (.cells row ty.t (0,0))∧(0 < ty.sz→∃ c,j (id + 1)=some c∧row.size=c * ty.sz∧c≤maxLen)
def zao (ι:Imm) (j:Lay):List (D × D × Nat)→List MapEntry→Prop
 | [],l=>l=[]
 | (k,v,b) :: r,l=>∃ e l',l=e :: l'∧Rep ι j k e.key∧Rep ι j v e.val∧e.born=b∧zao ι j r l'
class LoopKit where
 ok:Nat→Code→ACode→Prop
def zmvb:LJump→Code→Prop
 | .exit i,c=>c=.exit i
 | .ret,c=>c=.ret
def stRel:LSt→LoopState→Option Code→Prop
 | .ready,s,p=>s=.ready∧p=none
 | .busy,s,p=>s=.busy∧p=none
 | .done x,s,p=>s=.done∧∃ c,p=some c∧zmvb x c
 | .over,_,_=>True
section
variable [LoopKit]
def zei (ι:Imm) (j:Lay) (w:World) (b:Nat):Oth→Prop
 | .it s pos=>w.heap[b]?=some (.stringIter ⟨⟨s⟩⟩ pos)
 | .map es clock=>∃ l,w.heap[b]?=some (.map ⟨l⟩ clock)∧zao ι j es l
 | .loop r=>∃ L:Loop,w.heap[b]?=some (.loop L)∧L.params=⟨r.params⟩∧(∀ p∈r.params,p < L.tmps.size)∧(∀ s c,aget r.slots s=some c→c.own=false∧Rep ι j c.d (L.tmps.getD s Go.undef))∧LoopKit.ok L.tmps.size L.assign r.assign∧LoopKit.ok L.tmps.size L.body r.body∧stRel r.st L.state L.pending
 | .dfr=>w.heap[b]?=some (.deferred (some []))
 | .mit m since seen st=>∃ bm,j m=some bm∧w.heap[b]?=some (.mapIter (some bm) since ⟨seen.reverse⟩ st)
theorem TyRel.keep {j j':Lay} {w w':World} {id b:Nat} {ty:Ty} (h:TyRel j w id b ty) (hw:w'.heap[b]?=w.heap[b]?) (hj:∀ i b,j i=some b→j' i=some b):TyRel j' w' id b ty:=by
 obtain ⟨row,h1,h2⟩:=h
 refine ⟨row,hw.trans h1,fun h=>?_⟩
 obtain ⟨c,k1,k2⟩:=h2 h
 exact ⟨c,hj _ _ k1,k2⟩
theorem zao.mono {ι ι':Imm} {j j':Lay} (hι:∀ b o v,ι b o=some v→ι' b o=some v) (hj:∀ i b,j i=some b→j' i=some b):∀ (es:List (D × D × Nat)) (l:List MapEntry),zao ι j es l→zao ι' j' es l
 | [],_,h=>h
 | (k,v,b) :: r,l,h=>by
  simp only [zao] at h ⊢
  obtain ⟨e,l',h1,h2,h3,h4,h6⟩:=h
  exact ⟨e,l',h1,Rep.mono hι hj _ _ h2,Rep.mono hι hj _ _ h3,h4,zao.mono hι hj r l' h6⟩
theorem zei.keep {ι ι':Imm} {j j':Lay} {w w':World} {b:Nat} {x:Oth} (h:zei ι j w b x) (hw:w'.heap[b]?=w.heap[b]?) (hι:∀ b o v,ι b o=some v→ι' b o=some v) (hj:∀ i b,j i=some b→j' i=some b):zei ι' j' w' b x:=by
 cases x with
 | it s pos=>exact hw.trans h
 | map es clock =>
  obtain ⟨l,h1,h2⟩:=h
  exact ⟨l,hw.trans h1,h2.mono hι hj⟩
 | loop r =>
  obtain ⟨L,h1,h2,h2b,h3,h4⟩:=h
  exact ⟨L,hw.trans h1,h2,h2b,fun s c hs=>⟨(h3 s c hs).1,(h3 s c hs).2.mono hι hj⟩,h4⟩
 | dfr=>exact hw.trans h
 | mit m since seen st =>
  obtain ⟨bm,h1,h2⟩:=h
  exact ⟨bm,hj _ _ h1,hw.trans h2⟩
theorem zei.lt {ι:Imm} {j:Lay} {w:World} {b:Nat} {x:Oth} (h:zei ι j w b x):b < w.heap.size:=by
 cases x with
 | it s pos=>exact (Array.getElem?_eq_some_iff.1 h).1
 | map es clock =>
  obtain ⟨l,h1,_⟩:=h
  exact (Array.getElem?_eq_some_iff.1 h1).1
 | loop r =>
  obtain ⟨l,h1,_⟩:=h
  exact (Array.getElem?_eq_some_iff.1 h1).1
 | dfr=>exact (Array.getElem?_eq_some_iff.1 h).1
 | mit m since seen st =>
  obtain ⟨bm,_,h2⟩:=h
  exact (Array.getElem?_eq_some_iff.1 h2).1
theorem zei.notCells {ι:Imm} {j:Lay} {w:World} {b:Nat} {x:Oth} (h:zei ι j w b x) {row:Array Value} {T:TypeId} {fr:Nat × Nat} (hc:w.heap[b]?=some (.cells row T fr)):False:=by
 cases x with
 | it s pos =>
  have h':w.heap[b]?=_:=h
  rw [hc] at h'
  cases h'
 | map es clock =>
  obtain ⟨l,h1,_⟩:=h
  rw [hc] at h1
  cases h1
 | loop r =>
  obtain ⟨l,h1,_⟩:=h
  rw [hc] at h1
  cases h1
 | dfr =>
  have h':w.heap[b]?=_:=h
  rw [hc] at h'
  cases h'
 | mit m since seen st =>
  obtain ⟨bm,_,h2⟩:=h
  rw [hc] at h2
  cases h2
structure GSim (ι:Imm) (j:Lay) (own:Own) (σ:Store) (w:World):Prop where
 holds:∀ b o v,ι b o=some v→w.cell? ⟨b,o,none⟩=some v
 noimm:∀ b t,own b=some t→t.isBox=true→∀ o,ι b o=none
 objs:∀ id cs,aget σ.objs id=some cs→∃ b,j id=some b∧own b=some (.obj id)∧zcl ι j own w b (.ocell id) cs
 tys:∀ id ty cs,aget σ.tys id=some ty→aget σ.objs id=some cs→∀ b,j id=some b→TyRel j w id b ty
 oth:∀ id x,aget σ.oth id=some x→∃ b,j id=some b∧own b=some (.obj id)∧zei ι j w b x
 jlt:∀ id b,j id=some b→id < σ.next
 ownlt:∀ b t,own b=some t→b < w.heap.size
end
def zey (ι:Imm) (j:Lay):List (FuncId × List D)→List Deferred→Prop
 | [],l=>l=[]
 | (f,ds) :: r,l=>∃ x l',l=x :: l'∧zey ι j r l'∧(if isY f=true then ∃ b,j (f - yldBase)=some b∧x={target:=.collected b,args:=#[]} else ∃ cap args,x={target:=.fn (.func f) cap,args:=args}∧RepL ι j ds (args ++ cap).toList)
structure LSim (ι:Imm) (j:Lay) (own:Own) (lb:Lay) (N:Nat) (e:Env) (a:Go.Act) (w:World):Prop where
 size:a.tmps.size=N
 slots:∀ s c,aget e.slots s=some c→zcw ι j own w (.slot s) c (a.tmps.getD s Go.undef)
 locs:∀ s b o,aget e.locs s=some (b,o)→∃ B,lb b=some B∧a.tmps.getD s Go.undef=.pointer (some ⟨B,o,none⟩)
 boxes:∀ s cs,aget e.boxes s=some cs→∃ B,lb s=some B∧own B=some (.box s)∧zcl ι j own w B (.cell s) cs
 defers:zey ι j e.defers a.defers
structure Evo (ι:Imm) (j:Lay) (own:Own) (w:World) (ι':Imm) (j':Lay) (own':Own) (w':World) (TT:Tag→Prop):Prop where
 os:w'.os=w.os
 tape:w'.tape=w.tape
 output:w'.output=w.output
 size:w.heap.size≤w'.heap.size
 imm:∀ b o v,ι b o=some v→ι' b o=some v
 lay:∀ i b,j i=some b→j' i=some b
 block:∀ b,b < w.heap.size→(∀ t,own b=some t→¬ TT t)→w'.heap[b]?=w.heap[b]?∧own' b=own b∧∀ o,ι' b o=ι b o
theorem Evo.refl (ι:Imm) (j:Lay) (own:Own) (w:World) (TT:Tag→Prop):Evo ι j own w ι j own w TT :=
 ⟨rfl,rfl,rfl,Nat.le_refl _,fun _ _ _ h=>h,fun _ _ h=>h,fun _ _ _=>⟨rfl,rfl,fun _=>rfl⟩⟩
theorem Evo.trans {ι ι' ι'':Imm} {j j' j'':Lay} {own own' own'':Own} {w w' w'':World} {TT:Tag→Prop}
  (h:Evo ι j own w ι' j' own' w' TT) (k:Evo ι' j' own' w' ι'' j'' own'' w'' TT):Evo ι j own w ι'' j'' own'' w'' TT where
 os:=k.os.trans h.os
 tape:=k.tape.trans h.tape
 output:=k.output.trans h.output
 size:=Nat.le_trans h.size k.size
 imm:=fun b o v x=>k.imm _ _ _ (h.imm _ _ _ x)
 lay:=fun i b x=>k.lay _ _ (h.lay _ _ x)
 block:=fun b hb ht=>by
  obtain ⟨h1,h2,h3⟩:=h.block b hb ht
  obtain ⟨k1,k2,k3⟩:=k.block b (Nat.lt_of_lt_of_le hb h.size) (fun t x=>ht t (h2 ▸ x))
  exact ⟨k1.trans h1,k2.trans h2,fun o=>(k3 o).trans (h3 o)⟩
theorem Evo.weaken {ι ι':Imm} {j j':Lay} {own own':Own} {w w':World} {TT TT':Tag→Prop}
  (h:Evo ι j own w ι' j' own' w' TT) (hT:∀ t,TT t→TT' t):Evo ι j own w ι' j' own' w' TT' :=
 ⟨h.os,h.tape,h.output,h.size,h.imm,h.lay,fun b hb ht=>h.block b hb fun t x y=>ht t x (hT t y)⟩
section keeps
variable {ι ι':Imm} {j j':Lay} {own own':Own} {w w':World} {TT:Tag→Prop}
theorem Evo.rep (h:Evo ι j own w ι' j' own' w' TT) {d:D} {v:Value} (k:Rep ι j d v):Rep ι' j' d v:=Rep.mono h.imm h.lay d v k
theorem Evo.repL (h:Evo ι j own w ι' j' own' w' TT) {ds:List D} {vs:List Value} (k:RepL ι j ds vs):RepL ι' j' ds vs:=RepL.mono h.imm h.lay ds vs k
theorem Evo.owned (h:Evo ι j own w ι' j' own' w' TT) {t:Tag} (ht:¬ TT t) {d:D} {v:Value} (k:Owned ι own w t d v):Owned ι' own' w' t d v:=by
 unfold Owned at k ⊢
 cases hp:prin d v with
 | none=>trivial
 | some p =>
  rw [hp] at k
  rcases k with k | ⟨b,g0,cap,cur,T,h1,h2,h3,h4,h5⟩
  ·exact .inl k
  ·have hb:b < w.heap.size:=(Array.getElem?_eq_some_iff.1 h3).1
   obtain ⟨k1,k2,k3⟩:=h.block b hb (fun t' x=>by rw [h2] at x; cases x; exact ht)
   exact .inr ⟨b,g0,cap,cur,T,h1,k2.trans h2,k1.trans h3,h4,fun o ho=>(k3 o).trans (h5 o ho)⟩
theorem Evo.cellRel (h:Evo ι j own w ι' j' own' w' TT) {t:Tag} {c:Cell} {v:Value} (ht:c.own=true→¬ TT t) (k:zcw ι j own w t c v):zcw ι' j' own' w' t c v :=
 ⟨h.rep k.1,fun ho=>h.owned (ht ho) (k.2 ho)⟩
theorem Evo.boxRel (h:Evo ι j own w ι' j' own' w' TT) {b:Nat} {mk:Nat→Tag} {cs:List Cell} {t:Tag} (hb:own b=some t) (ht:¬ TT t) (hc:∀ i c,cs[i]?=some c→c.own=true→¬ TT (mk i))
  (k:zcl ι j own w b mk cs):zcl ι' j' own' w' b mk cs:=by
 obtain ⟨vs,T,h1,h2,h3⟩:=k
 have hlt:b < w.heap.size:=(Array.getElem?_eq_some_iff.1 h1).1
 obtain ⟨k1,_,_⟩:=h.block b hlt (fun t' x=>by rw [hb] at x; cases x; exact ht)
 refine ⟨vs,T,k1.trans h1,h2,fun i c hi=>?_⟩
 obtain ⟨v,hv,ho,hr⟩:=h3 i c hi
 exact ⟨v,hv,ho,h.cellRel (hc i c hi) hr⟩
theorem Evo.defRel (h:Evo ι j own w ι' j' own' w' TT):∀ (ds:List (FuncId × List D)) (l:List Deferred),zey ι j ds l→zey ι' j' ds l
 | [],_,k=>k
 | (f,ds) :: r,l,k=>by
  simp only [zey] at k ⊢
  obtain ⟨x,l',h1,h2,h3⟩:=k
  refine ⟨x,l',h1,h.defRel r l' h2,?_⟩
  split
  ·rename_i hf
   rw [if_pos hf] at h3
   obtain ⟨b,k1,k2⟩:=h3
   exact ⟨b,h.lay _ _ k1,k2⟩
  ·rename_i hf
   rw [if_neg hf] at h3
   obtain ⟨cap,args,k1,k2⟩:=h3
   exact ⟨cap,args,k1,h.repL k2⟩
end keeps
end Go.Mx
