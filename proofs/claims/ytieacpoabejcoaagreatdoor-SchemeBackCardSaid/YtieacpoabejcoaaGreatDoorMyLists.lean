/-
 The operations that make lists: literals,append.
-/
import Derived.Test.YtieacpoabejcoaaGreatDoorMySteps
set_option linter.unusedSimpArgs false
set_option linter.unusedVariables false
set_option linter.unusedSectionVars false
namespace Go.Mx
open Go
section
variable [LoopKit] {P:Program} {ι:Imm} {j:Lay} {own:Own} {lb:Lay} {N:Nat} {e:Env} {a:Go.Act} {w:World} {σ:Store}
def flat (xs:List Value):List Value:=xs.flatMap fun x=>x.cells.toList
theorem zb6 {sz:Nat}:∀ {xs:List Value},(∀ x∈xs,x.cells.size=sz)→(flat xs).length=xs.length * sz
 | [],_=>by simp [flat]
 | x :: xs,h=>by
  have ih:=zb6 (xs:=xs) fun y hy=>h y (by simp [hy])
  simp only [flat,List.flatMap_cons,List.length_append,List.length_cons,Array.length_toList] at ih ⊢
  rw [ih,h x (by simp),Nat.add_mul]
  omega
theorem zwb {sz:Nat} (hsz:0 < sz):∀ {xs:List Value},(∀ x∈xs,x.cells.size=sz)→∀ (n:Nat) (y:Value),(flat xs)[n]?=some y→∃ x,xs[n / sz]?=some x∧x.cells[n % sz]?=some y
 | [],_,n,y,hn=>by simp [flat] at hn
 | z :: xs,h,n,y,hn=>by
  have hz:=h z (by simp)
  simp only [flat,List.flatMap_cons] at hn
  by_cases hlt:n < sz
  ·rw [List.getElem?_append_left (by rw [Array.length_toList,hz]; exact hlt),Array.getElem?_toList] at hn
   rw [Nat.div_eq_of_lt hlt,Nat.mod_eq_of_lt hlt]
   exact ⟨z,rfl,hn⟩
  ·rw [List.getElem?_append_right (by rw [Array.length_toList,hz]; omega),Array.length_toList,hz] at hn
   obtain ⟨x,h1,h2⟩:=zwb hsz (xs:=xs) (fun y hy=>h y (by simp [hy])) (n - sz) y hn
   have hge:sz≤n:=by omega
   rw [Nat.div_eq_sub_div hsz hge,Nat.mod_eq_sub_mod hge]
   exact ⟨x,by simpa using h1,h2⟩
theorem zo6 (xs ys:List Value):flat (xs ++ ys)=flat xs ++ flat ys:=by simp [flat]
theorem zas.vals {sz:Nat}:∀ {es:List D} {b o:Nat},zas ι j sz es b o→∃ xs:List Value,RepL ι j es xs∧(∀ x∈xs,x.cells.size=sz)∧∀ (n:Nat) (y:Value),(flat xs)[n]?=some y→ι b (o + n)=some y
 | [],b,o,_=>⟨[],by simp only [RepL],by simp,by simp [flat]⟩
 | d :: es,b,o,h=>by
  simp only [zas] at h
  obtain ⟨⟨x,h1,h2,h3⟩,h4⟩:=h
  obtain ⟨xs,k1,k2,k3⟩:=zas.vals h4
  refine ⟨x :: xs,by simp only [RepL]; exact ⟨x,xs,rfl,h3,k1⟩,fun y hy=>?_,fun n y hn=>?_⟩
  ·rcases List.mem_cons.1 hy with rfl | hy
   ·exact h2
   ·exact k2 y hy
  ·simp only [flat,List.flatMap_cons] at hn
   by_cases hlt:n < sz
   ·rw [List.getElem?_append_left (by rw [Array.length_toList,h2]; exact hlt),Array.getElem?_toList] at hn
    exact h1 n y hn
   ·rw [List.getElem?_append_right (by rw [Array.length_toList,h2]; omega),Array.length_toList,h2] at hn
    have:=k3 (n - sz) y hn
    rwa [show o + sz + (n - sz)=o + n by omega] at this
theorem zas.of_vals {sz:Nat}:∀ {es:List D} {xs:List Value} {b o:Nat},RepL ι j es xs→(∀ x∈xs,x.cells.size=sz)→(∀ (n:Nat) (y:Value),(flat xs)[n]?=some y→ι b (o + n)=some y)→zas ι j sz es b o
 | [],_,_,_,_,_,_=>by simp only [zas]
 | d :: es,xs,b,o,h,h2,h3=>by
  simp only [RepL] at h
  obtain ⟨x,r,rfl,k1,k2⟩:=h
  have hx:=h2 x (by simp)
  simp only [zas]
  refine ⟨⟨x,fun i y hi=>h3 i y ?_,hx,k1⟩,zas.of_vals k2 (fun y hy=>h2 y (by simp [hy])) fun n y hn=>?_⟩
  ·have hlt:=(Array.getElem?_eq_some_iff.1 hi).1
   simp only [flat,List.flatMap_cons]
   rw [List.getElem?_append_left (by simpa using hlt),Array.getElem?_toList]
   exact hi
  ·have:=h3 (sz + n) y (by
    simp only [flat,List.flatMap_cons]
    rw [List.getElem?_append_right (by rw [Array.length_toList,hx]; omega),Array.length_toList,hx,← hn]
    congr 1
    omega)
   rwa [← Nat.add_assoc] at this
theorem ze6 {sz:Nat}:∀ {ds:List D} {xs:List Value},zau sz ds=true→RepL ι j ds xs→(∀ x∈xs,x.cells.size=sz)∧∀ u∈flat xs,u.oneCell'=true
 | [],xs,_,h=>by simp only [RepL] at h; subst h; simp [flat]
 | d :: ds,xs,hs,h=>by
  simp only [RepL] at h
  obtain ⟨x,r,rfl,h1,h2⟩:=h
  simp only [zau,Bool.and_eq_true,beq_iff_eq] at hs
  obtain ⟨⟨hok,hn⟩,hs⟩:=hs
  obtain ⟨k1,k2⟩:=ze6 hs h2
  obtain ⟨_,q2⟩:=h1.cellsRel hok
  refine ⟨fun y hy=>?_,fun u hu=>?_⟩
  ·rcases List.mem_cons.1 hy with rfl | hy
   ·rw [h1.cellsSize hok]; exact hn
   ·exact k1 y hy
  ·simp only [flat,List.flatMap_cons,List.mem_append] at hu
   rcases hu with hu | hu
   ·exact q2 u hu
   ·exact k2 u hu
/-! ### New memory that never changes -/
def zb9 (ι:Imm) (B lo hi:Nat) (f:Nat→Option Value):Imm:=fun b o=>if b=B∧lo≤o∧o < hi then f o else ι b o
theorem zrc (hG:GSim ι j own σ w) {w':World} {ob:Obj} (hw:w'=w.alloc ob∨w'=w.drew.alloc ob) (hi:Nat) (f:Nat→Option Value) (t:Tag) :
  Evo ι j own w (zb9 ι w.heap.size 0 hi f) j (fun b=>if b=w.heap.size then some t else own b) w' (fun _=>False):=by
 have key:∀ b,b < w.heap.size→w'.heap[b]?=w.heap[b]?:=by
  intro b hb
  rcases hw with rfl | rfl
  ·exact heap_alloc_old w ob hb
  ·exact heap_alloc_old w.drew ob hb
 have hs:w.heap.size≤w'.heap.size:=by rcases hw with rfl | rfl <;> simp
 refine ⟨by rcases hw with rfl | rfl <;> rfl,by rcases hw with rfl | rfl <;> rfl,by rcases hw with rfl | rfl <;> rfl,hs,fun b o v h=>?_,fun _ _ h=>h,fun b hb _=>⟨key b hb,if_neg (by omega),fun o=>if_neg (by omega)⟩⟩
 have:=ze3 hG h
 unfold zb9
 rw [if_neg (by omega)]
 exact h
theorem zzy (hG:GSim ι j own σ w) {w':World} {cur:Array Value} {T:TypeId} (hw:w'=w.alloc (.cells cur T)∨w'=w.drew.alloc (.cells cur T)) (hi:Nat) {f:Nat→Option Value} (hf:∀ o v,o < hi→f o=some v→cur[o]?=some v) {t:Tag} (ht:t.isBox=false) :
  GSim (zb9 ι w.heap.size 0 hi f) j (fun b=>if b=w.heap.size then some t else own b) σ w':=by
 have hE:=zrc hG hw hi f t
 have hnew:w'.heap[w.heap.size]?=some (.cells cur T (0,0)):=by
  rcases hw with rfl | rfl
  ·exact heap_alloc_new w _
  ·exact heap_alloc_new w.drew _
 have hlt':w.heap.size < w'.heap.size:=(Array.getElem?_eq_some_iff.1 hnew).1
 refine hG.evo hE (fun b o v h=>?_) (fun b u h hu o=>?_) (fun b u h=>?_) hG.jlt (fun _ _ _=>⟨fun h=>h,fun _ _ _ _ h=>h⟩) (fun _ _ _ h=>h)
 ·unfold zb9 at h
  by_cases hc:b=w.heap.size∧0≤o∧o < hi
  ·rw [if_pos hc] at h
   obtain ⟨rfl,_,ho⟩:=hc
   rw [cell_of_row w' _ o cur T (0,0) hnew]
   exact hf o v ho h
  ·rw [if_neg hc] at h
   have hb:=ze3 hG h
   have:=hG.holds b o v h
   rw [World.cell?_of_block (w:=w) (w':=w') (a:=⟨b,o,none⟩) (hE.block b hb (fun _ _ h=>h)).1]
   exact this
 ·by_cases hb:b=w.heap.size
  ·simp only [if_pos hb,Option.some.injEq] at h
   subst h
   rw [ht] at hu
   cases hu
  ·simp only [if_neg hb] at h
   unfold zb9
   rw [if_neg (fun hc=>hb hc.1)]
   exact hG.noimm b u h hu o
 ·by_cases hb:b=w.heap.size
  ·subst hb; exact hlt'
  ·simp only [if_neg hb] at h
   have:=hG.ownlt b u h
   omega
theorem zsv {w':World} (hG:GSim ι j own σ w) (hL:LSim ι j own lb N e a w) {s:Nat} (hs:s < N) {cur:Array Value} {T:TypeId} (hw:w'=w.alloc (.cells cur T)∨w'=w.drew.alloc (.cells cur T)) {sz:RowK} {cap:Nat} {es:List D} {xs:List Value} (hT:T=sz.el)
  (hx:RepL ι j es xs) (hsz:∀ x∈xs,x.cells.size=sz.sz) (hcur:∀ (n:Nat) (y:Value),(flat xs)[n]?=some y→cur[n]?=some y) (hcs:cur.size=cap * sz.sz) (hle:es.length≤cap) (hmax:cap≤maxLen) :
  ∃ ι' own',GSim ι' j own' σ w'∧LSim ι' j own' lb N (e.put (some s) ⟨true,.list sz es⟩) (a.put (some s) (.slice (some ⟨w.heap.size,0,none⟩) es.length cap)) w'∧Evo ι j own w ι' j own' w' (fun _=>True):=by
 have hE:=zrc hG hw (es.length * sz.sz) (fun o=>(flat xs)[o]?) (.slot s)
 have hG':=zzy hG hw (es.length * sz.sz) (f:=fun o=>(flat xs)[o]?) (fun o v _ h=>hcur o v h) (t:=.slot s) rfl
 have hnew:w'.heap[w.heap.size]?=some (.cells cur T (0,0)):=by
  rcases hw with rfl | rfl
  ·exact heap_alloc_new w _
  ·exact heap_alloc_new w.drew _
 have hL':=hL.evo hE (fun _ _ _ _ h=>h) (fun _ _ _=>⟨fun h=>h,fun _ _ _ _ h=>h⟩)
 refine ⟨_,_,hG',hL'.putC hs ⟨?_,fun _=>?_⟩,hE.weaken (fun _ h=>h.elim)⟩
 ·simp only [Rep]
  refine ⟨_,cap,rfl,hle,hmax,.inr ⟨w.heap.size,0,rfl,zas.of_vals (hE.repL hx) hsz fun n y hn=>?_⟩⟩
  have hlt:=(List.getElem?_eq_some_iff.1 hn).1
  rw [zb6 hsz,hx.length] at hlt
  unfold zb9
  rw [if_pos ⟨rfl,by omega,by omega⟩,Nat.zero_add]
  exact hn
 ·simp only [zed,zfv]
  refine .inr ⟨w.heap.size,0,cap,cur,T,rfl,if_pos rfl,hnew,⟨hT,by rw [hcs,Nat.zero_add],fun _=>rfl⟩,fun o ho=>?_⟩
  rw [Nat.zero_add] at ho
  unfold zb9
  rw [if_neg (by omega)]
  cases hi:ι w.heap.size o with
  | none=>rfl
  | some v=>have:=ze3 hG hi; omega
end
end Go.Mx
