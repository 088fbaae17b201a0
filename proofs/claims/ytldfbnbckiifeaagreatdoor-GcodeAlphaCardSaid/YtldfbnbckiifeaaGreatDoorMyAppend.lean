/-
 The operations that make lists: literals,append.
-/
import Derived.Test.YtldfbnbckiifeaaGreatDoorMySteps
import Derived.Great.BuildSlice
import Derived.Deep.AppendSrc
set_option linter.unusedSimpArgs false
set_option linter.unusedVariables false
set_option linter.unusedSectionVars false
namespace Go.Mx
open Go
section
variable [LoopKit] {P:Program} {ι:Imm} {j:Lay} {own:Own} {lb:Lay} {N:Nat} {e:Env} {a:Go.Act} {w:World} {σ:Store}
def eA (xs:List Value):List Value:=xs.flatMap fun x=>x.cells.toList
theorem lD {sz:Nat}:∀ {xs:List Value},(∀ x∈xs,x.cells.size=sz)→(eA xs).length=xs.length * sz
 | [],_=>by simp [eA]
 | x :: xs,h=>by
  have ih:=lD (xs:=xs) fun y hy=>h y (by simp [hy])
  simp only [eA,bE,aF,aG,Array.length_toList] at ih ⊢
  rw [ih,h x (by simp),Nat.add_mul]
  omega
theorem zi8 {sz:Nat} (hsz:0 < sz):∀ {xs:List Value},(∀ x∈xs,x.cells.size=sz)→∀ (n:Nat) (y:Value),(eA xs)[n]?=some y→∃ x,xs[n / sz]?=some x∧x.cells[n % sz]?=some y
 | [],_,n,y,hn=>by simp [eA] at hn
 | z :: xs,h,n,y,hn=>by
  have hz:=h z (by simp)
  simp only [eA,bE] at hn
  by_cases hlt:n < sz
  ·rw [List.getElem?_append_left (by rw [Array.length_toList,hz]; exact hlt),Array.getElem?_toList] at hn
   rw [Nat.div_eq_of_lt hlt,Nat.mod_eq_of_lt hlt]
   exact ⟨z,rfl,hn⟩
  ·rw [List.getElem?_append_right (by rw [Array.length_toList,hz]; omega),Array.length_toList,hz] at hn
   obtain ⟨x,h1,h2⟩:=zi8 hsz (xs:=xs) (fun y hy=>h y (by simp [hy])) (n - sz) y hn
   have hge:sz≤n:=by omega
   rw [Nat.div_eq_sub_div hsz hge,Nat.mod_eq_sub_mod hge]
   exact ⟨x,by simpa using h1,h2⟩
theorem Ui (xs ys:List Value):eA (xs ++ ys)=eA xs ++ eA ys:=by simp [eA]
theorem eU.vals {sz:Nat}:∀ {es:List D} {b o:Nat},eU ι j sz es b o→∃ xs:List Value,dM ι j es xs∧(∀ x∈xs,x.cells.size=sz)∧∀ (n:Nat) (y:Value),(eA xs)[n]?=some y→ι b (o + n)=some y
 | [],b,o,_=>⟨[],by simp only [dM],by simp,by simp [eA]⟩
 | d :: es,b,o,h=>by
  simp only [eU] at h
  obtain ⟨⟨x,h1,h2,h3⟩,h4⟩:=h
  obtain ⟨xs,k1,k2,k3⟩:=eU.vals h4
  refine ⟨x :: xs,by simp only [dM]; exact ⟨x,xs,rfl,h3,k1⟩,fun y hy=>?_,fun n y hn=>?_⟩
  ·rcases aS.1 hy with rfl | hy
   ·exact h2
   ·exact k2 y hy
  ·simp only [eA,bE] at hn
   by_cases hlt:n < sz
   ·rw [List.getElem?_append_left (by rw [Array.length_toList,h2]; exact hlt),Array.getElem?_toList] at hn
    exact h1 n y hn
   ·rw [List.getElem?_append_right (by rw [Array.length_toList,h2]; omega),Array.length_toList,h2] at hn
    have:=k3 (n - sz) y hn
    rwa [show o + sz + (n - sz)=o + n by omega] at this
theorem eU.of_vals {sz:Nat}:∀ {es:List D} {xs:List Value} {b o:Nat},dM ι j es xs→(∀ x∈xs,x.cells.size=sz)→(∀ (n:Nat) (y:Value),(eA xs)[n]?=some y→ι b (o + n)=some y)→eU ι j sz es b o
 | [],_,_,_,_,_,_=>by simp only [eU]
 | d :: es,xs,b,o,h,h2,h3=>by
  simp only [dM] at h
  obtain ⟨x,r,rfl,k1,k2⟩:=h
  have hx:=h2 x (by simp)
  simp only [eU]
  refine ⟨⟨x,fun i y hi=>h3 i y ?_,hx,k1⟩,eU.of_vals k2 (fun y hy=>h2 y (by simp [hy])) fun n y hn=>?_⟩
  ·have hlt:=(Array.getElem?_eq_some_iff.1 hi).1
   simp only [eA,bE]
   rw [List.getElem?_append_left (by simpa using hlt),Array.getElem?_toList]
   exact hi
  ·have:=h3 (sz + n) y (by
    simp only [eA,bE]
    rw [List.getElem?_append_right (by rw [Array.length_toList,hx]; omega),Array.length_toList,hx,← hn]
    congr 1
    omega)
   rwa [← Nat.add_assoc] at this
theorem rJ {sz:Nat}:∀ {ds:List D} {xs:List Value},eM sz ds=true→dM ι j ds xs→(∀ x∈xs,x.cells.size=sz)∧∀ u∈eA xs,u.oneCell'=true
 | [],xs,_,h=>by simp only [dM] at h; subst h; simp [eA]
 | d :: ds,xs,hs,h=>by
  simp only [dM] at h
  obtain ⟨x,r,rfl,h1,h2⟩:=h
  simp only [eM,aC,beq_iff_eq] at hs
  obtain ⟨⟨hok,hn⟩,hs⟩:=hs
  obtain ⟨k1,k2⟩:=rJ hs h2
  obtain ⟨_,q2⟩:=h1.cellsRel hok
  refine ⟨fun y hy=>?_,fun u hu=>?_⟩
  ·rcases aS.1 hy with rfl | hy
   ·rw [h1.cellsSize hok]; exact hn
   ·exact k1 y hy
  ·simp only [eA,bE,bJ] at hu
   rcases hu with hu | hu
   ·exact q2 u hu
   ·exact k2 u hu
/-! ### New memory that never changes -/
def lF (ι:Imm) (B lo hi:Nat) (f:Nat→Option Value):Imm:=fun b o=>if b=B∧lo≤o∧o < hi then f o else ι b o
theorem Zu (hG:GSim ι j own σ w) {w':World} {ob:Obj} (hw:w'=w.alloc ob∨w'=w.drew.alloc ob) (hi:Nat) (f:Nat→Option Value) (t:Tag) :
  Evo ι j own w (lF ι w.heap.size 0 hi f) j (fun b=>if b=w.heap.size then some t else own b) w' (fun _=>False):=by
 have key:∀ b,b < w.heap.size→w'.heap[b]?=w.heap[b]?:=by
  intro b hb
  rcases hw with rfl | rfl
  ·exact heap_alloc_old w ob hb
  ·exact heap_alloc_old w.drew ob hb
 have hs:w.heap.size≤w'.heap.size:=by rcases hw with rfl | rfl <;> simp
 refine ⟨by rcases hw with rfl | rfl <;> rfl,by rcases hw with rfl | rfl <;> rfl,by rcases hw with rfl | rfl <;> rfl,hs,fun b o v h=>?_,fun _ _ h=>h,fun b hb _=>⟨key b hb,if_neg (by omega),fun o=>if_neg (by omega)⟩⟩
 have:=sO hG h
 unfold lF
 rw [if_neg (by omega)]
 exact h
theorem zme (hG:GSim ι j own σ w) {w':World} {cur:Array Value} {T:TypeId} (hw:w'=w.alloc (.cells cur T)∨w'=w.drew.alloc (.cells cur T)) (hi:Nat) {f:Nat→Option Value} (hf:∀ o v,o < hi→f o=some v→cur[o]?=some v) {t:Tag} (ht:t.isBox=false) :
  GSim (lF ι w.heap.size 0 hi f) j (fun b=>if b=w.heap.size then some t else own b) σ w':=by
 have hE:=Zu hG hw hi f t
 have hnew:w'.heap[w.heap.size]?=some (.cells cur T (0,0)):=by
  rcases hw with rfl | rfl
  ·exact heap_alloc_new w _
  ·exact heap_alloc_new w.drew _
 have hlt':w.heap.size < w'.heap.size:=(Array.getElem?_eq_some_iff.1 hnew).1
 refine hG.evo hE (fun b o v h=>?_) (fun b u h hu o=>?_) (fun b u h=>?_) hG.jlt (fun _ _ _=>⟨fun h=>h,fun _ _ _ _ h=>h⟩) (fun _ _ _ h=>h)
 ·unfold lF at h
  by_cases hc:b=w.heap.size∧0≤o∧o < hi
  ·rw [if_pos hc] at h
   obtain ⟨rfl,_,ho⟩:=hc
   rw [cell_of_row w' _ o cur T (0,0) hnew]
   exact hf o v ho h
  ·rw [if_neg hc] at h
   have hb:=sO hG h
   have:=hG.holds b o v h
   rw [World.cell?_of_block (w:=w) (w':=w') (a:=⟨b,o,none⟩) (hE.block b hb (fun _ _ h=>h)).1]
   exact this
 ·by_cases hb:b=w.heap.size
  ·simp only [if_pos hb,aA] at h
   subst h
   rw [ht] at hu
   cases hu
  ·simp only [if_neg hb] at h
   unfold lF
   rw [if_neg (fun hc=>hb hc.1)]
   exact hG.noimm b u h hu o
 ·by_cases hb:b=w.heap.size
  ·subst hb; exact hlt'
  ·simp only [if_neg hb] at h
   have:=hG.ownlt b u h
   omega
theorem zcr {w':World} (hG:GSim ι j own σ w) (hL:LSim ι j own lb N e a w) {s:Nat} (hs:s < N) {cur:Array Value} {T:TypeId} (hw:w'=w.alloc (.cells cur T)∨w'=w.drew.alloc (.cells cur T)) {sz:RowK} {cap:Nat} {es:List D} {xs:List Value} (hT:T=sz.el)
  (hx:dM ι j es xs) (hsz:∀ x∈xs,x.cells.size=sz.sz) (hcur:∀ (n:Nat) (y:Value),(eA xs)[n]?=some y→cur[n]?=some y) (hcs:cur.size=cap * sz.sz) (hle:es.length≤cap) (hmax:cap≤maxLen) :
  ∃ ι' own',GSim ι' j own' σ w'∧LSim ι' j own' lb N (e.put (some s) ⟨true,.list sz es⟩) (a.put (some s) (.slice (some ⟨w.heap.size,0,none⟩) es.length cap)) w'∧Evo ι j own w ι' j own' w' (fun _=>True):=by
 have hE:=Zu hG hw (es.length * sz.sz) (fun o=>(eA xs)[o]?) (.slot s)
 have hG':=zme hG hw (es.length * sz.sz) (f:=fun o=>(eA xs)[o]?) (fun o v _ h=>hcur o v h) (t:=.slot s) rfl
 have hnew:w'.heap[w.heap.size]?=some (.cells cur T (0,0)):=by
  rcases hw with rfl | rfl
  ·exact heap_alloc_new w _
  ·exact heap_alloc_new w.drew _
 have hL':=hL.evo hE (fun _ _ _ _ h=>h) (fun _ _ _=>⟨fun h=>h,fun _ _ _ _ h=>h⟩)
 refine ⟨_,_,hG',hL'.putC hs ⟨?_,fun _=>?_⟩,hE.weaken (fun _ h=>h.elim)⟩
 ·simp only [Rep]
  refine ⟨_,cap,rfl,hle,hmax,.inr ⟨w.heap.size,0,rfl,eU.of_vals (hE.repL hx) hsz fun n y hn=>?_⟩⟩
  have hlt:=(List.getElem?_eq_some_iff.1 hn).1
  rw [lD hsz,hx.length] at hlt
  unfold lF
  rw [if_pos ⟨rfl,by omega,by omega⟩,aN]
  exact hn
 ·simp only [tI,vI]
  refine .inr ⟨w.heap.size,cap,cur,T,rfl,if_pos rfl,hnew,⟨hT,hcs⟩,fun o ho=>?_⟩
  unfold lF
  rw [if_neg (by omega)]
  cases hi:ι w.heap.size o with
  | none=>rfl
  | some v=>have:=sO hG hi; omega
end
end Go.Mx
namespace Go.Mx
open Go
section
variable [LoopKit] {P:Program} {ι:Imm} {j:Lay} {own:Own} {lb:Lay} {N:Nat} {e:Env} {a:Go.Act} {w:World} {σ:Store}
def zU:Nat→List (Nat × Operand)→List AOpd→Bool
 | _,[],[]=>true
 | i,(k,x) :: ps,y :: ys=>k == i && dL x y && zU (i + 1) ps ys
 | _,_,_=>false
theorem Qg (hL:LSim ι j own lb N e a w):∀ {i:Nat} {ps:List (Nat × Operand)} {qs:List AOpd},zU i ps qs=true→∀ {ds:List D},lZ e qs=some ds →
  ∃ xs,dM ι j ds xs∧(ps.map fun p=>(p.1,a.eval p.2))=(xs.zipIdx i).map fun x=>(x.2,x.1)
 | i,[],[],_,ds,h=>by
  simp only [lZ,aA] at h
  subst h
  exact ⟨[],by simp only [dM],rfl⟩
 | i,[],_ :: _,hk,_,_=>by simp only [zU,aE] at hk
 | i,_ :: _,[],hk,_,_=>by simp only [zU,aE] at hk
 | i,(k,x) :: ps,y :: ys,hk,ds,h=>by
  simp only [zU,aC,beq_iff_eq] at hk
  obtain ⟨⟨rfl,hk1⟩,hk2⟩:=hk
  simp only [lZ] at h
  obtain ⟨c,h1,h⟩:=dC h
  obtain ⟨ds',h2,h⟩:=dC h
  cases h
  obtain ⟨xs,k1,k2⟩:=Qg hL hk2 h2
  refine ⟨a.eval x :: xs,by simp only [dM]; exact ⟨_,_,rfl,dT hL hk1 h1,k1⟩,?_⟩
  simp only [aO,List.zipIdx_cons,k2]
theorem Fv:∀ {ys:List AOpd} {ds:List D},lZ e ys=some ds→ds.length=ys.length
 | [],ds,h=>by simp only [lZ,aA] at h; subst h; rfl
 | y :: ys,ds,h=>by
  simp only [lZ] at h
  obtain ⟨c,h1,h⟩:=dC h
  obtain ⟨ds',h2,h⟩:=dC h
  cases h
  simp only [aG,Fv h2]
theorem yH (t el:TypeId) (xs:List Value) (parts:Array (Nat × Value)) (ie:TypeInfo) (z:Value)
  (hu:P.underlying t=some (.slice el)) (hie:P.info? el=some ie) (hz:ie.zero=some z) (hzs:z.cells.size=ie.size) (hpos:0 < ie.size) (hx:∀ x∈xs,x.cells.size=ie.size) (hsm:xs.length * ie.size≤16777216)
  (hp:parts.toList=(xs.zipIdx 0).map fun x=>(x.2,x.1)) :
  ∃ cur:Array Value,(Instr.buildSlice t xs.length parts).run P w=.ok (.slice (some ⟨w.heap.size,0,none⟩) xs.length xs.length) (w.alloc (.cells cur el))∧cur.size=xs.length * ie.size∧∀ (n:Nat) (y:Value),(eA xs)[n]?=some y→cur[n]?=some y:=by
 by_cases h0:xs=[]
 ·subst h0
  refine ⟨#[],?_,by simp,by simp [eA]⟩
  have:parts.toList=[]:=by simpa using hp
  simp [Instr.buildSlice,run_underlying hu,sizeOf,typeInfo,hie,this,Instr.fill,newRow]
  congr 2
  apply Array.ext'
  simp
 ·have hl:0 < xs.length:=List.length_pos_iff.2 h0
  have hne:¬ xs.length * ie.size=0:=Nat.ne_of_gt (Nat.mul_pos hl hpos)
  obtain ⟨r,hr,hrs,hrk⟩:=Great.fill_dense hpos xs 0 ((Array.range (xs.length * ie.size)).map (z.cells[· % z.cells.size]!)) hx (by simp)
  rw [← hp] at hr
  refine ⟨r,run_buildSlice w t el xs.length parts r ie z hu hie hz (by omega) hne hr,by simpa using hrs,fun n y hn=>?_⟩
  have hlt:=(List.getElem?_eq_some_iff.1 hn).1
  rw [lD hx] at hlt
  obtain ⟨x,q1,q2⟩:=zi8 hpos hx n y hn
  rw [aN] at hrk
  rw [hrk n,if_pos ⟨by omega,by omega⟩,Nat.sub_zero,q1]
  exact q2
theorem Aj {t:TypeId} {sz:Nat} {zs:List Value} (h1:fP P t=some sz) (h2:mQ P t=some zs):∃ ie z,P.info? t=some ie∧ie.size=sz∧ie.zero=some z∧z.cells.toList=zs:=by
 simp only [fP,Option.map_eq_some_iff] at h1
 obtain ⟨ie,hi,rfl⟩:=h1
 simp only [mQ,hi,Option.bind_some,Option.map_eq_some_iff] at h2
 obtain ⟨z,hz,rfl⟩:=h2
 exact ⟨ie,z,hi,rfl,hz,rfl⟩
theorem zaz (hG:GSim ι j own σ w) (hL:LSim ι j own lb N e a w) {o:Oper} {t el:TypeId} {len sz s:Nat} {ag:Bool} {parts:Array (Nat × Operand)} {qs:List AOpd} {zs:List Value} {ds:List D} (ho:o.op=.buildSlice t len parts)
  (hd:o.dst=some s) (hs:s < N) (hk:zU 0 parts.toList qs=true) (hlen:len=qs.length) (ht:jI P t=some el) (hsz:fP P el=some sz) (hz:mQ P el=some zs) (hzl:zs.length=sz) (hpos:0 < sz)
  (hds:lZ e qs=some ds) (hall:eM sz ds=true) (hsm:ds.length * sz≤16777216):Did P N ι j own w o a (e.put o.dst ⟨true,.list ⟨el,sz,ag⟩ ds⟩) σ:=by
 obtain ⟨xs,hx,hp⟩:=Qg hL hk hds
 obtain ⟨x1,x2⟩:=rJ hall hx
 obtain ⟨ie,z,i1,i2,i3,i4⟩:=Aj hsz hz
 subst i2
 have hxl:=hx.length
 have hu:=kY ht
 have hparts:(parts.map fun (i,x)=>(i,a.eval x)).toList=(xs.zipIdx 0).map fun x=>(x.2,x.1):=by
  rw [← hp,Array.toList_map]
 have hzc:z.cells.size=ie.size:=by rw [← Array.length_toList,i4,hzl]
 obtain ⟨cur,c1,c2,c3⟩:=yH (w:=w) t el xs _ ie z hu i1 i3 hzc hpos x1 (by rw [hxl]; exact hsm) hparts
 have hll:len=ds.length:=by rw [hlen,Fv hds]
 rw [hxl] at c1
 have hmax:ds.length≤maxLen:=by
  have:ds.length≤ds.length * ie.size:=Nat.le_mul_of_pos_right _ hpos
  simp only [maxLen]
  omega
 obtain ⟨ι',own',k1,k2,k3⟩:=zcr hG hL hs (.inl rfl) (sz:=⟨el,ie.size,ag⟩) rfl hx x1 c3 (by rw [c2,hxl]) (aM ds.length) hmax
 refine ⟨_,_,_,?_,.inl ⟨.slice (some ⟨w.heap.size,0,none⟩) ds.length ds.length,rfl,rfl⟩,ι',j,own',lb,k1,?_,k3⟩
 ·simp only [execOp,ho,hll,Sem.run_bind]
  rw [c1]
  rfl
 ·rw [hd]; exact k2
/-! ### append -/
def nB (P:Program) (t:TypeId):Option Nat:=(P.info? t).map (·.bytes)
theorem Eg (t tx ty el:TypeId) (i:TypeInfo) (ht:P.underlying t=some (.slice el)) (hi:P.info? el=some i) (base:Option Addr) (sLen sCap:Nat) (hle:sLen≤sCap) (x:Value) (hs:Src P i.size tx x 0 [] w) :
  (Builtin.append_ #[t,tx] ty #[.slice base sLen sCap,x]).run P w=.ok (.slice base sLen sCap) w:=by
 rcases hs.kind with ⟨e',hk⟩ | hk <;> cases base <;> simp [Builtin.append_,run_underlying ht,run_underlying hk,sizeOf,typeInfo,hi,hs.len,hle,hs.cells,storeCells]
theorem yG (t tx ty el T:TypeId) (i:TypeInfo) (ht:P.underlying t=some (.slice el)) (hi:P.info? el=some i)
  (g sLen sCap:Nat) (cur:Array Value) (hg:w.heap[g]?=some (.cells cur T (0,0))) (x:Value) (m:Nat) (news:List Value) (hs:Src P i.size tx x m news w)
  (hroom:sLen + m≤sCap) (hfit:sLen * i.size + news.length≤cur.size) :
  (Builtin.append_ #[t,tx] ty #[.slice (some ⟨g,0,none⟩) sLen sCap,x]).run P w =
   .ok (.slice (some ⟨g,0,none⟩) (sLen + m) sCap) (w.setRow g (cur.toList.take (sLen * i.size) ++ news ++ cur.toList.drop (sLen * i.size + news.length)).toArray):=by
 have hst:=run_storeCells_at P g (sLen * i.size) T news 0 cur w hg (by simpa using hfit) hs.one
 simp only [Nat.add_zero] at hst
 rcases hs.kind with ⟨e',hk⟩ | hk <;> simp [Builtin.append_,run_underlying ht,run_underlying hk,sizeOf,typeInfo,hi,hs.len,hroom,hs.cells,Addr.add_lit,hst]
theorem zd1 {d:D} {v:Value} {sz:Nat} {ys:List D} (hr:Rep ι j d v) (hy:jM d=some ys) (hall:eM sz ys=true) :
  ∃ ad cap us,v=.slice ad ys.length cap∧dM ι j ys us∧(∀ x∈us,x.cells.size=sz)∧(∀ u∈eA us,u.oneCell'=true)∧(ys=[]∨∃ b o,ad=some ⟨b,o,none⟩∧∀ (n:Nat) (u:Value),(eA us)[n]?=some u→ι b (o + n)=some u):=by
 cases d <;> simp only [jM,reduceCtorEq,aA] at hy <;> subst hy <;> simp only [Rep] at hr
 ·exact ⟨none,0,[],hr,by simp only [dM],by simp,by simp [eA],.inl rfl⟩
 ·obtain ⟨ad,cap,hv,_,_,h4⟩:=hr
  rcases h4 with rfl | ⟨b,o,had,hrow⟩
  ·exact ⟨ad,cap,[],hv,by simp only [dM],by simp,by simp [eA],.inl rfl⟩
  ·obtain ⟨us,q1,q2,q3⟩:=hrow.vals
   obtain ⟨s1,s2⟩:=rJ hall q1
   exact ⟨ad,cap,us,hv,q1,s1,s2,.inr ⟨b,o,had,q3⟩⟩
 ·obtain ⟨ad,hv⟩:=hr
  exact ⟨ad,0,[],hv,by simp only [dM],by simp,by simp [eA],.inl rfl⟩
theorem zec {k:RowK} {ds:List D} {vs:List Value} (hk:(k.ag || k.sz == 1)=true) (hl:ds.length=k.sz) (hr:dM ι j ds vs) (h1:∀ x∈vs,x.oneCell'=true):∃ u,Rep ι j (xO k ds) u∧u.cells.toList=vs:=by
 cases hag:k.ag with
 | true=>exact ⟨.agg ⟨vs⟩,by simp only [xO,hag,dJ,Rep]; exact ⟨vs,rfl,hr,h1⟩,rfl⟩
 | false =>
  rw [hag,Bool.false_or,beq_iff_eq] at hk
  rw [hk] at hl
  match ds,hl with
  | [d],_ =>
   simp only [dM] at hr
   obtain ⟨x,r,rfl,hx,rfl⟩:=hr
   refine ⟨x,by simp only [xO,hag,dH,List.headD]; exact hx,?_⟩
   have:=h1 x (by simp)
   cases x <;> simp only [Value.oneCell',aE] at this <;> rfl
theorem Yo {k:RowK} (hk:(k.ag || k.sz == 1)=true):∀ (n:Nat) (ds:List D) (vs:List Value),n * k.sz≤ds.length→dM ι j ds vs→(∀ x∈vs,x.oneCell'=true) →
  ∃ us,dM ι j (pB k n ds) us∧eA us=vs.take (n * k.sz)∧(pB k n ds).length=n
 | 0,ds,vs,_,_,_=>⟨[],by simp only [pB,dM],by simp [eA],rfl⟩
 | n + 1,ds,vs,hn,hr,h1=>by
  have hlen:=hr.length
  rw [Nat.add_mul] at hn
  have ht:dM ι j (ds.take k.sz) (vs.take k.sz):=dM.of (by simp [hlen]) fun i d hi=>by
   rw [List.getElem?_take] at hi ⊢
   split at hi
   ·rw [if_pos (by assumption)]; exact hr.at i d hi
   ·cases hi
  have hd:dM ι j (ds.drop k.sz) (vs.drop k.sz):=dM.of (by simp [hlen]) fun i d hi=>by
   rw [List.getElem?_drop] at hi ⊢
   exact hr.at _ d hi
  obtain ⟨u,hu,huc⟩:=zec hk (by simp; omega) ht (fun x hx=>h1 x (bH hx))
  obtain ⟨us,k1,k2,k3⟩:=Yo hk n (ds.drop k.sz) (vs.drop k.sz) (by simp; omega) hd (fun x hx=>h1 x (List.mem_of_mem_drop hx))
  refine ⟨u :: us,by simp only [pB,dM]; exact ⟨u,us,rfl,hu,k1⟩,?_,by simp only [pB,aG,k3]⟩
  have:eA (u :: us)=u.cells.toList ++ eA us:=by simp [eA]
  rw [this,huc,k2,Nat.add_mul,Nat.one_mul,Nat.add_comm,List.take_add]
theorem lO.dats {b:Nat} {mk:Nat→Tag} {cs:List Cell} (h:lO ι j own w b mk cs):∃ (vs:List Value) (T:TypeId),w.heap[b]?=some (.cells ⟨vs⟩ T (0,0))∧cs.length≤vs.length∧dM ι j (cs.map fun c=>c.d) (vs.take cs.length)∧∀ x∈vs.take cs.length,x.oneCell'=true:=by
 obtain ⟨vs,T,h1,h2,h3⟩:=h
 refine ⟨vs,T,h1,h2,dM.of (by simp; omega) fun i d hi=>?_,fun x hx=>?_⟩
 ·rw [List.getElem?_map] at hi
  cases hc:cs[i]? with
  | none=>rw [hc] at hi; cases hi
  | some c =>
   rw [hc] at hi
   simp only [bN,aA] at hi
   subst hi
   obtain ⟨v,q1,q2,q3⟩:=h3 i c hc
   refine ⟨v,?_,q3.1⟩
   rw [List.getElem?_take,if_pos (List.getElem?_eq_some_iff.1 hc).1]
   exact q1
 ·obtain ⟨i,hi⟩:=List.getElem?_of_mem hx
  rw [List.getElem?_take] at hi
  split at hi
  ·rename_i hlt
   obtain ⟨v,q1,q2,_⟩:=h3 i _ (List.getElem?_eq_getElem hlt)
   rw [q1] at hi
   cases hi
   exact q2
  ·cases hi
theorem Ou (hG:GSim ι j own σ w) {k:RowK} {id off len:Nat} {cs:List Cell} (hk:(k.ag || k.sz == 1)=true) (hc:dE σ.objs id=some cs) (hle:(off + len) * k.sz≤cs.length) :
  ∃ b us,j id=some b∧own b=some (.obj id)∧dM ι j (xK k cs off len) us∧(xK k cs off len).length=len∧∀ (n:Nat) (u:Value),(eA us)[n]?=some u→w.cell? ⟨b,off * k.sz + n,none⟩=some u:=by
 obtain ⟨b,q1,q2,q3⟩:=hG.objs id cs hc
 obtain ⟨vs,T,h1,h2,h3,h4⟩:=q3.dats
 rw [Nat.add_mul] at hle
 have hlen:=h3.length
 have hd:dM ι j ((cs.map fun c=>c.d).drop (off * k.sz)) ((vs.take cs.length).drop (off * k.sz)):=dM.of (by simp; omega) fun i d hi=>by
  rw [List.getElem?_drop] at hi ⊢
  exact h3.at _ d hi
 obtain ⟨us,k1,k2,k3⟩:=Yo hk len _ _ (by simp; omega) hd (fun x hx=>h4 x (List.mem_of_mem_drop hx))
 refine ⟨b,us,q1,q2,k1,k3,fun n u hn=>?_⟩
 rw [k2,List.getElem?_take] at hn
 split at hn
 ·rw [List.getElem?_drop,List.getElem?_take] at hn
  split at hn
  ·rw [cell_of_row w b _ _ T (0,0) h1]
   simpa using hn
  ·cases hn
 ·cases hn
theorem Za (hG:GSim ι j own σ w) {d:D} {v:Value} {sz:Nat} {ys:List D} {tx el:TypeId} (hu:P.underlying tx=some (.slice el)) (hr:Rep ι j d v) (hy:iR σ.objs d=some ys) (hall:eM sz ys=true) :
  ∃ us,dM ι j ys us∧(∀ x∈us,x.cells.size=sz)∧(∀ u∈eA us,u.oneCell'=true)∧Src P sz tx v ys.length (eA us) w:=by
 have main:∀ {d':D},jM d'=some ys→Rep ι j d' v→∃ us,dM ι j ys us∧(∀ x∈us,x.cells.size=sz)∧(∀ u∈eA us,u.oneCell'=true)∧Src P sz tx v ys.length (eA us) w:=by
  intro d' hy hr
  obtain ⟨ady,capy,us,hyv,hyu,hus,hu1,hyl⟩:=zd1 hr hy hall
  have hul:=hyu.length
  refine ⟨us,hyu,hus,hu1,?_⟩
  rw [hyv]
  have hfl:(eA us).length=ys.length * sz:=by rw [lD hus,hul]
  rcases hyl with rfl | ⟨b,o',rfl,hn⟩
  ·have hu0:us=[]:=by simpa only [dM] using hyu
   subst hu0
   cases ady with
   | none=>exact Src.ofNil w hu capy
   | some ad=>exact Src.ofSlice w hu ad 0 capy [] (by simp) (by simp) (by simp)
  ·exact Src.ofSlice w hu ⟨b,o',none⟩ ys.length capy (eA us) hfl (fun k u hk=>by
    rw [Addr.add_lit]
    exact hG.holds _ _ _ (hn k u hk)) hu1
 cases d with
 | arr k id off len =>
  simp only [iR] at hy
  obtain ⟨cs,hc,hy⟩:=dC hy
  obtain ⟨hb,hy⟩:=dN hy
  cases hy
  simp only [aC,cE] at hb
  obtain ⟨b,us,e1,_,e2,e3,e4⟩:=Ou hG hb.1 hc hb.2
  obtain ⟨s1,s2⟩:=rJ hall e2
  refine ⟨us,e2,s1,s2,?_⟩
  simp only [Rep] at hr
  obtain ⟨b',c,ad,r1,r2,r3,rfl,r4⟩:=hr
  rw [e1] at r1
  cases r1
  have hfl:(eA us).length=(xK k cs off len).length * sz:=by rw [lD s1,e2.length]
  rw [e3] at hfl ⊢
  refine Src.ofSlice w hu ad len (c - off) (eA us) hfl (fun n u hn=>?_) s2
  rcases r4 with rfl | rfl
  ·have hlen:len=0:=by omega
   rw [hlen,Nat.zero_mul] at hfl
   have:=(List.getElem?_eq_some_iff.1 hn).1
   omega
  ·rw [Addr.add_lit]
   exact e4 n u hn
 | _=>simp only [iR] at hy; exact main hy hr
theorem zdyb {g lo:Nat} {cur:Array Value} {T:TypeId} {news:List Value} (hG:GSim ι j own σ w) (hg:w.heap[g]?=some (.cells cur T (0,0))) (hfit:lo + news.length≤cur.size) (hfree:∀ o,lo≤o→ι g o=none) {t:Tag} (ht:own g=some t) (htl:∃ s,t=.slot s) :
  Evo ι j own w (lF ι g lo (lo + news.length) (fun o=>news[o - lo]?)) j own (w.setRow g (cur.toList.take lo ++ news ++ cur.toList.drop (lo + news.length)).toArray) (fun u=>u=t) ∧
  GSim (lF ι g lo (lo + news.length) (fun o=>news[o - lo]?)) j own σ (w.setRow g (cur.toList.take lo ++ news ++ cur.toList.drop (lo + news.length)).toArray):=by
 obtain ⟨s,rfl⟩:=htl
 have hE:Evo ι j own w (lF ι g lo (lo + news.length) (fun o=>news[o - lo]?)) j own (w.setRow g (cur.toList.take lo ++ news ++ cur.toList.drop (lo + news.length)).toArray) (fun u=>u=.slot s):=by
  refine ⟨rfl,rfl,rfl,by simp [World.setRow],fun b o v h=>?_,fun _ _ h=>h,fun b _ hb=>?_⟩
  ·unfold lF
   split
   ·rename_i hc
    obtain ⟨rfl,hc,_⟩:=hc
    rw [hfree o hc] at h
    cases h
   ·exact h
  ·have hne:b≠g:=fun e=>hb _ (e ▸ ht) rfl
   exact ⟨setRow_other w g b _ hne,rfl,fun o=>if_neg (fun hc=>hne hc.1)⟩
 refine ⟨hE,hG.evo hE (fun b o v h=>?_) (fun b u h hu o=>?_) (fun b u h=>aP (hG.ownlt b u h) hE.size) hG.jlt (fun _ _ _=>⟨(fun h=>by cases h),(fun _ _ _ _ h=>by cases h)⟩) (fun _ _ _ h=>by cases h)⟩
 ·unfold lF at h
  by_cases hb:b=g
  ·subst hb
   rw [cell_of_row _ b o _ T (0,0) (setRow_heap w b _ _ T (0,0) hg)]
   simp only [List.getElem?_toArray]
   by_cases hc:b=b∧lo≤o∧o < lo + news.length
   ·rw [if_pos hc] at h
    rw [bR,List.getElem?_append_right (by simp; omega),List.getElem?_append_left (by simp; omega),← h]
    congr 1
    simp
    omega
   ·rw [if_neg hc] at h
    have hlt:o < lo:=by
     apply Nat.lt_of_not_le
     intro hle
     rw [hfree o hle] at h
     cases h
    have:=hG.holds b o v h
    rw [cell_of_row w b o cur T (0,0) hg] at this
    rw [bR,List.getElem?_append_left (by simp; omega),List.getElem?_take,if_pos hlt,Array.getElem?_toList]
    exact this
  ·rw [if_neg (fun hc=>hb hc.1)] at h
   rw [cell_setRow_other w g _ _ hb]
   exact hG.holds b o v h
 ·have hne:b≠g:=fun e=>by
   rw [e,ht] at h
   cases h
   cases hu
  unfold lF
  rw [if_neg (fun hc=>hne hc.1)]
  exact hG.noimm b u h hu o
theorem RowK.same_eq {a b:RowK} (h:a.same b=true):a.el=b.el∧a.sz=b.sz:=by
 cases a; cases b
 simpa [RowK.same] using h
theorem zee {k k':RowK} (h:k.sz=k'.sz) {es:List D} {v:Value}:Rep ι j (.list k es) v↔Rep ι j (.list k' es) v:=by simp only [Rep,h]
theorem Qr {k k':RowK} (h:k.el=k'.el∧k.sz=k'.sz) {t:Tag} {es:List D} {v:Value}:vI ι own w t k es v↔vI ι own w t k' es v:=by simp only [vI,h.1,h.2]
theorem Yh {sz:RowK} {by_:Nat} {x:Cell} {ys:List D} {r:Cell} (h:gC sz by_ x ys=some r):∃ xs,jM x.d=some xs∧pM sz x=true∧eM sz.sz ys=true∧(xs.length + ys.length) * by_≤eL∧xs.length + ys.length≤eL∧r=⟨true,pG sz x.d ys⟩:=by
 unfold gC at h
 obtain ⟨xs,h1,h⟩:=dC h
 obtain ⟨h3,h⟩:=dN h
 simp only [aC,cE] at h3
 cases h
 exact ⟨xs,h1,h3.1.1.1,h3.1.1.2,h3.1.2,h3.2,rfl⟩
theorem xB {own':Own} {ι':Imm} {j':Lay} {w':World} {e0:Env} {s:Nat} {c:Cell} {x:Value} (hs:s < N) (h0:LSim ι' j' own' lb N {e0 with slots:=eE e0.slots s} a w') (hc:lP ι' j' own' w' (.slot s) c x) :
  LSim ι' j' own' lb N (e0.put (some s) c) (a.put (some s) x) w':=by
 refine (h0.putC hs hc).sub (fun t c' h=>⟨c',?_,rfl,fun h=>h⟩) (fun _ _ h=>h) (fun _ cs h=>⟨cs,h,jR.refl cs⟩) rfl
 simp only [Env.put,dY,eK] at h ⊢
 split
 ·rename_i hst; rw [if_pos hst] at h; exact h
 ·rename_i hst; rw [if_neg hst] at h; exact h
theorem LSim.forget {e0:Env} (h:LSim ι j own lb N e0 a w) (s:Nat):LSim ι j own lb N {e0 with slots:=eE e0.slots s} a w :=
 h.sub (fun t c h=>by
  simp only [eK] at h
  split at h
  ·cases h
  ·exact ⟨c,h,rfl,fun h=>h⟩) (fun _ _ h=>h) (fun _ cs h=>⟨cs,h,jR.refl cs⟩) rfl
theorem oZ {z:Value} {zs:List Value} {sz:Nat} (h:z.cells.toList=zs) (hl:zs.length=sz) (n:Nat):(Builtin.zeroCells z.cells n).size=n * sz:=by
 rw [size_zeroCells,← Array.length_toList,h,hl]
theorem Em (hG:GSim ι j own σ w) (hL:LSim ι j own lb N e a w) {o:Oper} {t tx el:TypeId} {sz by_ s:Nat} {ag:Bool} {x y:Operand} {x':AOpd} {zs:List Value} {c r:Cell} {ys:List D}
  (ho:o.op=.call {callee:=.builtin .append,args:=⟨[x,y]⟩,argTypes:=⟨[t,tx]⟩}) (hd:o.dst=some s) (hs:s < N) (hk:dL x x'=true)
  (ht:jI P t=some el) (hsz:fP P el=some sz) (hz:mQ P el=some zs) (hzl:zs.length=sz) (hpos:0 < sz) (hby:nB P el=some by_)
  (hc:opd e x'=some c) (hr:gC ⟨el,sz,ag⟩ by_ c ys=some r) {us:List Value} (hysrc:eM sz ys=true→dM ι j ys us∧(∀ x∈us,x.cells.size=sz)∧Src P sz tx (a.eval y) ys.length (eA us) w) :
  Did P N ι j own w o a ((x'.drop e).put o.dst r) σ:=by
 obtain ⟨xs,hxs,hmay,hall,hb1,hb2,rfl⟩:=Yh hr
 obtain ⟨hyu,hus,hsrc⟩:=hysrc hall
 obtain ⟨ie,z,i1,i2,i3,i4⟩:=Aj hsz hz
 have hu:=kY ht
 have hby':ie.bytes=by_:=by simpa [nB,i1] using hby
 subst i2
 subst hby'
 have hx:=dT hL hk hc
 -- the operation is the builtin's
 have hexec:∀ v w',(Builtin.append_ #[t,tx] o.type #[a.eval x,a.eval y]).run P w=.ok v w'→(execOp a.eval o).run P w=.ok (.value v) w':=by
  intro v w' h
  simp only [execOp,ho,resolve,invoke,builtin,Sem.run_bind,Sem.run_pure,Result.andThen_ok,List.map_toArray,aO,aZ,h]
 have hb2':xs.length + ys.length≤1099511627776:=hb2
 have hb1':(xs.length + ys.length) * ie.bytes≤1099511627776:=hb1
 rw [hd]
 obtain ⟨ofL⟩:Nonempty (∀ {v:Value} {w':World} {own1 ι' own':_},(execOp a.eval o).run P w=.ok (.value v) w'→Evo ι j own w ι j own1 w (fun _=>True)→GSim ι' j own' σ w'→LSim ι' j own' lb N ((x'.drop e).put (some s) ⟨true,pG ⟨el,ie.size,ag⟩ c.d ys⟩) (a.put (some s) v) w'→Evo ι j own1 w ι' j own' w' (fun _=>True) →
   Did P N ι j own w o a ((x'.drop e).put (some s) ⟨true,pG ⟨el,ie.size,ag⟩ c.d ys⟩) σ) :=
  ⟨fun {v w' own1 ι' own'} h1 hE hG' hL' hE'=>⟨_,w',_,h1,.inl ⟨v,rfl,rfl⟩,ι',j,own',lb,hG',by rw [hd]; exact hL',hE.trans hE'⟩⟩
 -- nothing is appended
 have hnone:ys=[]→(Rep ι j c.d (a.eval x)→Rep ι j (pG ⟨el,ie.size,ag⟩ c.d ys) (a.eval x))∧∀ (t':Tag) (own':Own),iP ι own' w t' c.d (a.eval x)→iP ι own' w t' (pG ⟨el,ie.size,ag⟩ c.d ys) (a.eval x):=by
  rintro rfl
  cases hcd':c.d <;> rw [hcd'] at hxs <;> simp only [jM,reduceCtorEq] at hxs
  ·exact ⟨id,fun _ _ h=>h⟩
  ·simp only [pM,hcd',aC] at hmay
   have hk:=RowK.same_eq hmay.2
   simp only [pG,bP]
   exact ⟨(zee hk.2).1,fun t' own' h=>tI.2 ((Qr hk).1 (tI.1 h))⟩
  ·exact ⟨id,fun _ _ h=>h⟩
 by_cases hye:ys=[]
 ·obtain ⟨hj,hO⟩:=hnone hye
  have hval:∃ base sLen sCap,a.eval x=.slice base sLen sCap∧sLen≤sCap:=by
   cases hcd':c.d <;> rw [hcd'] at hxs hx <;> simp only [jM,reduceCtorEq] at hxs <;> simp only [Rep] at hx
   ·exact ⟨none,0,0,hx,aM _⟩
   ·obtain ⟨ad,cap,hv,hle,_⟩:=hx
    exact ⟨ad,_,cap,hv,hle⟩
   ·obtain ⟨ad,hv⟩:=hx
    exact ⟨ad,0,0,hv,aM _⟩
  obtain ⟨base,sLen,sCap,hv,hle⟩:=hval
  obtain ⟨own1,hG1,hL1,hO1,hE1⟩:=wS hG hL hk hc (t':=.slot s) rfl
  have hrun:=hexec (a.eval x) w (by
   rw [hv]
   subst hye
   have hu0:us=[]:=by simpa only [dM] using hyu
   subst hu0
   exact Eg (P:=P) (w:=w) t tx o.type el ie hu i1 base sLen sCap hle _ hsrc)
  refine ofL hrun hE1 hG1 (xB hs (hL1.forget s) ⟨?_,fun _=>?_⟩) (Evo.refl _ _ _ _ _)
  ·exact hj hx
  ·refine hO _ _ ?_
   cases how:c.own with
   | true=>exact hO1 how
   | false =>
    cases hcd':c.d <;> rw [hcd'] at hxs <;> simp only [jM,reduceCtorEq] at hxs
    ·trivial
    ·simp only [pM,hcd',how,Bool.false_and,aE] at hmay
    ·trivial
 ·have hylen:0 < ys.length:=List.length_pos_iff.2 hye
  have hul:=hyu.length
  have hfl:(eA us).length=ys.length * ie.size:=by rw [lD hus,hul]
  have hfit:∀ old,old < xs.length + ys.length→Builtin.nextslicecap (xs.length + ys.length) old * ie.bytes≤281474976710656:=fun old h=>growslice_fits h (by omega)
  have hcapge:∀ old,xs.length + ys.length≤grownCap w (xs.length + ys.length) old el:=fun old=>grownCap_ge w _ old el
  have hcapmax:∀ old,grownCap w (xs.length + ys.length) old el≤maxLen:=fun old=>grownCap_le_maxLen w _ old el (by simp only [maxLen]; omega)
  -- from nil
  have fromNil:xs=[]→(∃ base,a.eval x=.slice base 0 0)→pG ⟨el,ie.size,ag⟩ c.d ys=.list ⟨el,ie.size,ag⟩ ys→Did P N ι j own w o a ((x'.drop e).put (some s) ⟨true,pG ⟨el,ie.size,ag⟩ c.d ys⟩) σ:=by
   rintro hxe ⟨base,hxv⟩ hj
   subst hxe
   have hfirst:(Builtin.firstCells ie.size 0 (.slice base 0 0)).run P w.drew=.ok (#[]:Array Value) w.drew:=by
    cases base with
    | none=>exact run_firstCells_none _ _ _ _ _
    | some ad=>exact run_firstCells_some (P:=P) w.drew ie.size 0 ad 0 0 [] (by simp) (by simp)
   simp only [aH,aN] at hfit hcapge hcapmax hb2' hb1'
   have hrun:=hexec _ _ (by
    rw [hxv]
    have:=run_append_grow_src (P:=P) w t tx o.type el ie z hu i1 i3 base 0 0 [] hfirst _ ys.length (eA us) hsrc (by omega) (by omega) (by simpa using hfit 0 (by omega))
    simpa using this)
   obtain ⟨ι',own',k1,k2,k3⟩:=zcr hG (hL.drop x') hs (.inr rfl) (sz:=⟨el,ie.size,ag⟩) (cap:=grownCap w ys.length 0 el) rfl hyu hus (cur:=(eA us).toArray ++ Builtin.zeroCells z.cells (grownCap w ys.length 0 el - ys.length)) (T:=el) (fun n u hn=>by
    have hlt:=(List.getElem?_eq_some_iff.1 hn).1
    rw [Array.getElem?_append_left (by simpa using hlt)]
    simpa using hn) (by
    rw [Array.size_append,oZ i4 hzl,List.size_toArray,hfl,← Nat.add_mul]
    congr 1
    have:=hcapge 0
    omega) (hcapge 0) (hcapmax 0)
   rw [← hj] at k2
   exact ofL hrun (Evo.refl _ _ _ _ _) k1 k2 k3
  cases hcd':c.d <;> rw [hcd'] at hxs <;> simp only [jM,reduceCtorEq,aA] at hxs
  ·subst hxs
   rw [hcd'] at hx fromNil
   simp only [Rep] at hx
   rw [← hcd'] at fromNil ⊢
   refine fromNil rfl ⟨none,hx⟩ ?_
   rw [hcd']
   cases hy:ys with
   | nil=>exact absurd hy hye
   | cons y0 ys0=>rfl
  ·rename_i sz0 es
   subst hxs
   simp only [pM,hcd',aC] at hmay
   obtain ⟨how,hsame⟩:=hmay
   have hsame:=RowK.same_eq hsame
   have hj:pG ⟨el,ie.size,ag⟩ c.d ys=.list ⟨el,ie.size,ag⟩ (es ++ ys):=by rw [hcd']; rfl
   rw [← hcd']
   obtain ⟨own1,hG1,hL1,hO1,hE1⟩:=wS hG hL hk hc (t':=.slot s) rfl
   have hO1:=hO1 how
   rw [hcd'] at hx hO1
   replace hx:=(zee (k':=⟨el,ie.size,ag⟩) hsame.2).1 hx
   replace hO1:=(Qr (k':=⟨el,ie.size,ag⟩) hsame).1 (tI.1 hO1)
   simp only [vI] at hO1
   have grow:∀ (ad:Option Addr) (cap':Nat) (vs:List Value),a.eval x=.slice ad es.length cap'→dM ι j es vs→(∀ x∈vs,x.cells.size=ie.size)→(Builtin.firstCells ie.size es.length (.slice ad es.length cap')).run P w.drew=.ok (eA vs).toArray w.drew →
     ¬ es.length + ys.length≤cap'→es.length≤cap'→Did P N ι j own w o a ((x'.drop e).put (some s) ⟨true,pG ⟨el,ie.size,ag⟩ c.d ys⟩) σ:=by
    intro ad cap' vs hv' hvs hvsz hfirst hroom hle
    have hvl:=hvs.length
    have hfv:(eA vs).length=es.length * ie.size:=by rw [lD hvsz,hvl]
    have hjoin:dM ι j (es ++ ys) (vs ++ us):=hvs.append hyu
    have hjsz:∀ x∈vs ++ us,x.cells.size=ie.size:=fun x hx=>by
     rcases bJ.1 hx with h | h
     ·exact hvsz x h
     ·exact hus x h
    have hrun:=hexec _ _ (by
     rw [hv']
     exact run_append_grow_src (P:=P) w t tx o.type el ie z hu i1 i3 ad es.length cap' (eA vs) hfirst _ ys.length (eA us) hsrc (by omega) (by omega) (hfit cap' (by omega)))
    obtain ⟨ι',own',k1,k2,k3⟩:=zcr hG (hL.drop x') hs (.inr rfl) (sz:=⟨el,ie.size,ag⟩) (cap:=grownCap w (es.length + ys.length) cap' el) rfl hjoin hjsz (cur:=(eA vs ++ eA us).toArray ++ Builtin.zeroCells z.cells (grownCap w (es.length + ys.length) cap' el - (es.length + ys.length))) (T:=el) (fun n u hn=>by
     have hlt:=(List.getElem?_eq_some_iff.1 hn).1
     rw [Ui] at hn hlt
     rw [Array.getElem?_append_left (by simpa using hlt)]
     simpa using hn) (by
     rw [Array.size_append,oZ i4 hzl,List.size_toArray,aF,hfl,hfv,← Nat.add_mul,← Nat.add_mul]
     congr 1
     have:=hcapge cap'
     omega) (by rw [aF]; exact hcapge cap') (hcapmax cap')
    rw [← hj,aF] at k2
    exact ofL hrun (Evo.refl _ _ _ _ _) k1 k2 k3
   rcases hO1 with hnil | ⟨g,cap,cur,T,hv,hown,hg,⟨hT,hcs⟩,hfree⟩
   ·obtain ⟨a0,hnil,_⟩:=hnil
    simp only [Rep] at hx
    obtain ⟨ad,cap,hv,hle,_,hrow⟩:=hx
    rw [hv] at hnil
    simp only [Value.slice.injEq] at hnil
    obtain ⟨_,_,rfl⟩:=hnil
    rcases hrow with rfl | ⟨b,o',rfl,hrow⟩
    ·exact fromNil rfl ⟨ad,hv⟩ hj
    ·obtain ⟨vs,q1,q2,q3⟩:=hrow.vals
     exact grow (some ⟨b,o',none⟩) _ vs hv q1 q2 (run_firstCells_some (P:=P) w.drew ie.size es.length ⟨b,o',none⟩ _ _ (eA vs) (by rw [lD q2,q1.length]) (fun k u hk=>by
       rw [Addr.add_lit]
       exact hG.holds _ _ _ (q3 k u hk))) (by omega) hle
   ·
    simp only [Rep] at hx
    obtain ⟨ad,cap',hv',hle,hmax,hrow⟩:=hx
    rw [hv'] at hv
    simp only [Value.slice.injEq,true_and] at hv
    obtain ⟨rfl,rfl⟩:=hv
    have holds:∃ vs,dM ι j es vs∧(∀ x∈vs,x.cells.size=ie.size)∧∀ (n:Nat) (u:Value),(eA vs)[n]?=some u→ι g n=some u:=by
     rcases hrow with rfl | ⟨b,o',hb,hrow⟩
     ·exact ⟨[],by simp only [dM],by simp,by simp [eA]⟩
     ·simp only [aA,Addr.mk.injEq,and_true] at hb
      obtain ⟨rfl,rfl⟩:=hb
      obtain ⟨vs,q1,q2,q3⟩:=hrow.vals
      exact ⟨vs,q1,q2,fun n u h=>by simpa using q3 n u h⟩
    obtain ⟨vs,hvs,hvsz,hold⟩:=holds
    have hvl:=hvs.length
    have hfv:(eA vs).length=es.length * ie.size:=by rw [lD hvsz,hvl]
    have hjoin:dM ι j (es ++ ys) (vs ++ us):=hvs.append hyu
    have hjsz:∀ x∈vs ++ us,x.cells.size=ie.size:=fun x hx=>by
     rcases bJ.1 hx with h | h
     ·exact hvsz x h
     ·exact hus x h
    by_cases hroom:es.length + ys.length≤cap'
    ·
     have hfit':es.length * ie.size + (eA us).length≤cur.size:=by
      rw [hfl,hcs,← Nat.add_mul]
      exact Nat.mul_le_mul_right _ hroom
     have hrun:=hexec _ _ (by
      rw [hv']
      exact yG (P:=P) t tx o.type el T ie hu i1 g es.length cap' cur hg _ ys.length (eA us) hsrc hroom hfit')
     obtain ⟨hE2,hG2⟩:=zdyb (news:=eA us) hG1 hg hfit' hfree hown ⟨s,rfl⟩
     generalize hw':w.setRow g _=w' at hrun hE2 hG2
     generalize hι':lF ι g (es.length * ie.size) (es.length * ie.size + (eA us).length) (fun o=>(eA us)[o - es.length * ie.size]?)=ι' at hE2 hG2
     have hL2:=(hL1.forget s).evo hE2 (fun s' c' h _ hst=>by
      cases hst
      simp only [eK,if_true] at h
      cases h) (fun _ _ _=>⟨(fun h=>by cases h),(fun _ _ _ _ h=>by cases h)⟩)
     have hnew:w'.heap[g]?=some (.cells (cur.toList.take (es.length * ie.size) ++ eA us ++ cur.toList.drop (es.length * ie.size + (eA us).length)).toArray T (0,0)):=hw' ▸ setRow_heap w g _ _ T (0,0) hg
     refine ofL hrun hE1 hG2 (xB hs hL2 ⟨?_,fun _=>?_⟩) (hE2.weaken fun _ _=>trivial)
     ·rw [hj]
      simp only [Rep]
      refine ⟨_,cap',by rw [aF],by rw [aF]; exact hroom,hmax,.inr ⟨g,0,rfl,eU.of_vals (hE2.repL hjoin) hjsz fun n u hn=>?_⟩⟩
      rw [aN]
      rw [Ui] at hn
      by_cases hlt:n < es.length * ie.size
      ·rw [List.getElem?_append_left (by omega)] at hn
       exact hE2.imm _ _ _ (hold n u hn)
      ·rw [List.getElem?_append_right (by omega),hfv] at hn
       have:=(List.getElem?_eq_some_iff.1 hn).1
       rw [← hι']
       unfold lF
       rw [if_pos ⟨rfl,by omega,by omega⟩]
       exact hn
     ·simp only [hj,tI,vI]
      refine .inr ⟨g,cap',_,T,by rw [aF],hown,hnew,?_,fun o' ho'=>?_⟩
      ·refine ⟨hT,?_⟩
       rw [← hcs]
       simp only [List.size_toArray,aF,bI,List.length_drop,Array.length_toList]
       omega
      ·rw [aF,Nat.add_mul] at ho'
       rw [← hι']
       unfold lF
       rw [if_neg (by omega)]
       exact hfree o' (by omega)
    ·exact grow (some ⟨g,0,none⟩) cap' vs hv' hvs hvsz (run_firstCells_some (P:=P) w.drew ie.size es.length ⟨g,0,none⟩ _ cap' (eA vs) hfv (fun k u hk=>by
       rw [Addr.add_lit]
       exact hG.holds _ _ _ (by simpa using hold k u hk))) hroom hle
  ·subst hxs
   rw [hcd'] at hx fromNil
   simp only [Rep] at hx
   rw [← hcd'] at fromNil ⊢
   refine fromNil rfl hx ?_
   rw [hcd']
   cases hy:ys with
   | nil=>exact absurd hy hye
   | cons y0 ys0=>rfl
theorem zm3 (hG:GSim ι j own σ w) (hL:LSim ι j own lb N e a w) {o:Oper} {t el:TypeId} {sz by_ s:Nat} {ag:Bool} {x y:Operand} {x' y':AOpd} {zs:List Value} {c d r:Cell} {ys:List D}
  (ho:o.op=.call {callee:=.builtin .append,args:=⟨[x,y]⟩,argTypes:=⟨[t,t]⟩}) (hd:o.dst=some s) (hs:s < N) (hk:dL x x'=true) (hk1:dL y y'=true)
  (ht:jI P t=some el) (hsz:fP P el=some sz) (hz:mQ P el=some zs) (hzl:zs.length=sz) (hpos:0 < sz) (hby:nB P el=some by_)
  (hc:opd e x'=some c) (hcd:opd e y'=some d) (hys:iR σ.objs d.d=some ys) (hr:gC ⟨el,sz,ag⟩ by_ c ys=some r):Did P N ι j own w o a ((x'.drop e).put o.dst r) σ:=by
 obtain ⟨xs,hxs,hmay,hall,_⟩:=Yh hr
 obtain ⟨us,h1,h2,h3,h4⟩:=Za hG (kY ht) (dT hL hk1 hcd) hys hall
 exact Em hG hL ho hd hs hk ht hsz hz hzl hpos hby hc hr (us:=us) (fun _=>⟨h1,h2,h4⟩)
theorem Ih:∀ (s:List UInt8),dM ι j (rE s) (s.map fun b=>Value.int .u8 b.toNat)
 | []=>by simp [rE,dM]
 | b :: s=>by
  simp only [rE,aO,dM]
  exact ⟨_,_,rfl,by simp only [Rep],Ih s⟩
theorem tW:∀ (s:List UInt8),(rE s).length=s.length
 | []=>rfl
 | _ :: s=>by simp only [rE,aG,tW s]
theorem Iz:∀ (s:List UInt8),eA (s.map fun b=>Value.int .u8 b.toNat)=s.map fun b=>Value.int .u8 b.toNat
 | []=>rfl
 | b :: s=>by
  have:=Iz s
  simp only [eA,aO,bE] at this ⊢
  rw [this]
  rfl
theorem zk1 (hG:GSim ι j own σ w) (hL:LSim ι j own lb N e a w) {o:Oper} {t tx el:TypeId} {by_ s:Nat} {ag:Bool} {x y:Operand} {x' y':AOpd} {zs:List Value} {c d r:Cell} {str:List UInt8}
  (ho:o.op=.call {callee:=.builtin .append,args:=⟨[x,y]⟩,argTypes:=⟨[t,tx]⟩}) (hd:o.dst=some s) (hs:s < N) (hk:dL x x'=true) (hk1:dL y y'=true)
  (ht:jI P t=some el) (hsz:fP P el=some 1) (hz:mQ P el=some zs) (hzl:zs.length=1) (hby:nB P el=some by_) (htx:P.underlying tx=some .string)
  (hc:opd e x'=some c) (hcd:opd e y'=some d) (hds:d.d=.str str) (hr:gC ⟨el,1,ag⟩ by_ c (rE str)=some r):Did P N ι j own w o a ((x'.drop e).put o.dst r) σ:=by
 have hy:=dT hL hk1 hcd
 rw [hds] at hy
 simp only [Rep] at hy
 refine Em hG hL ho hd hs hk ht hsz hz hzl (by omega) hby hc hr (us:=str.map fun b=>Value.int .u8 b.toNat) (fun _=>?_)
 refine ⟨Ih str,fun x hx=>?_,?_⟩
 ·obtain ⟨b,_,rfl⟩:=bF.1 hx
  rfl
 ·rw [hy,Iz,tW]
  exact Src.ofString w htx ⟨⟨str⟩⟩
end
end Go.Mx
