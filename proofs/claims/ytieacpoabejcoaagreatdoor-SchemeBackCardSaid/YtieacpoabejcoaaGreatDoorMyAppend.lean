/-
 Slice literals and append: whatever capacities are drawn.
-/
import Derived.Great.BuildSlice
import Derived.Deep.AppendSrc
import Derived.Test.YtieacpoabejcoaaGreatDoorMyLists
set_option linter.unusedSimpArgs false
set_option linter.unusedVariables false
set_option linter.unusedSectionVars false
namespace Go.Mx
open Go
section
variable [LoopKit] {P:Program} {ι:Imm} {j:Lay} {own:Own} {lb:Lay} {N:Nat} {e:Env} {a:Go.Act} {w:World} {σ:Store}
def okRow:Nat→List (Nat × Operand)→List AOpd→Bool
 | _,[],[]=>true
 | i,(k,x) :: ps,y :: ys=>k == i && okOpd x y && okRow (i + 1) ps ys
 | _,_,_=>false
theorem zn2 (hL:LSim ι j own lb N e a w):∀ {i:Nat} {ps:List (Nat × Operand)} {qs:List AOpd},okRow i ps qs=true→∀ {ds:List D},opds e qs=some ds →
  ∃ xs,RepL ι j ds xs∧(ps.map fun p=>(p.1,a.eval p.2))=(xs.zipIdx i).map fun x=>(x.2,x.1)
 | i,[],[],_,ds,h=>by
  simp only [opds,Option.some.injEq] at h
  subst h
  exact ⟨[],by simp only [RepL],rfl⟩
 | i,[],_ :: _,hk,_,_=>by simp only [okRow,Bool.false_eq_true] at hk
 | i,_ :: _,[],hk,_,_=>by simp only [okRow,Bool.false_eq_true] at hk
 | i,(k,x) :: ps,y :: ys,hk,ds,h=>by
  simp only [okRow,Bool.and_eq_true,beq_iff_eq] at hk
  obtain ⟨⟨rfl,hk1⟩,hk2⟩:=hk
  simp only [opds] at h
  obtain ⟨c,h1,h⟩:=zaa h
  obtain ⟨ds',h2,h⟩:=zaa h
  cases h
  obtain ⟨xs,k1,k2⟩:=zn2 hL hk2 h2
  refine ⟨a.eval x :: xs,by simp only [RepL]; exact ⟨_,_,rfl,zah hL hk1 h1,k1⟩,?_⟩
  simp only [List.map_cons,List.zipIdx_cons,k2]
theorem zko:∀ {ys:List AOpd} {ds:List D},opds e ys=some ds→ds.length=ys.length
 | [],ds,h=>by simp only [opds,Option.some.injEq] at h; subst h; rfl
 | y :: ys,ds,h=>by
  simp only [opds] at h
  obtain ⟨c,h1,h⟩:=zaa h
  obtain ⟨ds',h2,h⟩:=zaa h
  cases h
  simp only [List.length_cons,zko h2]
theorem zh6 (t el:TypeId) (xs:List Value) (parts:Array (Nat × Value)) (ie:TypeInfo) (z:Value)
  (hu:P.underlying t=some (.slice el)) (hie:P.info? el=some ie) (hz:ie.zero=some z) (hzs:z.cells.size=ie.size) (hpos:0 < ie.size) (hx:∀ x∈xs,x.cells.size=ie.size) (hsm:xs.length * ie.size≤16777216)
  (hp:parts.toList=(xs.zipIdx 0).map fun x=>(x.2,x.1)) :
  ∃ cur:Array Value,(Instr.buildSlice t xs.length parts).run P w=.ok (.slice (some ⟨w.heap.size,0,none⟩) xs.length xs.length) (w.alloc (.cells cur el))∧cur.size=xs.length * ie.size∧∀ (n:Nat) (y:Value),(flat xs)[n]?=some y→cur[n]?=some y:=by
 by_cases h0:xs=[]
 ·subst h0
  refine ⟨#[],?_,by simp,by simp [flat]⟩
  have:parts.toList=[]:=by simpa using hp
  simp [Instr.buildSlice,run_underlying hu,sizeOf,typeInfo,hie,this,Instr.fill,newRow]
  congr 2
  apply Array.ext'
  simp
 ·have hl:0 < xs.length:=List.length_pos_iff.2 h0
  have hne:¬ xs.length * ie.size=0:=Nat.ne_of_gt (Nat.mul_pos hl hpos)
  obtain ⟨r,hr,hrs,hrk⟩:=Great.fill_dense hpos xs 0 ((Array.range (xs.length * ie.size)).map (z.cells[· % z.cells.size]!)) hx (by simp)
  rw [← hp] at hr
  refine ⟨r,run_buildSlice w t el xs.length parts r ie z hu hie hz (by omega) hne hr,by simpa using hrs,fun n y hn=>?_⟩
  have hlt:=(List.getElem?_eq_some_iff.1 hn).1
  rw [zb6 hx] at hlt
  obtain ⟨x,q1,q2⟩:=zwb hpos hx n y hn
  rw [Nat.zero_add] at hrk
  rw [hrk n,if_pos ⟨by omega,by omega⟩,Nat.sub_zero,q1]
  exact q2
theorem zi5 {t:TypeId} {sz:Nat} {zs:List Value} (h1:sizeB P t=some sz) (h2:zeroB P t=some zs):∃ ie z,P.info? t=some ie∧ie.size=sz∧ie.zero=some z∧z.cells.toList=zs:=by
 simp only [sizeB,Option.map_eq_some_iff] at h1
 obtain ⟨ie,hi,rfl⟩:=h1
 simp only [zeroB,hi,Option.bind_some,Option.map_eq_some_iff] at h2
 obtain ⟨z,hz,rfl⟩:=h2
 exact ⟨ie,z,hi,rfl,hz,rfl⟩
theorem zr5 (hG:GSim ι j own σ w) (hL:LSim ι j own lb N e a w) {o:Oper} {t el:TypeId} {len sz s:Nat} {ag:Bool} {parts:Array (Nat × Operand)} {qs:List AOpd} {zs:List Value} {ds:List D} (ho:o.op=.buildSlice t len parts)
  (hd:o.dst=some s) (hs:s < N) (hk:okRow 0 parts.toList qs=true) (hlen:len=qs.length) (ht:elemB P t=some el) (hsz:sizeB P el=some sz) (hz:zeroB P el=some zs) (hzl:zs.length=sz) (hpos:0 < sz)
  (hds:opds e qs=some ds) (hall:zau sz ds=true) (hsm:ds.length * sz≤16777216):Did P N ι j own w o a (e.put o.dst ⟨true,.list ⟨el,sz,ag⟩ ds⟩) σ:=by
 obtain ⟨xs,hx,hp⟩:=zn2 hL hk hds
 obtain ⟨x1,x2⟩:=ze6 hall hx
 obtain ⟨ie,z,i1,i2,i3,i4⟩:=zi5 hsz hz
 subst i2
 have hxl:=hx.length
 have hu:=zb0 ht
 have hparts:(parts.map fun (i,x)=>(i,a.eval x)).toList=(xs.zipIdx 0).map fun x=>(x.2,x.1):=by
  rw [← hp,Array.toList_map]
 have hzc:z.cells.size=ie.size:=by rw [← Array.length_toList,i4,hzl]
 obtain ⟨cur,c1,c2,c3⟩:=zh6 (w:=w) t el xs _ ie z hu i1 i3 hzc hpos x1 (by rw [hxl]; exact hsm) hparts
 have hll:len=ds.length:=by rw [hlen,zko hds]
 rw [hxl] at c1
 have hmax:ds.length≤maxLen:=by
  have:ds.length≤ds.length * ie.size:=Nat.le_mul_of_pos_right _ hpos
  simp only [maxLen]
  omega
 obtain ⟨ι',own',k1,k2,k3⟩:=zsv hG hL hs (.inl rfl) (sz:=⟨el,ie.size,ag⟩) rfl hx x1 c3 (by rw [c2,hxl]) (Nat.le_refl ds.length) hmax
 refine ⟨_,_,_,?_,.inl ⟨.slice (some ⟨w.heap.size,0,none⟩) ds.length ds.length,rfl,rfl⟩,ι',j,own',lb,k1,?_,k3⟩
 ·simp only [execOp,ho,hll,Sem.run_bind]
  rw [c1]
  rfl
 ·rw [hd]; exact k2
/-! ### append -/
def zc7 (P:Program) (t:TypeId):Option Nat:=(P.info? t).map (·.bytes)
theorem zj7 (t tx ty el:TypeId) (i:TypeInfo) (ht:P.underlying t=some (.slice el)) (hi:P.info? el=some i) (base:Option Addr) (sLen sCap:Nat) (hle:sLen≤sCap) (x:Value) (hs:Src P i.size tx x 0 [] w) :
  (Builtin.append_ #[t,tx] ty #[.slice base sLen sCap,x]).run P w=.ok (.slice base sLen sCap) w:=by
 rcases hs.kind with ⟨e',hk⟩ | hk <;> cases base <;> simp [Builtin.append_,run_underlying ht,run_underlying hk,sizeOf,typeInfo,hi,hs.len,hle,hs.cells,storeCells]
theorem zob (t tx ty el T:TypeId) (i:TypeInfo) (ht:P.underlying t=some (.slice el)) (hi:P.info? el=some i)
  (g sLen sCap:Nat) (cur:Array Value) (hg:w.heap[g]?=some (.cells cur T (0,0))) (x:Value) (m:Nat) (news:List Value) (hs:Src P i.size tx x m news w)
  (hroom:sLen + m≤sCap) (hfit:sLen * i.size + news.length≤cur.size) :
  (Builtin.append_ #[t,tx] ty #[.slice (some ⟨g,0,none⟩) sLen sCap,x]).run P w =
   .ok (.slice (some ⟨g,0,none⟩) (sLen + m) sCap) (w.setRow g (cur.toList.take (sLen * i.size) ++ news ++ cur.toList.drop (sLen * i.size + news.length)).toArray):=by
 have hst:=run_storeCells_at P g (sLen * i.size) T news 0 cur w hg (by simpa using hfit) hs.one
 simp only [Nat.add_zero] at hst
 rcases hs.kind with ⟨e',hk⟩ | hk <;> simp [Builtin.append_,run_underlying ht,run_underlying hk,sizeOf,typeInfo,hi,hs.len,hroom,hs.cells,Addr.add_lit,hst]
theorem zm0 (t tx ty el T:TypeId) (i:TypeInfo) (ht:P.underlying t=some (.slice el)) (hi:P.info? el=some i)
  (g g0 sLen sCap:Nat) (cur:Array Value) (hg:w.heap[g]?=some (.cells cur T (0,0))) (x:Value) (m:Nat) (news:List Value) (hs:Src P i.size tx x m news w)
  (hroom:sLen + m≤sCap) (hfit:g0 + sLen * i.size + news.length≤cur.size) :
  (Builtin.append_ #[t,tx] ty #[.slice (some ⟨g,g0,none⟩) sLen sCap,x]).run P w =
   .ok (.slice (some ⟨g,g0,none⟩) (sLen + m) sCap) (w.setRow g (cur.toList.take (g0 + sLen * i.size) ++ news ++ cur.toList.drop (g0 + sLen * i.size + news.length)).toArray):=by
 have hst:=run_storeCells_at P g (g0 + sLen * i.size) T news 0 cur w hg (by simpa using hfit) hs.one
 simp only [Nat.add_zero] at hst
 rcases hs.kind with ⟨e',hk⟩ | hk <;> simp [Builtin.append_,run_underlying ht,run_underlying hk,sizeOf,typeInfo,hi,hs.len,hroom,hs.cells,Addr.add_lit,hst]
theorem zt3 {d:D} {v:Value} {sz:Nat} {ys:List D} (hr:Rep ι j d v) (hy:asList d=some ys) (hall:zau sz ys=true) :
  ∃ ad cap us,v=.slice ad ys.length cap∧RepL ι j ys us∧(∀ x∈us,x.cells.size=sz)∧(∀ u∈flat us,u.oneCell'=true)∧(ys=[]∨∃ b o,ad=some ⟨b,o,none⟩∧∀ (n:Nat) (u:Value),(flat us)[n]?=some u→ι b (o + n)=some u):=by
 cases d <;> simp only [asList,reduceCtorEq,Option.some.injEq] at hy <;> subst hy <;> simp only [Rep] at hr
 ·exact ⟨none,0,[],hr,by simp only [RepL],by simp,by simp [flat],.inl rfl⟩
 ·obtain ⟨ad,cap,hv,_,_,h4⟩:=hr
  rcases h4 with rfl | ⟨b,o,had,hrow⟩
  ·exact ⟨ad,cap,[],hv,by simp only [RepL],by simp,by simp [flat],.inl rfl⟩
  ·obtain ⟨us,q1,q2,q3⟩:=hrow.vals
   obtain ⟨s1,s2⟩:=ze6 hall q1
   exact ⟨ad,cap,us,hv,q1,s1,s2,.inr ⟨b,o,had,q3⟩⟩
 ·obtain ⟨ad,hv⟩:=hr
  exact ⟨ad,0,[],hv,by simp only [RepL],by simp,by simp [flat],.inl rfl⟩
theorem zua {k:RowK} {ds:List D} {vs:List Value} (hk:(k.ag || k.sz == 1)=true) (hl:ds.length=k.sz) (hr:RepL ι j ds vs) (h1:∀ x∈vs,x.oneCell'=true):∃ u,Rep ι j (packD k ds) u∧u.cells.toList=vs:=by
 cases hag:k.ag with
 | true=>exact ⟨.agg ⟨vs⟩,by simp only [packD,hag,zac,Rep]; exact ⟨vs,rfl,hr,h1⟩,rfl⟩
 | false =>
  rw [hag,Bool.false_or,beq_iff_eq] at hk
  rw [hk] at hl
  match ds,hl with
  | [d],_ =>
   simp only [RepL] at hr
   obtain ⟨x,r,rfl,hx,rfl⟩:=hr
   refine ⟨x,by simp only [packD,hag,zad,List.headD]; exact hx,?_⟩
   have:=h1 x (by simp)
   cases x <;> simp only [Value.oneCell',Bool.false_eq_true] at this <;> rfl
theorem zq0 {k:RowK} (hk:(k.ag || k.sz == 1)=true):∀ (n:Nat) (ds:List D) (vs:List Value),n * k.sz≤ds.length→RepL ι j ds vs→(∀ x∈vs,x.oneCell'=true) →
  ∃ us,RepL ι j (zdl k n ds) us∧flat us=vs.take (n * k.sz)∧(zdl k n ds).length=n
 | 0,ds,vs,_,_,_=>⟨[],by simp only [zdl,RepL],by simp [flat],rfl⟩
 | n + 1,ds,vs,hn,hr,h1=>by
  have hlen:=hr.length
  rw [Nat.add_mul] at hn
  have ht:RepL ι j (ds.take k.sz) (vs.take k.sz):=RepL.of (by simp [hlen]) fun i d hi=>by
   rw [List.getElem?_take] at hi ⊢
   split at hi
   ·rw [if_pos (by assumption)]; exact hr.at i d hi
   ·cases hi
  have hd:RepL ι j (ds.drop k.sz) (vs.drop k.sz):=RepL.of (by simp [hlen]) fun i d hi=>by
   rw [List.getElem?_drop] at hi ⊢
   exact hr.at _ d hi
  obtain ⟨u,hu,huc⟩:=zua hk (by simp; omega) ht (fun x hx=>h1 x (List.mem_of_mem_take hx))
  obtain ⟨us,k1,k2,k3⟩:=zq0 hk n (ds.drop k.sz) (vs.drop k.sz) (by simp; omega) hd (fun x hx=>h1 x (List.mem_of_mem_drop hx))
  refine ⟨u :: us,by simp only [zdl,RepL]; exact ⟨u,us,rfl,hu,k1⟩,?_,by simp only [zdl,List.length_cons,k3]⟩
  have:flat (u :: us)=u.cells.toList ++ flat us:=by simp [flat]
  rw [this,huc,k2,Nat.add_mul,Nat.one_mul,Nat.add_comm,List.take_add]
theorem zcl.dats {b:Nat} {mk:Nat→Tag} {cs:List Cell} (h:zcl ι j own w b mk cs):∃ (vs:List Value) (T:TypeId),w.heap[b]?=some (.cells ⟨vs⟩ T (0,0))∧cs.length≤vs.length∧RepL ι j (cs.map fun c=>c.d) (vs.take cs.length)∧∀ x∈vs.take cs.length,x.oneCell'=true:=by
 obtain ⟨vs,T,h1,h2,h3⟩:=h
 refine ⟨vs,T,h1,h2,RepL.of (by simp; omega) fun i d hi=>?_,fun x hx=>?_⟩
 ·rw [List.getElem?_map] at hi
  cases hc:cs[i]? with
  | none=>rw [hc] at hi; cases hi
  | some c =>
   rw [hc] at hi
   simp only [Option.map_some,Option.some.injEq] at hi
   subst hi
   obtain ⟨v,q1,q2,q3⟩:=h3 i c hc
   refine ⟨v,?_,q3.1⟩
   rw [List.getElem?_take,if_pos (List.getElem?_eq_some_iff.1 hc).1]
   exact q1
 ·obtain ⟨i,hi⟩:=List.getElem?_of_mem hx
  rw [List.getElem?_take] at hi
  split at hi
  ·rename_i hlt
   obtain ⟨v,q1,q2,_⟩:=h3 i _ (List.getElem?_eq_getElem hlt)
   rw [q1] at hi
   cases hi
   exact q2
  ·cases hi
theorem znh (hG:GSim ι j own σ w) {k:RowK} {id off len:Nat} {cs:List Cell} (hk:(k.ag || k.sz == 1)=true) (hc:aget σ.objs id=some cs) (hle:(off + len) * k.sz≤cs.length) :
  ∃ b us,j id=some b∧own b=some (.obj id)∧RepL ι j (elems k cs off len) us∧(elems k cs off len).length=len∧∀ (n:Nat) (u:Value),(flat us)[n]?=some u→w.cell? ⟨b,off * k.sz + n,none⟩=some u:=by
 obtain ⟨b,q1,q2,q3⟩:=hG.objs id cs hc
 obtain ⟨vs,T,h1,h2,h3,h4⟩:=q3.dats
 rw [Nat.add_mul] at hle
 have hlen:=h3.length
 have hd:RepL ι j ((cs.map fun c=>c.d).drop (off * k.sz)) ((vs.take cs.length).drop (off * k.sz)):=RepL.of (by simp; omega) fun i d hi=>by
  rw [List.getElem?_drop] at hi ⊢
  exact h3.at _ d hi
 obtain ⟨us,k1,k2,k3⟩:=zq0 hk len _ _ (by simp; omega) hd (fun x hx=>h4 x (List.mem_of_mem_drop hx))
 refine ⟨b,us,q1,q2,k1,k3,fun n u hn=>?_⟩
 rw [k2,List.getElem?_take] at hn
 split at hn
 ·rw [List.getElem?_drop,List.getElem?_take] at hn
  split at hn
  ·rw [cell_of_row w b _ _ T (0,0) h1]
   simpa using hn
  ·cases hn
 ·cases hn
theorem zq8 (hG:GSim ι j own σ w) {d:D} {v:Value} {sz:Nat} {ys:List D} {tx el:TypeId} (hu:P.underlying tx=some (.slice el)) (hr:Rep ι j d v) (hy:listOf σ.objs d=some ys) (hall:zau sz ys=true) :
  ∃ us,RepL ι j ys us∧(∀ x∈us,x.cells.size=sz)∧(∀ u∈flat us,u.oneCell'=true)∧Src P sz tx v ys.length (flat us) w:=by
 have main:∀ {d':D},asList d'=some ys→Rep ι j d' v→∃ us,RepL ι j ys us∧(∀ x∈us,x.cells.size=sz)∧(∀ u∈flat us,u.oneCell'=true)∧Src P sz tx v ys.length (flat us) w:=by
  intro d' hy hr
  obtain ⟨ady,capy,us,hyv,hyu,hus,hu1,hyl⟩:=zt3 hr hy hall
  have hul:=hyu.length
  refine ⟨us,hyu,hus,hu1,?_⟩
  rw [hyv]
  have hfl:(flat us).length=ys.length * sz:=by rw [zb6 hus,hul]
  rcases hyl with rfl | ⟨b,o',rfl,hn⟩
  ·have hu0:us=[]:=by simpa only [RepL] using hyu
   subst hu0
   cases ady with
   | none=>exact Src.ofNil w hu capy
   | some ad=>exact Src.ofSlice w hu ad 0 capy [] (by simp) (by simp) (by simp)
  ·exact Src.ofSlice w hu ⟨b,o',none⟩ ys.length capy (flat us) hfl (fun k u hk=>by
    rw [Addr.add_lit]
    exact hG.holds _ _ _ (hn k u hk)) hu1
 cases d with
 | arr k id off len =>
  simp only [listOf] at hy
  obtain ⟨cs,hc,hy⟩:=zaa hy
  obtain ⟨hb,hy⟩:=zae hy
  cases hy
  simp only [Bool.and_eq_true,decide_eq_true_eq] at hb
  obtain ⟨b,us,e1,_,e2,e3,e4⟩:=znh hG hb.1 hc hb.2
  obtain ⟨s1,s2⟩:=ze6 hall e2
  refine ⟨us,e2,s1,s2,?_⟩
  simp only [Rep] at hr
  obtain ⟨b',c,ad,r1,r2,r3,rfl,r4⟩:=hr
  rw [e1] at r1
  cases r1
  have hfl:(flat us).length=(elems k cs off len).length * sz:=by rw [zb6 s1,e2.length]
  rw [e3] at hfl ⊢
  refine Src.ofSlice w hu ad len (c - off) (flat us) hfl (fun n u hn=>?_) s2
  rcases r4 with rfl | rfl
  ·have hlen:len=0:=by omega
   rw [hlen,Nat.zero_mul] at hfl
   have:=(List.getElem?_eq_some_iff.1 hn).1
   omega
  ·rw [Addr.add_lit]
   exact e4 n u hn
 | _=>simp only [listOf] at hy; exact main hy hr
theorem zofb {g lo:Nat} {cur:Array Value} {T:TypeId} {news:List Value} (hG:GSim ι j own σ w) (hg:w.heap[g]?=some (.cells cur T (0,0))) (hfit:lo + news.length≤cur.size) (hfree:∀ o,lo≤o→ι g o=none) {t:Tag} (ht:own g=some t) (htl:∃ s,t=.slot s) :
  Evo ι j own w (zb9 ι g lo (lo + news.length) (fun o=>news[o - lo]?)) j own (w.setRow g (cur.toList.take lo ++ news ++ cur.toList.drop (lo + news.length)).toArray) (fun u=>u=t) ∧
  GSim (zb9 ι g lo (lo + news.length) (fun o=>news[o - lo]?)) j own σ (w.setRow g (cur.toList.take lo ++ news ++ cur.toList.drop (lo + news.length)).toArray):=by
 obtain ⟨s,rfl⟩:=htl
 have hE:Evo ι j own w (zb9 ι g lo (lo + news.length) (fun o=>news[o - lo]?)) j own (w.setRow g (cur.toList.take lo ++ news ++ cur.toList.drop (lo + news.length)).toArray) (fun u=>u=.slot s):=by
  refine ⟨rfl,rfl,rfl,by simp [World.setRow],fun b o v h=>?_,fun _ _ h=>h,fun b _ hb=>?_⟩
  ·unfold zb9
   split
   ·rename_i hc
    obtain ⟨rfl,hc,_⟩:=hc
    rw [hfree o hc] at h
    cases h
   ·exact h
  ·have hne:b≠g:=fun e=>hb _ (e ▸ ht) rfl
   exact ⟨setRow_other w g b _ hne,rfl,fun o=>if_neg (fun hc=>hne hc.1)⟩
 refine ⟨hE,hG.evo hE (fun b o v h=>?_) (fun b u h hu o=>?_) (fun b u h=>Nat.lt_of_lt_of_le (hG.ownlt b u h) hE.size) hG.jlt (fun _ _ _=>⟨(fun h=>by cases h),(fun _ _ _ _ h=>by cases h)⟩) (fun _ _ _ h=>by cases h)⟩
 ·unfold zb9 at h
  by_cases hb:b=g
  ·subst hb
   rw [cell_of_row _ b o _ T (0,0) (setRow_heap w b _ _ T (0,0) hg)]
   simp only [List.getElem?_toArray]
   by_cases hc:b=b∧lo≤o∧o < lo + news.length
   ·rw [if_pos hc] at h
    rw [List.append_assoc,List.getElem?_append_right (by simp; omega),List.getElem?_append_left (by simp; omega),← h]
    congr 1
    simp
    omega
   ·rw [if_neg hc] at h
    have hlt:o < lo:=by
     apply Nat.lt_of_not_le
     intro hle
     rw [hfree o hle] at h
     cases h
    have:=hG.holds b o v h
    rw [cell_of_row w b o cur T (0,0) hg] at this
    rw [List.append_assoc,List.getElem?_append_left (by simp; omega),List.getElem?_take,if_pos hlt,Array.getElem?_toList]
    exact this
  ·rw [if_neg (fun hc=>hb hc.1)] at h
   rw [cell_setRow_other w g _ _ hb]
   exact hG.holds b o v h
 ·have hne:b≠g:=fun e=>by
   rw [e,ht] at h
   cases h
   cases hu
  unfold zb9
  rw [if_neg (fun hc=>hne hc.1)]
  exact hG.noimm b u h hu o
theorem RowK.same_eq {a b:RowK} (h:a.same b=true):a.el=b.el∧a.sz=b.sz:=by
 cases a; cases b
 simpa [RowK.same] using h
theorem zue {k k':RowK} (h:k.sz=k'.sz) {es:List D} {v:Value}:Rep ι j (.list k es) v↔Rep ι j (.list k' es) v:=by simp only [Rep,h]
theorem zn6 {k k':RowK} (h:k.el=k'.el∧k.sz=k'.sz) {t:Tag} {es:List D} {v:Value}:zfv ι own w t k es v↔zfv ι own w t k' es v:=by simp only [zfv,h.1,h.2]
theorem zqw {sz:RowK} {by_:Nat} {x:Cell} {ys:List D} {r:Cell} (h:zbb sz by_ x ys=some r):∃ xs,asList x.d=some xs∧zdc sz x=true∧zau sz.sz ys=true∧(xs.length + ys.length) * by_≤bound∧xs.length + ys.length≤bound∧r=⟨true,zd8 sz x.d ys⟩:=by
 unfold zbb at h
 obtain ⟨xs,h1,h⟩:=zaa h
 obtain ⟨h3,h⟩:=zae h
 simp only [Bool.and_eq_true,decide_eq_true_eq] at h3
 cases h
 exact ⟨xs,h1,h3.1.1.1,h3.1.1.2,h3.1.2,h3.2,rfl⟩
theorem zhe {own':Own} {ι':Imm} {j':Lay} {w':World} {e0:Env} {s:Nat} {c:Cell} {x:Value} (hs:s < N) (h0:LSim ι' j' own' lb N {e0 with slots:=adel1 e0.slots s} a w') (hc:zcw ι' j' own' w' (.slot s) c x) :
  LSim ι' j' own' lb N (e0.put (some s) c) (a.put (some s) x) w':=by
 refine (h0.putC hs hc).sub (fun t c' h=>⟨c',?_,rfl,fun h=>h⟩) (fun _ _ h=>h) (fun _ cs h=>⟨cs,h,zbk.refl cs⟩) rfl
 simp only [Env.put,zak,zam] at h ⊢
 split
 ·rename_i hst; rw [if_pos hst] at h; exact h
 ·rename_i hst; rw [if_neg hst] at h; exact h
theorem LSim.forget {e0:Env} (h:LSim ι j own lb N e0 a w) (s:Nat):LSim ι j own lb N {e0 with slots:=adel1 e0.slots s} a w :=
 h.sub (fun t c h=>by
  simp only [zam] at h
  split at h
  ·cases h
  ·exact ⟨c,h,rfl,fun h=>h⟩) (fun _ _ h=>h) (fun _ cs h=>⟨cs,h,zbk.refl cs⟩) rfl
theorem zd4 {z:Value} {zs:List Value} {sz:Nat} (h:z.cells.toList=zs) (hl:zs.length=sz) (n:Nat):(Builtin.zeroCells z.cells n).size=n * sz:=by
 rw [size_zeroCells,← Array.length_toList,h,hl]
theorem zka (hG:GSim ι j own σ w) (hL:LSim ι j own lb N e a w) {o:Oper} {t tx el:TypeId} {sz by_ s:Nat} {ag:Bool} {x y:Operand} {x':AOpd} {zs:List Value} {c r:Cell} {ys:List D}
  (ho:o.op=.call {callee:=.builtin .append,args:=⟨[x,y]⟩,argTypes:=⟨[t,tx]⟩}) (hd:o.dst=some s) (hs:s < N) (hk:okOpd x x'=true)
  (ht:elemB P t=some el) (hsz:sizeB P el=some sz) (hz:zeroB P el=some zs) (hzl:zs.length=sz) (hpos:0 < sz) (hby:zc7 P el=some by_)
  (hc:opd e x'=some c) (hr:zbb ⟨el,sz,ag⟩ by_ c ys=some r) {us:List Value} (hysrc:zau sz ys=true→RepL ι j ys us∧(∀ x∈us,x.cells.size=sz)∧Src P sz tx (a.eval y) ys.length (flat us) w) :
  Did P N ι j own w o a ((x'.drop e).put o.dst r) σ:=by
 obtain ⟨xs,hxs,hmay,hall,hb1,hb2,rfl⟩:=zqw hr
 obtain ⟨hyu,hus,hsrc⟩:=hysrc hall
 obtain ⟨ie,z,i1,i2,i3,i4⟩:=zi5 hsz hz
 have hu:=zb0 ht
 have hby':ie.bytes=by_:=by simpa [zc7,i1] using hby
 subst i2
 subst hby'
 have hx:=zah hL hk hc
 -- the operation is the builtin's
 have hexec:∀ v w',(Builtin.append_ #[t,tx] o.type #[a.eval x,a.eval y]).run P w=.ok v w'→(execOp a.eval o).run P w=.ok (.value v) w':=by
  intro v w' h
  simp only [execOp,ho,resolve,invoke,builtin,Sem.run_bind,Sem.run_pure,Result.andThen_ok,List.map_toArray,List.map_cons,List.map_nil,h]
 have hb2':xs.length + ys.length≤1099511627776:=hb2
 have hb1':(xs.length + ys.length) * ie.bytes≤1099511627776:=hb1
 rw [hd]
 obtain ⟨ofL⟩:Nonempty (∀ {v:Value} {w':World} {own1 ι' own':_},(execOp a.eval o).run P w=.ok (.value v) w'→Evo ι j own w ι j own1 w (fun _=>True)→GSim ι' j own' σ w'→LSim ι' j own' lb N ((x'.drop e).put (some s) ⟨true,zd8 ⟨el,ie.size,ag⟩ c.d ys⟩) (a.put (some s) v) w'→Evo ι j own1 w ι' j own' w' (fun _=>True) →
   Did P N ι j own w o a ((x'.drop e).put (some s) ⟨true,zd8 ⟨el,ie.size,ag⟩ c.d ys⟩) σ) :=
  ⟨fun {v w' own1 ι' own'} h1 hE hG' hL' hE'=>⟨_,w',_,h1,.inl ⟨v,rfl,rfl⟩,ι',j,own',lb,hG',by rw [hd]; exact hL',hE.trans hE'⟩⟩
 -- nothing is appended
 have hnone:ys=[]→(Rep ι j c.d (a.eval x)→Rep ι j (zd8 ⟨el,ie.size,ag⟩ c.d ys) (a.eval x))∧∀ (t':Tag) (own':Own),Owned ι own' w t' c.d (a.eval x)→Owned ι own' w t' (zd8 ⟨el,ie.size,ag⟩ c.d ys) (a.eval x):=by
  rintro rfl
  cases hcd':c.d <;> rw [hcd'] at hxs <;> simp only [asList,reduceCtorEq] at hxs
  ·exact ⟨id,fun _ _ h=>h⟩
  ·simp only [zdc,hcd',Bool.and_eq_true] at hmay
   have hk:=RowK.same_eq hmay.2
   simp only [zd8,List.append_nil]
   exact ⟨(zue hk.2).1,fun t' own' h=>zed.2 ((zn6 hk).1 (zed.1 h))⟩
  ·exact ⟨id,fun _ _ h=>h⟩
 by_cases hye:ys=[]
 ·obtain ⟨hj,hO⟩:=hnone hye
  have hval:∃ base sLen sCap,a.eval x=.slice base sLen sCap∧sLen≤sCap:=by
   cases hcd':c.d <;> rw [hcd'] at hxs hx <;> simp only [asList,reduceCtorEq] at hxs <;> simp only [Rep] at hx
   ·exact ⟨none,0,0,hx,Nat.le_refl _⟩
   ·obtain ⟨ad,cap,hv,hle,_⟩:=hx
    exact ⟨ad,_,cap,hv,hle⟩
   ·obtain ⟨ad,hv⟩:=hx
    exact ⟨ad,0,0,hv,Nat.le_refl _⟩
  obtain ⟨base,sLen,sCap,hv,hle⟩:=hval
  obtain ⟨own1,hG1,hL1,hO1,hE1⟩:=zf7 hG hL hk hc (t':=.slot s) rfl
  have hrun:=hexec (a.eval x) w (by
   rw [hv]
   subst hye
   have hu0:us=[]:=by simpa only [RepL] using hyu
   subst hu0
   exact zj7 (P:=P) (w:=w) t tx o.type el ie hu i1 base sLen sCap hle _ hsrc)
  refine ofL hrun hE1 hG1 (zhe hs (hL1.forget s) ⟨?_,fun _=>?_⟩) (Evo.refl _ _ _ _ _)
  ·exact hj hx
  ·refine hO _ _ ?_
   cases how:c.own with
   | true=>exact hO1 how
   | false =>
    cases hcd':c.d <;> rw [hcd'] at hxs <;> simp only [asList,reduceCtorEq] at hxs
    ·trivial
    ·simp only [zdc,hcd',how,Bool.false_and,Bool.false_eq_true] at hmay
    ·trivial
 ·have hylen:0 < ys.length:=List.length_pos_iff.2 hye
  have hul:=hyu.length
  have hfl:(flat us).length=ys.length * ie.size:=by rw [zb6 hus,hul]
  have hfit:∀ old,old < xs.length + ys.length→Builtin.nextslicecap (xs.length + ys.length) old * ie.bytes≤281474976710656:=fun old h=>growslice_fits h (by omega)
  have hcapge:∀ old,xs.length + ys.length≤grownCap w (xs.length + ys.length) old el:=fun old=>grownCap_ge w _ old el
  have hcapmax:∀ old,grownCap w (xs.length + ys.length) old el≤maxLen:=fun old=>grownCap_le_maxLen w _ old el (by simp only [maxLen]; omega)
  -- from nil
  have fromNil:xs=[]→(∃ base,a.eval x=.slice base 0 0)→zd8 ⟨el,ie.size,ag⟩ c.d ys=.list ⟨el,ie.size,ag⟩ ys→Did P N ι j own w o a ((x'.drop e).put (some s) ⟨true,zd8 ⟨el,ie.size,ag⟩ c.d ys⟩) σ:=by
   rintro hxe ⟨base,hxv⟩ hj
   subst hxe
   have hfirst:(Builtin.firstCells ie.size 0 (.slice base 0 0)).run P w.drew=.ok (#[]:Array Value) w.drew:=by
    cases base with
    | none=>exact run_firstCells_none _ _ _ _ _
    | some ad=>exact run_firstCells_some (P:=P) w.drew ie.size 0 ad 0 0 [] (by simp) (by simp)
   simp only [List.length_nil,Nat.zero_add] at hfit hcapge hcapmax hb2' hb1'
   have hrun:=hexec _ _ (by
    rw [hxv]
    have:=run_append_grow_src (P:=P) w t tx o.type el ie z hu i1 i3 base 0 0 [] hfirst _ ys.length (flat us) hsrc (by omega) (by omega) (by simpa using hfit 0 (by omega))
    simpa using this)
   obtain ⟨ι',own',k1,k2,k3⟩:=zsv hG (hL.drop x') hs (.inr rfl) (sz:=⟨el,ie.size,ag⟩) (cap:=grownCap w ys.length 0 el) rfl hyu hus (cur:=(flat us).toArray ++ Builtin.zeroCells z.cells (grownCap w ys.length 0 el - ys.length)) (T:=el) (fun n u hn=>by
    have hlt:=(List.getElem?_eq_some_iff.1 hn).1
    rw [Array.getElem?_append_left (by simpa using hlt)]
    simpa using hn) (by
    rw [Array.size_append,zd4 i4 hzl,List.size_toArray,hfl,← Nat.add_mul]
    congr 1
    have:=hcapge 0
    omega) (hcapge 0) (hcapmax 0)
   rw [← hj] at k2
   exact ofL hrun (Evo.refl _ _ _ _ _) k1 k2 k3
  cases hcd':c.d <;> rw [hcd'] at hxs <;> simp only [asList,reduceCtorEq,Option.some.injEq] at hxs
  ·subst hxs
   rw [hcd'] at hx fromNil
   simp only [Rep] at hx
   rw [← hcd'] at fromNil ⊢
   refine fromNil rfl ⟨none,hx⟩ ?_
   rw [hcd']
   cases hy:ys with
   | nil=>exact absurd hy hye
   | cons y0 ys0=>rfl
  ·rename_i sz0 es
   subst hxs
   simp only [zdc,hcd',Bool.and_eq_true] at hmay
   obtain ⟨how,hsame⟩:=hmay
   have hsame:=RowK.same_eq hsame
   have hj:zd8 ⟨el,ie.size,ag⟩ c.d ys=.list ⟨el,ie.size,ag⟩ (es ++ ys):=by rw [hcd']; rfl
   rw [← hcd']
   obtain ⟨own1,hG1,hL1,hO1,hE1⟩:=zf7 hG hL hk hc (t':=.slot s) rfl
   have hO1:=hO1 how
   rw [hcd'] at hx hO1
   replace hx:=(zue (k':=⟨el,ie.size,ag⟩) hsame.2).1 hx
   replace hO1:=(zn6 (k':=⟨el,ie.size,ag⟩) hsame).1 (zed.1 hO1)
   simp only [zfv] at hO1
   have grow:∀ (ad:Option Addr) (cap':Nat) (vs:List Value),a.eval x=.slice ad es.length cap'→RepL ι j es vs→(∀ x∈vs,x.cells.size=ie.size)→(Builtin.firstCells ie.size es.length (.slice ad es.length cap')).run P w.drew=.ok (flat vs).toArray w.drew →
     ¬ es.length + ys.length≤cap'→es.length≤cap'→Did P N ι j own w o a ((x'.drop e).put (some s) ⟨true,zd8 ⟨el,ie.size,ag⟩ c.d ys⟩) σ:=by
    intro ad cap' vs hv' hvs hvsz hfirst hroom hle
    have hvl:=hvs.length
    have hfv:(flat vs).length=es.length * ie.size:=by rw [zb6 hvsz,hvl]
    have hjoin:RepL ι j (es ++ ys) (vs ++ us):=hvs.append hyu
    have hjsz:∀ x∈vs ++ us,x.cells.size=ie.size:=fun x hx=>by
     rcases List.mem_append.1 hx with h | h
     ·exact hvsz x h
     ·exact hus x h
    have hrun:=hexec _ _ (by
     rw [hv']
     exact run_append_grow_src (P:=P) w t tx o.type el ie z hu i1 i3 ad es.length cap' (flat vs) hfirst _ ys.length (flat us) hsrc (by omega) (by omega) (hfit cap' (by omega)))
    obtain ⟨ι',own',k1,k2,k3⟩:=zsv hG (hL.drop x') hs (.inr rfl) (sz:=⟨el,ie.size,ag⟩) (cap:=grownCap w (es.length + ys.length) cap' el) rfl hjoin hjsz (cur:=(flat vs ++ flat us).toArray ++ Builtin.zeroCells z.cells (grownCap w (es.length + ys.length) cap' el - (es.length + ys.length))) (T:=el) (fun n u hn=>by
     have hlt:=(List.getElem?_eq_some_iff.1 hn).1
     rw [zo6] at hn hlt
     rw [Array.getElem?_append_left (by simpa using hlt)]
     simpa using hn) (by
     rw [Array.size_append,zd4 i4 hzl,List.size_toArray,List.length_append,hfl,hfv,← Nat.add_mul,← Nat.add_mul]
     congr 1
     have:=hcapge cap'
     omega) (by rw [List.length_append]; exact hcapge cap') (hcapmax cap')
    rw [← hj,List.length_append] at k2
    exact ofL hrun (Evo.refl _ _ _ _ _) k1 k2 k3
   rcases hO1 with hnil | ⟨g,g0,cap,cur,T,hv,hown,hg,⟨hT,hcs,hby5⟩,hfree⟩
   ·obtain ⟨a0,hnil,_⟩:=hnil
    simp only [Rep] at hx
    obtain ⟨ad,cap,hv,hle,_,hrow⟩:=hx
    rw [hv] at hnil
    simp only [Value.slice.injEq] at hnil
    obtain ⟨_,_,rfl⟩:=hnil
    rcases hrow with rfl | ⟨b,o',rfl,hrow⟩
    ·exact fromNil rfl ⟨ad,hv⟩ hj
    ·obtain ⟨vs,q1,q2,q3⟩:=hrow.vals
     exact grow (some ⟨b,o',none⟩) _ vs hv q1 q2 (run_firstCells_some (P:=P) w.drew ie.size es.length ⟨b,o',none⟩ _ _ (flat vs) (by rw [zb6 q2,q1.length]) (fun k u hk=>by
       rw [Addr.add_lit]
       exact hG.holds _ _ _ (q3 k u hk))) (by omega) hle
   · -- a list with room of its own
    simp only [Rep] at hx
    obtain ⟨ad,cap',hv',hle,hmax,hrow⟩:=hx
    rw [hv'] at hv
    simp only [Value.slice.injEq,true_and] at hv
    obtain ⟨rfl,rfl⟩:=hv
    have holds:∃ vs,RepL ι j es vs∧(∀ x∈vs,x.cells.size=ie.size)∧∀ (n:Nat) (u:Value),(flat vs)[n]?=some u→ι g (g0 + n)=some u:=by
     rcases hrow with rfl | ⟨b,o',hb,hrow⟩
     ·exact ⟨[],by simp only [RepL],by simp,by simp [flat]⟩
     ·simp only [Option.some.injEq,Addr.mk.injEq,and_true] at hb
      obtain ⟨rfl,rfl⟩:=hb
      obtain ⟨vs,q1,q2,q3⟩:=hrow.vals
      exact ⟨vs,q1,q2,fun n u h=>q3 n u h⟩
    obtain ⟨vs,hvs,hvsz,hold⟩:=holds
    have hvl:=hvs.length
    have hfv:(flat vs).length=es.length * ie.size:=by rw [zb6 hvsz,hvl]
    have hjoin:RepL ι j (es ++ ys) (vs ++ us):=hvs.append hyu
    have hjsz:∀ x∈vs ++ us,x.cells.size=ie.size:=fun x hx=>by
     rcases List.mem_append.1 hx with h | h
     ·exact hvsz x h
     ·exact hus x h
    by_cases hroom:es.length + ys.length≤cap'
    · -- there is room
     have hfit':g0 + es.length * ie.size + (flat us).length≤cur.size:=by
      rw [hfl,hcs,Nat.add_assoc,← Nat.add_mul]
      exact Nat.add_le_add_left (Nat.mul_le_mul_right _ hroom) _
     have hrun:=hexec _ _ (by
      rw [hv']
      exact zm0 (P:=P) t tx o.type el T ie hu i1 g g0 es.length cap' cur hg _ ys.length (flat us) hsrc hroom hfit')
     obtain ⟨hE2,hG2⟩:=zofb (news:=flat us) hG1 hg hfit' hfree hown ⟨s,rfl⟩
     generalize hw':w.setRow g _=w' at hrun hE2 hG2
     generalize hι':zb9 ι g (g0 + es.length * ie.size) (g0 + es.length * ie.size + (flat us).length) (fun o=>(flat us)[o - (g0 + es.length * ie.size)]?)=ι' at hE2 hG2
     have hL2:=(hL1.forget s).evo hE2 (fun s' c' h _ hst=>by
      cases hst
      simp only [zam,if_true] at h
      cases h) (fun _ _ _=>⟨(fun h=>by cases h),(fun _ _ _ _ h=>by cases h)⟩)
     have hnew:w'.heap[g]?=some (.cells (cur.toList.take (g0 + es.length * ie.size) ++ flat us ++ cur.toList.drop (g0 + es.length * ie.size + (flat us).length)).toArray T (0,0)):=hw' ▸ setRow_heap w g _ _ T (0,0) hg
     refine ofL hrun hE1 hG2 (zhe hs hL2 ⟨?_,fun _=>?_⟩) (hE2.weaken fun _ _=>trivial)
     ·rw [hj]
      simp only [Rep]
      refine ⟨_,cap',by rw [List.length_append],by rw [List.length_append]; exact hroom,hmax,.inr ⟨g,g0,rfl,zas.of_vals (hE2.repL hjoin) hjsz fun n u hn=>?_⟩⟩
      rw [zo6] at hn
      by_cases hlt:n < es.length * ie.size
      ·rw [List.getElem?_append_left (by omega)] at hn
       exact hE2.imm _ _ _ (hold n u hn)
      ·rw [List.getElem?_append_right (by omega),hfv] at hn
       have:=(List.getElem?_eq_some_iff.1 hn).1
       rw [← hι']
       unfold zb9
       rw [if_pos ⟨rfl,by omega,by omega⟩]
       have e:g0 + n - (g0 + es.length * ie.size)=n - es.length * ie.size:=by omega
       simp only [e]
       exact hn
     ·simp only [hj,zed,zfv]
      refine .inr ⟨g,g0,cap',_,T,by rw [List.length_append],hown,hnew,?_,fun o' ho'=>?_⟩
      ·refine ⟨hT,?_,hby5⟩
       rw [← hcs]
       simp only [List.size_toArray,List.length_append,List.length_take,List.length_drop,Array.length_toList]
       omega
      ·rw [List.length_append,Nat.add_mul] at ho'
       rw [← hι']
       unfold zb9
       rw [if_neg (by omega)]
       exact hfree o' (by omega)
    ·exact grow (some ⟨g,g0,none⟩) cap' vs hv' hvs hvsz (run_firstCells_some (P:=P) w.drew ie.size es.length ⟨g,g0,none⟩ _ cap' (flat vs) hfv (fun k u hk=>by
       rw [Addr.add_lit]
       exact hG.holds _ _ _ (hold k u hk))) hroom hle
  ·subst hxs
   rw [hcd'] at hx fromNil
   simp only [Rep] at hx
   rw [← hcd'] at fromNil ⊢
   refine fromNil rfl hx ?_
   rw [hcd']
   cases hy:ys with
   | nil=>exact absurd hy hye
   | cons y0 ys0=>rfl
theorem zagb (hG:GSim ι j own σ w) (hL:LSim ι j own lb N e a w) {o:Oper} {t el:TypeId} {sz by_ s:Nat} {ag:Bool} {x y:Operand} {x' y':AOpd} {zs:List Value} {c d r:Cell} {ys:List D}
  (ho:o.op=.call {callee:=.builtin .append,args:=⟨[x,y]⟩,argTypes:=⟨[t,t]⟩}) (hd:o.dst=some s) (hs:s < N) (hk:okOpd x x'=true) (hk1:okOpd y y'=true)
  (ht:elemB P t=some el) (hsz:sizeB P el=some sz) (hz:zeroB P el=some zs) (hzl:zs.length=sz) (hpos:0 < sz) (hby:zc7 P el=some by_)
  (hc:opd e x'=some c) (hcd:opd e y'=some d) (hys:listOf σ.objs d.d=some ys) (hr:zbb ⟨el,sz,ag⟩ by_ c ys=some r):Did P N ι j own w o a ((x'.drop e).put o.dst r) σ:=by
 obtain ⟨xs,hxs,hmay,hall,_⟩:=zqw hr
 obtain ⟨us,h1,h2,h3,h4⟩:=zq8 hG (zb0 ht) (zah hL hk1 hcd) hys hall
 exact zka hG hL ho hd hs hk ht hsz hz hzl hpos hby hc hr (us:=us) (fun _=>⟨h1,h2,h4⟩)
theorem zlq:∀ (s:List UInt8),RepL ι j (zez s) (s.map fun b=>Value.int .u8 b.toNat)
 | []=>by simp [zez,RepL]
 | b :: s=>by
  simp only [zez,List.map_cons,RepL]
  exact ⟨_,_,rfl,by simp only [Rep],zlq s⟩
theorem zf2:∀ (s:List UInt8),(zez s).length=s.length
 | []=>rfl
 | _ :: s=>by simp only [zez,List.length_cons,zf2 s]
theorem zl0:∀ (s:List UInt8),flat (s.map fun b=>Value.int .u8 b.toNat)=s.map fun b=>Value.int .u8 b.toNat
 | []=>rfl
 | b :: s=>by
  have:=zl0 s
  simp only [flat,List.map_cons,List.flatMap_cons] at this ⊢
  rw [this]
  rfl
theorem zx7 (hG:GSim ι j own σ w) (hL:LSim ι j own lb N e a w) {o:Oper} {t tx el:TypeId} {by_ s:Nat} {ag:Bool} {x y:Operand} {x' y':AOpd} {zs:List Value} {c d r:Cell} {str:List UInt8}
  (ho:o.op=.call {callee:=.builtin .append,args:=⟨[x,y]⟩,argTypes:=⟨[t,tx]⟩}) (hd:o.dst=some s) (hs:s < N) (hk:okOpd x x'=true) (hk1:okOpd y y'=true)
  (ht:elemB P t=some el) (hsz:sizeB P el=some 1) (hz:zeroB P el=some zs) (hzl:zs.length=1) (hby:zc7 P el=some by_) (htx:P.underlying tx=some .string)
  (hc:opd e x'=some c) (hcd:opd e y'=some d) (hds:d.d=.str str) (hr:zbb ⟨el,1,ag⟩ by_ c (zez str)=some r):Did P N ι j own w o a ((x'.drop e).put o.dst r) σ:=by
 have hy:=zah hL hk1 hcd
 rw [hds] at hy
 simp only [Rep] at hy
 refine zka hG hL ho hd hs hk ht hsz hz hzl (by omega) hby hc hr (us:=str.map fun b=>Value.int .u8 b.toNat) (fun _=>?_)
 refine ⟨zlq str,fun x hx=>?_,?_⟩
 ·obtain ⟨b,_,rfl⟩:=List.mem_map.1 hx
  rfl
 ·rw [hy,zl0,zf2]
  exact Src.ofString w htx ⟨⟨str⟩⟩
end
end Go.Mx
