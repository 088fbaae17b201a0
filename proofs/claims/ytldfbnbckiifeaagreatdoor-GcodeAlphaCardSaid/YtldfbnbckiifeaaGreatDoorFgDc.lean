/-
 The parts of core,with the names that are given there.
-/
import Derived.Test.YtldfbnbckiifeaaGreatDoorFgLib
import Derived.Shelf.Sort.Plain
import Derived.Shelf.Slices.CompactS
import Derived.Ground.NamesProg
import Derived.Test.YtldfbnbckiifeaaGreatDoorProg
import Derived.Test.YtldfbnbckiifeaaGreatDoorFgZa
import Derived.Test.YtldfbnbckiifeaaGreatDoorFgO
import Derived.Test.YtldfbnbckiifeaaGreatDoorFgCodeC
set_option maxHeartbeats 4000000
set_option linter.unusedSimpArgs false
set_option linter.unusedVariables false
set_option linter.unusedSectionVars false
namespace Go.Fu
open Go Go.Mx
def zawb:RowK:=⟨227,1,false⟩
def zg4:RowK:=⟨219,2,true⟩
def Au:ACode:=(sq [mo 18 (.bin .lss (.tmp 17) (.tmp 16))] [] (.seq (.cond (.tmp 18) .skip (.exit 0)) .stuck))
def Av:ACode:=(sq [mo 51 (.bin .lss (.tmp 50) (.tmp 49))] [] (.seq (.cond (.tmp 51) .skip (.exit 2)) .stuck))
def Aw:ACode:=(sq [mo 84 (.bin .lss (.tmp 83) (.tmp 82))] [] (.seq (.cond (.tmp 84) .skip (.exit 4)) .stuck))
def tV:AFun:={nargs:=1,ntmps:=123,res:=[.tmp 2],gc:=false,body:=(sq [mo 2 (.mov (.const .nils))] [2] (sq [mo 3 (.alloc [.nils,.nils])] [] (.seq (sq [mt 12 0,mo 13 (.nilCheck (.tmp 12)),mf 14 7 13,ml 15 14,mo 16 (.len (.tmp 15)),
 mo 17 (.mov (ci 0))] [12,13,14,15] (.block 0 (.loop Au))) (.seq (sq [mt 32 0,mo 33 (.nilCheck (.tmp 32)),mf 34 0 33,ml 35 34,mo 36 (.bin .eql (.tmp 35) (ci 5))] [16,17,18,32,33,34,35] (.cond (.tmp 36) (.region [mf 37 0 3,mo 38 (.loadL none true (.tmp 37)),mt 39 0,
 mo 40 (.nilCheck (.tmp 39)),mf 41 2 40,mo 42 (.buildSlice zawb [.tmp 41]),mo 43 (.append zawb 8 (.mv 38) (.tmp 42)),mf 44 0 3,⟨none,.storeB 3 1 (.tmp 44) (.mv 43),none⟩] (some [0,1,2,3,4,5,6,7,8]) [36,37,38,39,40,41,42,43,44]) .skip)) (.seq (sq [mt 45 0,
 mo 46 (.nilCheck (.tmp 45)),mf 47 8 46,ml 48 47,mo 49 (.len (.tmp 48)),mo 50 (.mov (ci 0))] [36,45,46,47,48] (.block 2 (.loop Av))) (sq [mo 76 (.load (some 2) false (.tmp 3)),mo 77 (.buildSlice zg4 [.tmp 76]),mw 7 77] [3,49,50,51,76,77] (.seq (sq [mt 78 0,
 mo 79 (.nilCheck (.tmp 78)),mf 80 9 79,ml 81 80,mo 82 (.len (.tmp 81)),mo 83 (.mov (ci 0))] [78,79,80,81] (.block 4 (.loop Aw))) (sq [mw 122 7,mw 2 122] [0,7,82,83,84,122] .ret))))))))}
theorem zab:dS Go.Proofs.Tryz.prog Go.Proofs.Tryz.f175 tV=true:=by kernel_rfl
end Go.Fu
namespace Go.Proofs
open Go.Shelf
def Tryz.lays190_ren:Go.Shelf.Ren:=⟨fun | 190=>120 | 125=>149 | 258=>148 | 128=>173 | 129=>160 | 302=>164 | 303=>165 | 304=>166 | 305=>167 | 306=>168 | 307=>169 | 308=>170 | 309=>171 | 310=>172 | 333=>179 | 329=>180 | 330=>181 | 334=>182 | 335=>183 | 336=>184 | 344=>186 | n=>n,fun | 31=>39 | 9=>9 | 3=>3 | 46=>191 | 0=>0 | 51=>200 | 53=>183 | 4=>4 | 183=>205 | 182=>204 | 131=>196 | 5=>5 | 218=>220 | 222=>224 | 228=>232 | 229=>233 | n=>n,fun | n=>n⟩
theorem Tryz.lays190:Go.Proofs.Lays.n190 Tryz.prog Tryz.lays190_ren:={
 mixed:=by kernel_rfl
 f125:=Tryz.func149.trans (congrArg some (by kernel_rfl))
 f128:=Tryz.func173.trans (congrArg some (by kernel_rfl))
 f129:=Tryz.func160.trans (congrArg some (by kernel_rfl))
 f190:=Tryz.func120.trans (congrArg some (by kernel_rfl))
 f258:=Tryz.func148.trans (congrArg some (by kernel_rfl))
 f302:=Tryz.func164.trans (congrArg some (by kernel_rfl))
 f303:=Tryz.func165.trans (congrArg some (by kernel_rfl))
 f304:=Tryz.func166.trans (congrArg some (by kernel_rfl))
 f305:=Tryz.func167.trans (congrArg some (by kernel_rfl))
 f306:=Tryz.func168.trans (congrArg some (by kernel_rfl))
 f307:=Tryz.func169.trans (congrArg some (by kernel_rfl))
 f308:=Tryz.func170.trans (congrArg some (by kernel_rfl))
 f309:=Tryz.func171.trans (congrArg some (by kernel_rfl))
 f310:=Tryz.func172.trans (congrArg some (by kernel_rfl))
 f329:=Tryz.func180.trans (congrArg some (by kernel_rfl))
 f330:=Tryz.func181.trans (congrArg some (by kernel_rfl))
 f333:=Tryz.func179.trans (congrArg some (by kernel_rfl))
 f334:=Tryz.func182.trans (congrArg some (by kernel_rfl))
 f335:=Tryz.func183.trans (congrArg some (by kernel_rfl))
 f336:=Tryz.func184.trans (congrArg some (by kernel_rfl))
 f344:=Tryz.func186.trans (congrArg some (by kernel_rfl))
 t0:=Tryz.underlying0
 a0:=Tryz.isAgg0
 z0:=Tryz.sizeOf0
 v0:=Tryz.zeroValue0
 t3:=Tryz.underlying3
 a3:=Tryz.isAgg3
 z3:=Tryz.sizeOf3
 v3:=Tryz.zeroValue3
 t4:=Tryz.underlying4
 a4:=Tryz.isAgg4
 z4:=Tryz.sizeOf4
 v4:=Tryz.zeroValue4
 t5:=Tryz.underlying5
 a5:=Tryz.isAgg5
 z5:=Tryz.sizeOf5
 v5:=Tryz.zeroValue5
 t9:=Tryz.underlying9
 a9:=Tryz.isAgg9
 z9:=Tryz.sizeOf9
 v9:=Tryz.zeroValue9
 t31:=Tryz.underlying39
 a31:=Tryz.isAgg39
 z31:=Tryz.sizeOf39
 v31:=Tryz.zeroValue39
 t46:=Tryz.underlying191
 a46:=Tryz.isAgg191
 z46:=Tryz.sizeOf191
 v46:=Tryz.zeroValue191
 t51:=Tryz.underlying200
 a51:=Tryz.isAgg200
 z51:=Tryz.sizeOf200
 v51:=Tryz.zeroValue200
 t53:=Tryz.underlying183
 a53:=Tryz.isAgg183
 z53:=Tryz.sizeOf183
 v53:=Tryz.zeroValue183
 t131:=Tryz.underlying196
 a131:=Tryz.isAgg196
 z131:=Tryz.sizeOf196
 v131:=Tryz.zeroValue196
 t182:=Tryz.underlying204
 a182:=Tryz.isAgg204
 z182:=Tryz.sizeOf204
 v182:=Tryz.zeroValue204
 t183:=Tryz.underlying205
 a183:=Tryz.isAgg205
 z183:=Tryz.sizeOf205
 v183:=Tryz.zeroValue205
 t218:=Tryz.underlying220
 a218:=Tryz.isAgg220
 z218:=Tryz.sizeOf220
 v218:=Tryz.zeroValue220
 t222:=Tryz.underlying224
 a222:=Tryz.isAgg224
 z222:=Tryz.sizeOf224
 v222:=Tryz.zeroValue224
 t228:=Tryz.underlying232
 a228:=Tryz.isAgg232
 z228:=Tryz.sizeOf232
 v228:=Tryz.zeroValue232
 t229:=Tryz.underlying233
 a229:=Tryz.isAgg233
 z229:=Tryz.sizeOf233
 v229:=Tryz.zeroValue233}
open Go.Sort Go.RowKit in
theorem Tryz.slices_Sort_string (blk off cap:Nat) (ss:List (List UInt8)) (w:World) (hH:Holds encStr w blk off ss.toArray) (hblk:blk < w.heap.size) (hsz:ss.length < 4611686018427387904) :
  Calls Tryz.prog 120 #[.slice (some ⟨blk,off,none⟩) ss.length cap] w fun e w' =>
   e=.returned (.tuple #[])∧∃ n os,w'=grow (putRow encStr (Sort.ahead w n) blk off (ss.mergeSort fun x y=>decide (x≤y)).toArray) os:=Any.slices_Sort_string Tryz.lays190 blk off cap ss w hH hblk hsz
def Tryz.lays194_ren:Go.Shelf.Ren:=⟨fun | 194=>77 | n=>n,fun | 31=>39 | 9=>9 | 3=>3 | 4=>4 | 0=>0 | n=>n,fun | n=>n⟩
theorem Tryz.lays194:Go.Proofs.Lays.n194 Tryz.prog Tryz.lays194_ren:={
 mixed:=by kernel_rfl
 f194:=Tryz.func77.trans (congrArg some (by kernel_rfl))
 t0:=Tryz.underlying0
 a0:=Tryz.isAgg0
 z0:=Tryz.sizeOf0
 v0:=Tryz.zeroValue0
 t3:=Tryz.underlying3
 a3:=Tryz.isAgg3
 z3:=Tryz.sizeOf3
 v3:=Tryz.zeroValue3
 t4:=Tryz.underlying4
 a4:=Tryz.isAgg4
 z4:=Tryz.sizeOf4
 v4:=Tryz.zeroValue4
 t9:=Tryz.underlying9
 a9:=Tryz.isAgg9
 z9:=Tryz.sizeOf9
 v9:=Tryz.zeroValue9
 t31:=Tryz.underlying39
 a31:=Tryz.isAgg39
 z31:=Tryz.sizeOf39
 v31:=Tryz.zeroValue39}
open Go.RowKit Go.Lib Go.Sort in
theorem Tryz.slices_Compact_string (blk off cap:Nat) (zs:List (List UInt8)) (w:World) (hH:Holds encStr w blk off zs.toArray) (hsz:zs.length≤9223372036854775807) (hcap:zs.length≤cap) :
  Calls Tryz.prog 77 #[.slice (some ⟨blk,off,none⟩) zs.length cap] w fun e w'=>e=.returned (.slice (some ⟨blk,off,none⟩) (Lib.compact zs).length cap)∧∃ q,w'=putRow encStr (Sort.ahead w q) blk off (Lib.compact zs ++ List.replicate (zs.length - (Lib.compact zs).length) []).toArray:=Any.slices_Compact_string Tryz.lays194 blk off cap zs w hH hsz hcap
end Go.Proofs
namespace Go.Fu
open Go Go.Mx
open Go.Proofs (encStr)
set_option maxHeartbeats 2000000
def xR:List Cell→Option (List (List UInt8))
 | []=>some []
 | c :: r=>match c.d with
  | .str s=>dG (xR r) fun l=>some (s :: l)
  | _=>none
def eW (l:List (List UInt8)):List Cell:=l.map fun s=>⟨false,.str s⟩
theorem Lj:∀ l,xR (eW l)=some l
 | []=>rfl
 | s :: l=>by
  have h:=Lj l
  unfold eW at h ⊢
  simp only [aO,xR,h,dG,dK]
theorem Rh:∀ {cs:List Cell} {l},xR cs=some l→l.length=cs.length
 | [],l,h=>by cases h; rfl
 | c :: r,l,h=>by
  unfold xR at h
  split at h
  ·obtain ⟨l',h1,h2⟩:=dC h
   cases h2
   simp [Rh h1]
  ·cases h
theorem zk5:∀ {cs:List Cell} {l},xR cs=some l→∀ (i:Nat) (s:List UInt8),l[i]?=some s→∃ c,cs[i]?=some c∧c.d=.str s
 | [],l,h,i,s,hi=>by cases h; simp at hi
 | c :: r,l,h,i,s,hi=>by
  unfold xR at h
  split at h
  ·rename_i s' hd
   obtain ⟨l',h1,h2⟩:=dC h
   cases h2
   cases i with
   | zero =>
    simp only [List.getElem?_cons_zero,aA] at hi
    subst hi
    exact ⟨c,rfl,hd⟩
   | succ i =>
    simp only [List.getElem?_cons_succ] at hi ⊢
    exact zk5 h1 i s hi
  ·cases h
def pV (l:List (List UInt8)):List (List UInt8):=l.mergeSort fun x y=>decide (x≤y)
def za7 (ds:List D) (σ:Store):Option (Out × Store):=match ds with
 | [.arr k id 0 n]=>dG (dE σ.objs id) fun cs=>ifB (k.sz == 1 && (cs.length == n && (decide (0 < n) && decide (n≤eL)))) (dG (xR cs) fun l=>some (.ret ⟨false,.tup []⟩,{σ with objs:=dZ σ.objs id (eW (pV l))})) none
 | _=>none
def Dj (ds:List D) (σ:Store):Option (Out × Store):=match ds with
 | [.arr k id 0 n]=>dG (dE σ.objs id) fun cs=>ifB (k.sz == 1 && (cs.length == n && (decide (0 < n) && decide (n≤eL)))) (dG (xR cs) fun l=>some (.ret ⟨false,.arr k id 0 (Lib.compact l).length⟩,{σ with objs:=dZ σ.objs id (eW (Lib.compact l ++ List.replicate (l.length - (Lib.compact l).length) []))})) none
 | _=>none
theorem zmt {w:World} {b:Nat} {vs:List Value} {T:TypeId} (h:w.heap[b]?=some (.cells ⟨vs⟩ T (0,0))) (d:Array (List UInt8)):(Sort.putRow encStr w b 0 d).heap[b]?=some (.cells ⟨(Sort.putCells encStr 0 d ⟨vs⟩).toList⟩ T (0,0)):=by
 simp only [Sort.putRow,Sort.mapBlock,Array.getElem?_modify,if_true,h,bN]
 rfl
theorem zkl {w:World} {b:Nat} (d:Array (List UInt8)) {x:Nat} (hx:x≠b):(Sort.putRow encStr w b 0 d).heap[x]?=w.heap[x]?:=by
 simp only [Sort.putRow,Sort.mapBlock,Array.getElem?_modify,if_neg (Ne.symm hx)]
theorem tU {vs:List Value} (d:List (List UInt8)) (hd:d.length≤vs.length) (i:Nat) (s:List UInt8) (hi:d[i]?=some s):(Sort.putCells encStr 0 d.toArray ⟨vs⟩).toList[i]?=some (.string ⟨s.toArray⟩):=by
 obtain ⟨hlt,he⟩:=List.getElem?_eq_some_iff.1 hi
 subst he
 simp only [Sort.putCells,Array.toList_mapIdx,List.getElem?_mapIdx]
 rw [List.getElem?_eq_getElem (by omega)]
 simp [hlt,encStr]
theorem zkm {ι:Imm} {j:Lay} {own:Own} {σ:Store} {w:World} (hG:GSim ι j own σ w) {id b:Nat} {cs:List Cell} (hcs:dE σ.objs id=some cs) (hjb:j id=some b) (hown:own b=some (.obj id)) {vs:List Value} {T:TypeId} (hheap:w.heap[b]?=some (.cells ⟨vs⟩ T (0,0))) (hlen:cs.length≤vs.length)
  (zs:List (List UInt8)) (hz:zs.length=cs.length) (n:Nat) (os:Array Obj) :
  GSim ι j own {σ with objs:=dZ σ.objs id (eW zs)} (Sort.grow (Sort.putRow encStr (Sort.ahead w n) b 0 zs.toArray) os)∧Evo ι j own w ι j own (Sort.grow (Sort.putRow encStr (Sort.ahead w n) b 0 zs.toArray) os) (fun t=>t=.obj id):=by
 have hh:(Sort.ahead w n).heap[b]?=some (.cells ⟨vs⟩ T (0,0)):=hheap
 have h1:=zmt hh zs.toArray
 obtain ⟨w1,hw1⟩:∃ w1,w1=Sort.putRow encStr (Sort.ahead w n) b 0 zs.toArray:=⟨_,rfl⟩
 have hoth:∀ x,x≠b→w1.heap[x]?=w.heap[x]?:=fun x hx=>by rw [hw1]; exact zkl _ hx
 have hsz:w1.heap.size=w.heap.size:=by rw [hw1,Sort.size_putRow]; rfl
 have hf:w1.os=w.os∧w1.tape=w.tape∧w1.output=w.output:=by rw [hw1]; exact ⟨rfl,rfl,rfl⟩
 rw [← hw1] at h1 ⊢
 have hvl:(Sort.putCells encStr 0 zs.toArray ⟨vs⟩).toList.length=vs.length:=by simp [Sort.putCells]
 obtain ⟨g1,e1⟩:=hG.setObj (cs':=eW zs) (w':=w1) hcs hjb hown hf.1 hf.2.1 hf.2.2 (by omega) hoth hheap h1 (by rw [hvl]; simp [eW]; omega) (by rw [hvl]; rfl) (fun i c hi=>by
  simp only [eW,List.getElem?_map,Option.map_eq_some_iff] at hi
  obtain ⟨s,hs,rfl⟩:=hi
  exact ⟨_,tU zs (by omega) i s hs,rfl,by simp only [Rep],fun h=>by cases h⟩)
 have hx:RowKit.Below w1.heap.size w1 (Sort.grow w1 os):=⟨rfl,rfl,rfl,by simp [Sort.grow],fun x hx=>by
  show (w1.heap ++ os)[x]?=w1.heap[x]?
  rw [Array.getElem?_append_left hx]⟩
 have hE:Evo ι j own w1 ι j own (Sort.grow w1 os) (fun _=>False):=⟨hx.os,hx.tape,hx.output,hx.size,fun _ _ _ h=>h,fun _ _ h=>h,fun b hb _=>⟨hx.block b hb,rfl,fun _=>rfl⟩⟩
 refine ⟨g1.evo hE (fun b o v h=>?_) g1.noimm (fun b t h=>aP (g1.ownlt b t h) hx.size) g1.jlt (fun _ _ _=>⟨fun h=>h,fun _ _ _ _ h=>h⟩) (fun _ _ _ h=>h),?_⟩
 ·rw [World.cell?_of_block (w:=w1) (w':=Sort.grow w1 os) (a:=⟨b,o,none⟩) (hx.block b (sO g1 h))]
  exact g1.holds b o v h
 ·refine ⟨hx.os.trans e1.os,hx.tape.trans e1.tape,hx.output.trans e1.output,Nat.le_trans e1.size hx.size,fun _ _ _ h=>h,fun _ _ h=>h,fun x hxl hxt=>⟨?_,rfl,fun _=>rfl⟩⟩
  rw [hx.block x (by omega)]
  exact (e1.block x hxl hxt).1
theorem zef {ι:Imm} {j:Lay} {own:Own} {w:World} {id b:Nat} {cs:List Cell} {l:List (List UInt8)} {vs:List Value} {T:TypeId} (hl:xR cs=some l) (hheap:w.heap[b]?=some (.cells ⟨vs⟩ T (0,0))) (hcell:∀ (i:Nat) (c:Cell),cs[i]?=some c→∃ v,vs[i]?=some v∧v.oneCell'=true∧lP ι j own w (.ocell id i) c v):Sort.Holds encStr w b 0 l.toArray:=by
 intro i hi
 have hi':i < l.length:=by simpa using hi
 obtain ⟨c,h1,h2⟩:=zk5 hl i l[i] (List.getElem?_eq_getElem hi')
 obtain ⟨v,h3,_,h4,_⟩:=hcell i c h1
 rw [h2] at h4
 simp only [Rep] at h4
 subst h4
 refine ⟨?_,Lib.frozen_of_heap hheap _⟩
 rw [cell_of_row w b _ _ _ _ hheap]
 simp [h3,hi',encStr]
theorem zie {ι:Imm} {j:Lay} {k:RowK} {id n b:Nat} {v:Value} (hk:k.sz=1) (hn:0 < n) (hjb:j id=some b) (h:Rep ι j (.arr k id 0 n) v):∃ c,j (id + 1)=some c∧n≤c∧c≤maxLen∧v=.slice (some ⟨b,0,none⟩) n c:=by
 simp only [Rep] at h
 obtain ⟨b',c,a,h1,h2,⟨h3,h4⟩,rfl,h6⟩:=h
 rw [hjb] at h1
 cases h1
 refine ⟨c,h2,by omega,h4,?_⟩
 rcases h6 with h6 | h6
 ·omega
 ·rw [h6]
  simp
theorem zzj {ds:List D} {σ σ':Store} {out:Out} (h:za7 ds σ=some (out,σ')):mZ Go.Proofs.Tryz.prog κ 120 ds σ out σ':=by
 refine (lG (show isY 120=false from rfl)).2 ⟨⟨_,_,Go.Proofs.Tryz.func120,by kernel_rfl,rfl⟩,fun ι j own w vs hS hB hG hr=>?_⟩
 unfold za7 at h
 split at h
 ·rename_i k id n
  obtain ⟨cs,h1,ha⟩:=dC h
  obtain ⟨h2,hb⟩:=dN ha
  obtain ⟨l,h3,hc⟩:=dC hb
  cases hc
  simp only [aC,beq_iff_eq,cE] at h2
  obtain ⟨hk,hn,hpos,hbd⟩:=h2
  simp only [eL] at hbd
  obtain ⟨v,rfl,hv⟩:=zaj hr
  obtain ⟨b,hjb,hown,row,T,hheap,hlen,hcell⟩:=hG.objs id cs h1
  obtain ⟨c,hc1,hc2,hc3,rfl⟩:=zie hk hpos hjb hv
  have hll:=Rh h3
  have hH:=zef h3 hheap hcell
  have hblk:b < w.heap.size:=(Array.getElem?_eq_some_iff.1 hheap).1
  have hcal:=Go.Proofs.Tryz.slices_Sort_string b 0 c l w hH hblk (by omega)
  rw [show l.length=n by omega] at hcal
  refine hcal.mono ?_
  rintro e w' ⟨rfl,q,os,rfl⟩
  obtain ⟨g1,g2⟩:=zkm hG h1 hjb hown hheap hlen (pV l) (by simp [pV,hll]) q os
  exact ⟨ι,j,own,g1,g2.weaken (fun _ _=>trivial),hS,by simp [Rep,dM],fun h=>by cases h⟩
 ·cases h
theorem zqf:∀ l:List (List UInt8),(Lib.compact l).length≤l.length:=by
 intro l
 unfold Lib.compact Lib.compactUpTo
 rw [aJ]
 exact Nat.le_trans (List.length_filter_le _ _) (by simp)
theorem znt {ds:List D} {σ σ':Store} {out:Out} (h:Dj ds σ=some (out,σ')):mZ Go.Proofs.Tryz.prog κ 77 ds σ out σ':=by
 refine (lG (show isY 77=false from rfl)).2 ⟨⟨_,_,Go.Proofs.Tryz.func77,by kernel_rfl,rfl⟩,fun ι j own w vs hS hB hG hr=>?_⟩
 unfold Dj at h
 split at h
 ·rename_i k id n
  obtain ⟨cs,h1,ha⟩:=dC h
  obtain ⟨h2,hb⟩:=dN ha
  obtain ⟨l,h3,hc⟩:=dC hb
  cases hc
  simp only [aC,beq_iff_eq,cE] at h2
  obtain ⟨hk,hn,hpos,hbd⟩:=h2
  simp only [eL] at hbd
  obtain ⟨v,rfl,hv⟩:=zaj hr
  obtain ⟨b,hjb,hown,row,T,hheap,hlen,hcell⟩:=hG.objs id cs h1
  obtain ⟨c,hc1,hc2,hc3,rfl⟩:=zie hk hpos hjb hv
  have hll:=Rh h3
  have hH:=zef h3 hheap hcell
  have hcal:=Go.Proofs.Tryz.slices_Compact_string b 0 c l w hH (by omega) (by omega)
  rw [show l.length=n by omega] at hcal
  refine hcal.mono ?_
  rintro e w' ⟨rfl,q,rfl⟩
  have hle:=zqf l
  obtain ⟨g1,g2⟩:=zkm hG h1 hjb hown hheap hlen (Lib.compact l ++ List.replicate (l.length - (Lib.compact l).length) []) (by simp; omega) q #[]
  have hgr:∀ w:World,Sort.grow w #[]=w:=fun w=>by simp [Sort.grow]
  rw [hgr] at g1 g2
  rw [show l.length=n by omega] at g1 g2 ⊢
  refine ⟨ι,j,own,g1,g2.weaken (fun _ _=>trivial),hS,?_,fun h=>by cases h⟩
  simp only [Rep]
  exact ⟨b,c,⟨b,0,none⟩,hjb,hc1,⟨by omega,hc3⟩,rfl,.inr (by simp)⟩
 ·cases h
end Go.Fu
namespace Go.Fu
open Go Go.Mx
set_option maxRecDepth 10000
set_option maxHeartbeats 4000000
def Γc:FuncId→Option AFun:=fun f=>ifB (f == Zq) (some lW) (ifB (f == yZ) (some iU) (ifB (f == Jv || f == Ju) none (Γa f)))
theorem Γc_holds:Holds Go.Proofs.Tryz.prog Γc:=by
 intro f af h
 unfold Γc at h
 by_cases e:f=Zq
 ·subst e
  simp only [bW,dJ,aA] at h
  subst h
  exact ⟨rfl,_,rfl,yF⟩
 have e':(f == Zq)=false:=by simpa using e
 rw [e',dH] at h
 by_cases e2:f=yZ
 ·subst e2
  simp only [bW,dJ,aA] at h
  subst h
  exact ⟨rfl,_,rfl,Dp⟩
 have e2':(f == yZ)=false:=by simpa using e2
 rw [e2',dH] at h
 obtain ⟨h3,h4⟩:(f == Jv || f == Ju)=false∧Γa f=some af:=by
  cases hb:(f == Jv || f == Ju) with
  | true=>rw [hb,dJ] at h; cases h
  | false=>rw [hb,dH] at h; exact ⟨rfl,h⟩
 exact Γa_holds f af h4
def Xc:dQ:=fun f ds σ=>ifB (f == Jv) (za7 ds σ) (ifB (f == Ju) (Dj ds σ) (Xa f ds σ))
theorem zh9:lM Go.Proofs.Tryz.prog κ Xc:=by
 intro f ds σ out σ' h
 unfold Xc at h
 by_cases h1:f=Jv
 ·subst h1
  simp only [bW,dJ] at h
  exact zzj h
 have e1:(f == Jv)=false:=by simpa using h1
 rw [e1,dH] at h
 by_cases h2:f=Ju
 ·subst h2
  simp only [bW,dJ] at h
  exact znt h
 have e2:(f == Ju)=false:=by simpa using h2
 rw [e2,dH] at h
 exact Hz f ds σ out σ' h
noncomputable def V (n:Nat):dQ:=Ld Go.Proofs.Tryz.prog κ Γc Ra Xc [] n
noncomputable def VD (n:Nat):dQ:=Tm Go.Proofs.Tryz.prog κ Γc Ra Xc [] n
theorem zbhb (n:Nat):lM Go.Proofs.Tryz.prog κ (V n):=(Le Γc_holds sE zh9 n).1
theorem Rm {n:Nat} {f:FuncId} {af:AFun} {ds:List D} {σ:Store} (h:Γc f=some af) (hl:ds.length=af.nargs):V (n + 1) f ds σ=oM Ra (VD n) af σ.next (exec (V n) n none af.body (jE ds) σ):=Xk rfl h hl
theorem zzl {n:Nat} {f:FuncId} {ds:List D} {σ:Store} (h:Γc f=none) (hY:isY f=false):V (n + 1) f ds σ=Xc f ds σ:=zko rfl h hY
theorem zenb {n:Nat} {ds:List D} {σ:Store}:V (n + 1) (iG + 3) ds σ=Xl (V n) n 3 ds σ:=by
 have h:(fun f=>ifB (has ([]:eD) f) none (Γc f)) (iG + 3)=none:=rfl
 have hY:isY (iG + 3)=true:=rfl
 exact zyt (Γ:=fun f=>ifB (has ([]:eD) f) none (Γc f)) h hY
def fnV:D:=.fn (.func zhs) [] [.ptr 0 0]
def asg:ACode:=.region [⟨(some 5),.mov (.tmp 7),none⟩] none [6,7]
def RL (s:LSt):LRec:={slots:=[(2,⟨false,.ptr 1 0⟩),(6,⟨false,fnV⟩)],params:=[7],assign:=asg,body:=iO,st:=s}
structure LK (l:List Tx) (σ:Store) (i:Nat) (d:D):Prop where
 o0:dE σ.objs 0=some [⟨false,dSs l⟩]
 o1:dE σ.objs 1=some [⟨false,d⟩]
 nx:4≤σ.next
 dd:(i=0∧d=.nils)∨(∃ a,d=.arr k_0 a 0 i∧4≤a∧a < σ.next∧dE σ.objs a=some (eW (l.take i))∧dE σ.tys a=some ⟨k_0.el,k_0.sz⟩)
theorem qU (l:List Tx):(eW l).length=l.length:=by simp [eW]
theorem zbnb (l:List Tx):(eW l).map (fun c=>Cell.of c.d)=eW l:=by simp [eW,Cell.of]
theorem LK.app {l:List Tx} {σ:Store} {i:Nat} {d:D} (h:LK l σ i d) (hi:i < l.length) (hl:l.length < 1000000000):∃ σ2,eV σ k_0 16 d [.str l[i]]=some (.arr k_0 σ.next 0 (i + 1),σ2)∧σ2.oth=σ.oth∧σ2.next=σ.next + 2∧dE σ2.objs 0=some [⟨false,dSs l⟩]∧dE σ2.objs 1=some [⟨false,d⟩]∧dE σ2.objs σ.next=some (eW (l.take (i + 1)))∧dE σ2.tys σ.next=some ⟨k_0.el,k_0.sz⟩:=by
 have hnx:=h.nx
 have n0:(σ.next == 0)=false:=beq_false_of_ne (by omega)
 have n1:(σ.next == 1)=false:=beq_false_of_ne (by omega)
 have h1:eM k_0.sz [.str l[i]]=true:=rfl
 have hce:cellsOf [.str l[i]]=[⟨false,.str l[i]⟩]:=rfl
 have htk:eW (l.take (i + 1))=eW (l.take i) ++ [⟨false,.str l[i]⟩]:=by
  show (l.take (i + 1)).map _=_
  rw [← hZ l i hi,aU]
  rfl
 rcases h.dd with ⟨rfl,rfl⟩ | ⟨a,rfl,ha4,han,hao,hat⟩
 ·refine ⟨dR σ k_0 (cellsOf [.str l[0]]),?_,rfl,rfl,?_,?_,?_,?_⟩
  ·have e1:decide ([D.str l[0]].length * 16≤eL)=true:=rfl
   have e2:decide ([D.str l[0]].length≤eL)=true:=rfl
   simp only [eV,h1,dJ,List.isEmpty_cons,dH]
   rfl
  ·show dE ((σ.next,_) :: σ.objs) 0=_
   rw [dE,n0,dH,h.o0]
  ·show dE ((σ.next,_) :: σ.objs) 1=_
   rw [dE,n1,dH,h.o1]
  ·show dE ((σ.next,_) :: σ.objs) σ.next=_
   rw [dE,bW,dJ,htk,hce]
   rfl
  ·show dE ((σ.next,_) :: σ.tys) σ.next=_
   rw [dE,bW,dJ]
 ·have a0:¬ a=0:=by omega
  have a1:¬ a=1:=by omega
  refine ⟨dR {σ with objs:=eE σ.objs a} k_0 (eW (l.take (i + 1))),?_,rfl,rfl,?_,?_,?_,?_⟩
  ·have e0:decide (i * k_0.sz≤(eW (l.take i)).length)=true:=by rw [qU]; simp [k_0]; omega
   have e1:decide ((i + 1) * 16≤eL)=true:=decide_eq_true (show (i + 1) * 16≤1099511627776 by omega)
   have e2:decide (i + 1≤eL)=true:=decide_eq_true (show i + 1≤1099511627776 by omega)
   have ek:k_0.same k_0=true:=rfl
   have ht:(eW (l.take i)).take (i * k_0.sz)=eW (l.take i):=List.take_of_length_le (by rw [qU]; simp [k_0]; omega)
   simp only [eV,h1,dJ,hao,hat,dG,dK,ek,bW,aG,aH,aN,e0,e1,e2,aY,ht,zbnb,hce,htk]
  ·show dE ((σ.next,_) :: eE σ.objs a) 0=_
   rw [dE,n0,dH,eK,if_neg a0,h.o0]
  ·show dE ((σ.next,_) :: eE σ.objs a) 1=_
   rw [dE,n1,dH,eK,if_neg a1,h.o1]
  ·show dE ((σ.next,_) :: eE σ.objs a) σ.next=_
   rw [dE,bW,dJ]
  ·show dE ((σ.next,_) :: σ.tys) σ.next=_
   rw [dE,bW,dJ]
structure WS (l:List Tx) (σ:Store) (i:Nat) (d:D) (s:LSt):Prop where
 k:LK l σ i d
 r:dE σ.oth 3=some (.loop (RL s))
 m:dE σ.oth 2=some .dfr
theorem WS.set {l:List Tx} {σ:Store} {i:Nat} {d:D} {s:LSt} (h:WS l σ i d s) (t:LSt):WS l (qI σ 3 (RL s) t) i d t:=by
 refine ⟨⟨h.k.o0,h.k.o1,h.k.nx,h.k.dd⟩,?_,?_⟩
 ·show dE (dZ σ.oth 3 _) 3=_
  rw [dY,if_pos rfl]
  rfl
 ·show dE (dZ σ.oth 3 _) 2=_
  rw [dY,if_neg (by decide),h.m]
theorem zwk {l:List Tx} {σ:Store} {i:Nat} {d:D} (h:WS l σ i d .ready) (hi:i < l.length) (hl:l.length < 1000000000) (N:Nat):∃ σ' d',V (N + 1) (iG + 3) [.str l[i]] σ=some (.ret ⟨false,.bool true⟩,σ')∧WS l σ' (i + 1) d' .ready:=by
 have hb:=h.set .busy
 obtain ⟨σb,hσb⟩:∃ σb,σb=qI σ 3 (RL .ready) .busy:=⟨_,rfl⟩
 rw [← hσb] at hb
 -- what is appended to: the object is read,its mark taken away
 have hk':LK l {σb with objs:=dZ σb.objs 1 [⟨false,d⟩]} i d:=by
  have hk:=hb.k
  refine ⟨?_,?_,hk.nx,?_⟩
  ·show dE (dZ σb.objs 1 _) 0=_
   rw [dY,if_neg (by decide),hk.o0]
  ·show dE (dZ σb.objs 1 _) 1=_
   rw [dY,if_pos rfl]
  ·rcases hk.dd with h1 | ⟨a,q1,q2,q3,q4,q5⟩
   ·exact .inl h1
   ·refine .inr ⟨a,q1,q2,q3,?_,q5⟩
    show dE (dZ σb.objs 1 _) a=_
    rw [dY,if_neg (by omega),q4]
 obtain ⟨σ2,a1,a2,a3,a4,a5,a6,a7⟩:=hk'.app hi hl
 simp only at a1 a2 a3
 obtain ⟨σc,hσc⟩:∃ σc:Store,σc={σ2 with objs:=dZ σ2.objs 1 [⟨false,.arr k_0 σb.next 0 (i + 1)⟩]}:=⟨_,rfl⟩
 have hc:WS l σc (i + 1) (.arr k_0 σb.next 0 (i + 1)) .busy:=by
  have hnx:=hb.k.nx
  subst hσc
  refine ⟨⟨?_,?_,?_,.inr ⟨σb.next,rfl,hnx,?_,?_,a7⟩⟩,?_,?_⟩
  ·show dE (dZ σ2.objs 1 _) 0=_
   rw [dY,if_neg (by decide),a4]
  ·show dE (dZ σ2.objs 1 _) 1=_
   rw [dY,if_pos rfl]
  ·show 4≤σ2.next
   omega
  ·show σb.next < σ2.next
   omega
  ·show dE (dZ σ2.objs 1 _) σb.next=_
   rw [dY,if_neg (by omega)]
   exact a6
  ·show dE σ2.oth 3=_
   rw [a2]; exact hb.r
  ·show dE σ2.oth 2=_
   rw [a2]; exact hb.m
 have hbody:exec (V N) N (some 3) iO {slots:=[(2,⟨false,.ptr 1 0⟩),(5,⟨false,.str l[i]⟩)],locs:=[],boxes:=[],defers:=[]} σb=some (.normal,{slots:=[],locs:=[],boxes:=[],defers:=[]},σc):=by
  have o1:=hb.k.o1
  subst hσc
  have hli:iR (dZ σb.objs 1 [⟨false,d⟩]) (.list k_0 [.str l[i]])=some [.str l[i]]:=rfl
  simp only [iO,sA,seval,kn,eI,jK,o1,hli,a1,a5]
 have hasg:exec (V N) N (some 3) asg {slots:=rO [7] [.str l[i]] (RL .ready).slots,locs:=[],boxes:=[],defers:=[]} σ=some (.normal,{slots:=[(2,⟨false,.ptr 1 0⟩),(5,⟨false,.str l[i]⟩)],locs:=[],boxes:=[],defers:=[]},σ):=by
  simp only [asg,RL,rO,sA,seval,kn]
 have hf:=hc.set .ready
 refine ⟨_,_,?_,hf⟩
 rw [zenb]
 have l1:pL σ 3=some (RL .ready):=by simp only [pL,h.r,dG,dK]
 have l2:pL σc 3=some (RL .busy):=by simp only [pL,hc.r,dG,dK]
 unfold Xl
 simp only [l1,dG,dK]
 show ifB true (Qv (V N) N 3 iO (exec (V N) N (some 3) asg {slots:=rO [7] [.str l[i]] (RL .ready).slots,locs:=[],boxes:=[],defers:=[]} σ)) none=_
 rw [hasg,dJ]
 unfold Qv
 simp only [l1,dG,dK]
 show ifB true (Qw (V N) N 3 (exec (V N) N (some 3) iO {slots:=[(2,⟨false,.ptr 1 0⟩),(5,⟨false,.str l[i]⟩)],locs:=[],boxes:=[],defers:=[]} (qI σ 3 (RL .ready) .busy))) none=_
 rw [← hσb,hbody,dJ]
 unfold Qw
 simp only [l2,dG,dK]
end Go.Fu
namespace Go.Fu
open Go Go.Mx
set_option maxRecDepth 10000
set_option maxHeartbeats 4000000
def zy8:List (Nat × AFun):=[(n_6,tK),(Px,sJ),(sT,eO),(Ss,kF),(vQ,iS),
 (Js,fY),(Jt,gY),(Jr,iK),(qY,kJ),(Pv,vL),(Fe,nF),(zg9,tV)]
def Γd:FuncId→Option AFun:=fun f=>eZ (dE zy8 f) (Γc f) some
theorem Γd_holds:Holds Go.Proofs.Tryz.prog Γd:=by
 intro f af h
 unfold Γd at h
 by_cases e1:f=n_6
 ·subst e1; cases h; exact ⟨rfl,_,rfl,Na⟩
 by_cases e2:f=Px
 ·subst e2; cases h; exact ⟨rfl,_,rfl,Kt⟩
 by_cases e3:f=sT
 ·subst e3; cases h; exact ⟨rfl,_,rfl,Ku⟩
 by_cases e4:f=Ss
 ·subst e4; cases h; exact ⟨rfl,_,rfl,Cc⟩
 by_cases e5:f=vQ
 ·subst e5; cases h; exact ⟨rfl,_,rfl,Hf⟩
 by_cases e6:f=Js
 ·subst e6; cases h; exact ⟨rfl,_,rfl,Ft⟩
 by_cases e7:f=Jt
 ·subst e7; cases h; exact ⟨rfl,_,rfl,Hg⟩
 by_cases e8:f=Jr
 ·subst e8; cases h; exact ⟨rfl,_,rfl,Kv⟩
 by_cases e9:f=qY
 ·subst e9; cases h; exact ⟨rfl,_,rfl,Ce⟩
 by_cases e10:f=Pv
 ·subst e10; cases h; exact ⟨rfl,_,rfl,zc2⟩
 by_cases e11:f=Fe
 ·subst e11; cases h; exact ⟨rfl,_,rfl,Ud⟩
 by_cases e12:f=zg9
 ·subst e12; cases h; exact ⟨rfl,_,rfl,zab⟩
 have hn:∀ {m:Nat},f≠m→(m == f)=false:=fun h=>beq_false_of_ne fun e=>h e.symm
 have hg:dE zy8 f=none:=by
  simp only [zy8,dE,hn e1,hn e2,hn e3,hn e4,hn e5,hn e6,hn e7,hn e8,hn e9,hn e10,hn e11,hn e12,dH]
 rw [hg] at h
 exact Γc_holds f af h
noncomputable def W (S:eD) (n:Nat):dQ:=Ld Go.Proofs.Tryz.prog κ Γd Ra Xc S n
noncomputable def WD (S:eD) (n:Nat):dQ:=Tm Go.Proofs.Tryz.prog κ Γd Ra Xc S n
theorem pY (S:eD) (n:Nat):lM Go.Proofs.Tryz.prog κ (W S n):=(Le Γd_holds sE zh9 n).1
theorem eH {S:eD} {n:Nat} {f:FuncId} {af:AFun} {ds:List D} {σ:Store} (hs:has S f=false) (h:Γd f=some af) (hl:ds.length=af.nargs):W S (n + 1) f ds σ=oM Ra (WD S n) af σ.next (exec (W S n) n none af.body (jE ds) σ):=Xk hs h hl
theorem zg6b {S:eD} {n:Nat} {f:FuncId} {ds:List D} {σ:Store} (hs:has S f=false) (h:Γd f=none) (hY:isY f=false):W S (n + 1) f ds σ=Xc f ds σ:=zko hs h hY
theorem qS {S:eD} {f:FuncId} {s:List D→Cell→Prop} {ds:List D} {c:Cell} (hf:dE S f=some s) (hY:isY f=false) (hs:s ds c) (hp:OkP f ds c):∃ c',s ds c'∧∀ n σ,W S (n + 1) f ds σ=some (.ret c',σ):=zkp hf hY hs hp
theorem sF {C:dQ} {n:Nat} {f:FuncId} {af:AFun} {ds:List D} {c:Cell} {σ':Store} (hC:lM Go.Proofs.Tryz.prog κ C) (h:Γd f=some af) (hl:ds.length=af.nargs) (hd:eB ds=true) (hc:eT c.d=true)
  (hr:oM Ra (fun _ _ _=>none) af 0 (exec C n none af.body (jE ds) σ0)=some (.ret c,σ')):OkP f ds c:=by
 obtain ⟨hY,fn,hfn,hok⟩:=Γd_holds f af h
 refine Ge hC sE hY hfn hok hl hd hc (n:=n) (σ':=σ') ?_
 unfold oM at hr
 exact hr
theorem zeob {S:eD} {n:Nat} {f:FuncId} {af:AFun} {ds:List D} {σ σ2:Store} {e:Env} {c:Cell} (hs:has S f=false) (h:Γd f=some af) (hl:ds.length=af.nargs) (hx:exec (W S n) n none af.body (jE ds) σ=some (.normal,e,σ2)) (hd:e.defers=[]) (hg:af.gc=false) (hr:mU e σ2 af.res=some c) :
  WD S (n + 1) f ds σ=some (.ret c,σ2):=by
 unfold WD Tm
 unfold W Ld at hx
 rw [nE,hs]
 simp only [dH,h,hl,bW,dJ,hx,qC,hd,hg,List.isEmpty_nil,bZ,Bool.and_false,fV,dG,dK,hr]
theorem zfc {R:pP} {C:dQ} {m:Option D} {f:FuncId} {ds:List D} {σ σ':Store} {c:Cell} (hY:isY f=false) (hR:R f ds m σ=none) (hC:C f ds σ=some (.ret c,σ')):fV R C m [(f,ds)] σ=some (m,σ'):=by
 simp only [fV,hY,dH,hR,hC,dG,dK]
def Ev (S:eD) (f:FuncId) (ds:List D) (σ σ':Store):Prop:=∃ n0,∀ n,n0≤n→W S n f ds σ=some (.ret ⟨false,.tup []⟩,σ')
def Ret (S:eD) (f:FuncId) (ds:List D) (σ:Store) (d:D) (σ':Store):Prop:=∃ n0,∀ n,n0≤n→W S n f ds σ=some (.ret ⟨false,d⟩,σ')
theorem Ev.of {S:eD} {f:FuncId} {ds:List D} {σ σ':Store} (k:Nat) (h:∀ n,k≤n→W S (n + 1) f ds σ=some (.ret ⟨false,.tup []⟩,σ')):Ev S f ds σ σ':=⟨k + 1,fun n hn=>by
 obtain ⟨m,rfl⟩:∃ m,n=m + 1:=⟨n - 1,by omega⟩
 exact h m (by omega)⟩
theorem lX {x y:Cell}:fN [x,y] none 0=some x∧fN [x,y] none 1=some y:=⟨rfl,rfl⟩
theorem vV {x:Cell}:fN [x] none 0=some x:=rfl
theorem pN {x y z:Cell}:putCells [x,y] 0 [z]=[z,y]∧putCells [x,y] 1 [z]=[x,z]∧putCells [x] 0 [z]=[z]:=⟨rfl,rfl,rfl⟩
section
variable {S:eD} {σ:Store} {p a m:Nat} {L:List In} {M:At} {md:D}
theorem Am (hs:has S n_6=false) (h:CA σ p a md L) (hl:L.length < 1000000000) (op:Tx) (x:Int):∃ σ',(∀ n,W S (n + 1) n_6 [.ptr p 0,.str op,.int .i64 x] σ=some (.ret ⟨false,.tup []⟩,σ'))∧CA σ' p σ.next md (L ++ [op1 op x])∧(∀ m,Frm p a m σ.next m σ σ')∧σ'.oth=σ.oth:=by
 obtain ⟨σ1,h1,h2,h3,h4,h5,_,_⟩:=h.app (op1 op x) hl
 refine ⟨_,fun n=>?_,h3,h4,h5⟩
 have ho:=h.obj
 rw [eH hs rfl rfl]
 have hone:=Cf a L
 have ok1:eM k_1.sz [D.agg [.str op,.int .i64 x,.int .i64 0,.str []]]=true:=rfl
 simp only [op1,dI] at h1
 simp only [tK,sA,Nat.reduceAdd,Nat.reduceSub,Nat.reduceMul,Nat.reduceBEq,Nat.reduceLeDiff,Int.reduceBEq,Int.reduceBNe,Int.reduceLE,Int.reduceLT,Int.reduceGE,Int.reduceGT,Int.reduceNeg,kn,eI,mB,ho,lX,h1,h2,pN,uS]
theorem zm1 {C:dQ} {rest:List AOper} {dst:Option Nat} {e e':Env} {σ σ':Store} {ws:List Nat}:Ek C rest dst (some ws) e σ (some (.next e' σ'))=ifB (ws.all (lI e σ σ')) (gJ C rest e' σ') none:=rfl
theorem zi4b {i:In}:fN [⟨false,.str i.op⟩,⟨false,.int .i64 i.n⟩,⟨false,.int .i64 i.m⟩,⟨false,.str i.name⟩] (some 4) 0=some ⟨false,dI i⟩:=rfl
structure HF (σ:Store) (p a k bx bk:Nat):Prop where
 x:dE σ.objs bx=some [⟨false,.ptr p 0⟩]
 k:dE σ.objs bk=some [⟨false,.int .i64 k⟩]
 xn:bx < σ.next
 kn:bk < σ.next
 xp:bx≠p∧bx≠a
 kp:bk≠p∧bk≠a
theorem HF.keep {σ σ':Store} {p a m a' m' k bx bk:Nat} (h:HF σ p a k bx bk) (f:Frm p a m a' m' σ σ'):HF σ' p a' k bx bk:=by
 have h1:=h.xn
 have h2:=h.kn
 have h3:=f.nx
 have h4:=h.xp
 have h5:=h.kp
 exact ⟨f.get h.x h.xn h.xp.1 h.xp.2,f.get h.k h.kn h.kp.1 h.kp.2,by omega,by omega,⟨h4.1,by rcases f.fa with e | e <;> omega⟩,⟨h5.1,by rcases f.fa with e | e <;> omega⟩⟩
def mG (bx bk:Nat):D:=.fn (.func Sr) [] [.ptr bx 0,.ptr bk 0]
theorem Vv (hs:has S Px=false) (h:CA σ p a md L) (hl:L.length < 1000000000) (i:In):∃ σ' bx bk a',(∀ n,W S (n + 1) Px [.ptr p 0,dI i] σ=some (.ret ⟨false,mG bx bk⟩,σ'))∧CA σ' p a' md (L ++ [i])∧(∀ m,Frm p a m a' m σ σ')∧σ'.oth=σ.oth∧HF σ' p a' L.length bx bk∧σ.next≤bx∧σ.next≤bk:=by
 have hp:=h.pn
 have ha:=h.an
 obtain ⟨σ1,e1⟩:∃ σ1,σ1=GA σ xG [⟨false,.ptr p 0⟩]:=⟨_,rfl⟩
 obtain ⟨σ2,e2⟩:∃ σ2,σ2=GA σ1 wB [⟨false,.int .i64 0⟩]:=⟨_,rfl⟩
 obtain ⟨σ3,e3⟩:∃ σ3,σ3=SO σ2 (σ.next + 1) [⟨false,.int .i64 L.length⟩]:=⟨_,rfl⟩
 have n1:σ1.next=σ.next + 1:=by rw [e1,fW]
 have n2:σ2.next=σ.next + 2:=by rw [e2,fW,n1]
 have n3:σ3.next=σ.next + 2:=by rw [e3,gQ,n2]
 have hx:CA σ3 p a md L:=by
  rw [e3]
  refine CA.so ?_ (by omega) (by omega)
  rw [e2]
  refine CA.ga ?_
  rw [e1]
  exact h.ga
 have hf:∀ m,Frm p a m a m σ σ3:=fun m=>by
  rw [e3]
  refine Frm.so ?_ (.inl (by omega))
  rw [e2]
  refine Frm.trans ?_ Frm.ga
  rw [e1]
  exact Frm.ga
 obtain ⟨σ4,h1,h2,h3,h4,h5,h6,h7⟩:=hx.app i hl
 have b0:dE σ1.objs σ.next=some [⟨false,.ptr p 0⟩]:=by rw [e1,iN]
 have b1:dE σ1.objs p=some [⟨false,nT a L⟩,⟨false,md⟩]:=by rw [e1,jU (by omega)]; exact h.obj
 have b2:dE σ3.objs σ.next=some [⟨false,.ptr p 0⟩]:=by rw [e3,iY (by omega),e2,jU (by omega),b0]
 have b3:=hx.obj
 have b4:dE σ2.objs (σ.next + 1)=some [⟨false,.int .i64 0⟩]:=by
  have:=iN (σ:=σ1) (t:=wB) (cs:=[⟨false,.int .i64 0⟩])
  rw [n1] at this
  rw [e2,this]
 have b6:dE σ3.objs (σ.next + 1)=some [⟨false,.int .i64 L.length⟩]:=by rw [e3,jS]
 have b5:dE σ4.objs σ.next=some [⟨false,.ptr p 0⟩]:=by rw [h7 _ (by omega) (by omega),b2]
 have b7:dE σ4.objs (σ.next + 1)=some [⟨false,.int .i64 L.length⟩]:=by rw [h7 _ (by omega) (by omega),b6]
 have ho3:σ3.oth=σ.oth:=by rw [e3,xT,e2,Gi,e1,Gi]
 refine ⟨_,σ.next,σ.next + 1,_,fun n=>?_,h3,fun m=>(hf m).trans (h4 m),h5.trans ho3,?_,aM _,by omega⟩
 ·rw [eH hs rfl rfl]
  have hone:=Cf a L
  have ok1:eM k_1.sz [dI i]=true:=rfl
  have hln:=zxz a L
  simp only [dI] at h1 ok1
  have htk:=zi4b (i:=i)
  simp only [dI] at htk
  simp only [sJ,dI,sA,Nat.reduceAdd,Nat.reduceSub,Nat.reduceMul,Nat.reduceBEq,Nat.reduceLeDiff,Int.reduceBEq,Int.reduceBNe,Int.reduceLE,Int.reduceLT,Int.reduceGE,Int.reduceGT,Int.reduceNeg,kn,eI,mB,← e1,n1,b0,b1,lX,vV,pN,hln,← e2,b4,← e3,b2,b3,htk,h1,zm1,List.all_cons,List.all_nil,lI,b5,vX,h2,mG,uS]
 ·have nx:σ3.next < (SO σ4 p [⟨false,.arr k_1 σ3.next 0 (L.length + 1)⟩,⟨false,md⟩]).next:=by rw [gQ]; omega
  exact ⟨by rw [iY (by omega)]; exact b5,by rw [iY (by omega)]; exact b7,by omega,by omega,⟨by omega,by omega⟩,⟨by omega,by omega⟩⟩
theorem zdw (hs:has S Sr=false) (h:CS σ p a m L M) {k bx bk:Nat} (hh:HF σ p a k bx bk) (hk:k < L.length):∃ σ',(∀ n,W S (n + 1) Sr [.ptr bx 0,.ptr bk 0] σ=some (.ret ⟨false,.tup []⟩,σ'))∧CS σ' p a m (uE L k L.length) M∧Frm p a m a m σ σ':=by
 obtain ⟨h1,h2⟩:=h.set k L.length hk
 refine ⟨_,fun n=>?_,h1,h2⟩
 have hne:L≠[]:=fun e=>by rw [e] at hk; simp at hk
 obtain ⟨g1,g2⟩:=h.ca.arr hne
 have ho:=h.ca.obj
 rw [Gj _ _ hne] at ho
 have hx:=hh.x
 have hkk:=hh.k
 have hd:k * 4 + 1 + 1≤(cI L).length:=by rw [Ax]; omega
 have e4:(k_1.sz == 4)=true:=rfl
 rw [eH hs rfl rfl]
 simp only [zpq,sA,Nat.reduceAdd,Nat.reduceSub,Nat.reduceMul,Nat.reduceBEq,Nat.reduceLeDiff,Int.reduceBEq,Int.reduceBNe,Int.reduceLE,Int.reduceLT,Int.reduceGE,Int.reduceGT,Int.reduceNeg,kn,eI,mB,hx,hkk,ho,lX,vV,mH,e4,fL,hk,aN,g1,hd]
end
end Go.Fu
