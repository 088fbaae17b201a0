/-
 From what the machine answers to a law's row: the arguments read az the machine's data,all memory there is is read alone; behind the call it stands az it stood.
-/
import Derived.OpenShut
import Derived.Carry
import Derived.ChangeSlices
import Derived.ChangeSame
import Derived.Deep.DeepHandedRow
import Derived.Stop.LaidErr
import Derived.Deep.DeepLaidRun
import Derived.Lib.LaidTab
import Derived.Test.YtieacpoabejcoaaGreatDoorMyFrame
import Derived.Shelf.Small.Bits
import Derived.Shelf.Strconv.Itoa0
import Derived.Shelf.Strconv.Itoa1
import Derived.Shelf.LaysM
import Derived.Shelf.Strconv.Itoa2
import Derived.Shelf.Strconv.Itoa3
import Derived.Ground.Names2Prog
import Derived.Ground.SlgnProg
import Derived.Test.YtieacpoabejcoaaGreatDoorProg
set_option maxHeartbeats 4000000
set_option linter.unusedSimpArgs false
set_option linter.unusedVariables false
set_option linter.unusedSectionVars false
namespace Go.Mx
open Go Go.ChangeShapes Go.WideShapes Go.RowKit
theorem trodAll_below {H:Type} {enc:TypeId × Value→H} {P:Program} (hl:laidOutB P=true) {W W':World} (hb:Below W.heap.size W W'):∀ {ts:List TypeId} {vs:List Value} {ds:List (DataW H)} {ps:List MemPlace},(∀ t∈ts,P.readableRec t=true∧t < P.types.size) →
  DataW.TrodAll enc P W 0 (fun _=>true) true ts vs ds ps→(∀ x∈ps,x.block < W.heap.size)→DataW.TrodAll enc P W' 0 (fun b=>decide (b < W.heap.size)) true ts vs ds ps
 | [],vs,ds,ps,_,h,_=>by
  obtain ⟨rfl,rfl,rfl⟩:=trodAll_nil h
  exact trodAll_mk0
 | t :: ts,vs,ds,ps,ht,h,hlt=>by
  obtain ⟨v,vs',d,ds',p,q,rfl,rfl,rfl,h1,h2⟩:=trodAll_cons h
  obtain ⟨hr,hs⟩:=ht t (List.mem_cons_self ..)
  exact trodAll_cons_mk (Below.trod hl hr hs h1 hb fun x hx=>hlt x (List.mem_append_left _ hx)) (trodAll_below hl hb (fun u hu=>ht u (List.mem_cons_of_mem _ hu)) h2 fun x hx=>hlt x (List.mem_append_right _ hx))
theorem post_true {H:Type} {enc:TypeId × Value→H} {P:Program} {f:Func} {s:ChangeSpec} {fresh handsOn:Bool} {W W':World} {args:Array Value} {ds:List (DataW H)} {before:List MemPlace} (hl:laidOutB P=true) (hb:Below W.heap.size W W')
  (hv:s.vars=[]) (hps:∀ t∈f.params.toList,P.readableRec t=true∧t < P.types.size) (hW:DataW.Whole enc P f.params.toList s.vars false W args.toList ds [] before) (hA:DataW.TrodAll enc P W 0 (fun _=>true) true f.params.toList args.toList ds before)
  {tb:TypeId} (hres:f.resultTypes.toList=[tb]) (htb:P.underlying tb=some .bool) (hrf:(s.fn H (ds ++ [])).results=[.lit (.bool true)]) (haf:(s.fn H (ds ++ [])).args=ds) (hvf:(s.fn H (ds ++ [])).vars=[]) :
  s.post enc P f false fresh handsOn false W args (.bool true) W':=by
 have hlt:∀ x∈before,x.block < W.heap.size:=fun x hx=>hW.lt x hx
 have hsz:f.resultTypes.size=1:=by
  have:=congrArg List.length hres
  simpa using this
 refine ⟨ds,[],before,[],before,[],hW,?_,?_,?_,hb.frame _,fun h=>by cases h⟩
 ·rw [hres,hrf,hsz]
  exact trodAll_cons_mk (shut_bool htb true) trodAll_mk0
 ·rw [haf]
  exact trodAll_below hl hb hps hA hlt
 ·rw [hv,hvf]
  rfl
def allImm (W:World):Imm:=fun b o=>W.cell? ⟨b,o,none⟩
theorem law_call [LoopKit] {P:Program} {κ:Ctx} {f:FuncId} {Ds:List D} {args:List Value} {W:World} {σ':Store} (hY:isY f=false) (hn:κ.n≤W.heap.size) (hK:κ.K W) (hC:CallOK P κ f Ds σ0 (.ret ⟨false,.bool true⟩) σ') (hr:RepL (allImm W) (fun _=>none) Ds args) :
  Calls P f ⟨args⟩ W fun e W'=>e=.returned (.bool true)∧Below W.heap.size W W':=by
 refine (((callOK_fn hY).1 hC).2 (allImm W) (fun _=>none) (fun _=>none) W args (fun _ _ h=>by cases h) ⟨hn,fun _ _=>rfl,hK⟩ ⟨fun _ _ _ h=>h,(fun _ _ h=>by cases h),(fun _ _ h=>by cases h),(fun _ _ _ h=>by cases h),(fun _ _ h=>by cases h),(fun _ _ h=>by cases h),(fun _ _ h=>by cases h)⟩ hr).mono ?_
 rintro e W' ⟨ι',j',own',k1,k2,k3,k4⟩
 cases e with
 | returned v =>
  have hv:=k4.1
  simp only [Rep] at hv
  rw [hv]
  exact ⟨rfl,⟨k2.os,k2.tape,k2.output,k2.size,fun b hb=>(k2.block b hb fun _ h=>by cases h).1⟩⟩
 | panicked c=>exact k4.elim
 | outgrown=>exact k4.elim
def IntRow (k:RowK) (d:D) (xs:List Int):Prop:=d=.list k (xs.map fun x=>.int .i64 x)∨(xs=[]∧d=.nils)
theorem small_of_wf {n:Int} (h:(Lit.int .i64 n).wf=true):-9223372036854775808≤n∧n≤9223372036854775807:=by
 have e1:IntKind.i64.min=-9223372036854775808:=rfl
 have e2:IntKind.i64.max=9223372036854775807:=rfl
 simpa [Lit.wf,e1,e2] using h
theorem repRow_ints {W:World} {k:RowK} (hk:k.sz=1) {b:Nat}:∀ (xs:List Int) (o:Nat),(∀ i,i < xs.length→W.cell? ⟨b,o + i,none⟩=some (.int .i64 (xs.getD i 0)))→RepRow (allImm W) (fun _=>none) k.sz (xs.map fun x=>.int .i64 x) b o
 | [],_,_=>by simp [RepRow]
 | x :: xs,o,h=>by
  simp only [List.map_cons,RepRow]
  refine ⟨⟨.int .i64 x,fun i y hy=>?_,by rw [hk]; rfl,by simp [Rep]⟩,repRow_ints hk xs (o + k.sz) fun i hi=>?_⟩
  ·cases i with
   | zero =>
    simp [Value.cells] at hy
    subst hy
    have:=h 0 (by simp)
    simpa [allImm] using this
   | succ i=>simp [Value.cells] at hy
  ·have:=h (i + 1) (by simpa using hi)
   rw [hk,show o + 1 + i=o + (i + 1) by omega]
   simpa using this
theorem rep_ints {H:Type} {enc:TypeId × Value→H} {P:Program} {W:World} {t e:TypeId} {v:Value} {d0:DataW H} {p:List MemPlace} (ht:P.underlying t=some (.slice e)) (he:P.underlying e=some (.int .i64)) (hc:P.cellsOf e=1) {base:Nat} (hval:Value.okWide P W .any base t v)
  (h:DataW.Trod enc P W 0 (fun _=>true) true t v d0 p) (k:RowK) (hk:k.sz=1):∃ d xs,IntRow k d xs∧(∀ x∈xs,-9223372036854775808≤x∧x≤9223372036854775807)∧Rep (allImm W) (fun _=>none) d v:=by
 obtain ⟨a0,len,cap,rfl⟩:=okWide_slice ht hval
 obtain ⟨fuel,hf⟩:=h
 rcases open_ints ht he hc hf with ⟨hcs,hx⟩ | ⟨a,len',cap',zs,hcs,_,hl,hm,hz,hx,hcell,hwz⟩
 ·simp [Value.cells] at hcs
  obtain ⟨rfl,rfl,rfl⟩:=hcs
  exact ⟨.nils,[],.inr ⟨rfl,rfl⟩,(fun x hx=>by cases hx),by simp [Rep]⟩
 ·simp [Value.cells] at hcs
  obtain ⟨rfl,rfl,rfl⟩:=hcs
  simp only [if_true] at hz
  have hlen:(zs.take len).length=len:=by simp; omega
  refine ⟨.list k ((zs.take len).map fun x=>.int .i64 x),zs.take len,.inl rfl,fun x hx=>small_of_wf (hwz x (List.mem_of_mem_take hx)),?_⟩
  simp only [Rep]
  refine ⟨some a,cap,by rw [List.length_map,hlen],by rw [List.length_map,hlen]; exact hl,hm,?_⟩
  by_cases h0:len=0
  ·left; subst h0; simp
  ·right
   obtain ⟨b,off,spot⟩:=a
   have hspot:spot=none:=by simpa [Addr.add] using World.cell?_spot (hcell 0 (by omega))
   subst hspot
   refine ⟨b,off,rfl,repRow_ints hk _ _ fun i hi=>?_⟩
   rw [hlen] at hi
   have:=hcell i (by omega)
   rw [add_plain] at this
   rw [this,List.getD_eq_getElem?_getD,List.getD_eq_getElem?_getD,List.getElem?_take_of_lt hi]
theorem rep_int {H:Type} {enc:TypeId × Value→H} {P:Program} {W:World} {t:TypeId} {v:Value} {d0:DataW H} {p:List MemPlace} (ht:P.underlying t=some (.int .i64)) {base:Nat} (hval:Value.okWide P W .any base t v)
  (h:DataW.Trod enc P W 0 (fun _=>true) true t v d0 p):∃ n,(-9223372036854775808≤n∧n≤9223372036854775807)∧Rep (allImm W) (fun _=>none) (.int .i64 n) v:=by
 obtain ⟨n,rfl,_,_,hw⟩:=open_int ht hval h
 exact ⟨n,small_of_wf hw,by simp [Rep]⟩
end Go.Mx
namespace Go.Proofs
open Go.Shelf
open Go.Lib in
open Go.Lib in
open Go.Lib in
open Go.Lib in
open Go.RowKit Go.Sort Go.Lib in
open Go.RowKit Go.Sort Go.Lib in
open Go.RowKit Go.Sort Go.Lib in
open Go.RowKit Go.Sort Go.Lib in
open Go.RowKit Go.Sort Go.Lib in
def Tryz.laysM171_ren : Go.Shelf.Ren := ⟨fun | 171 => 33 | 243 => 84 | 246 => 124 | 283 => 151 | 284 => 152 | 285 => 153 | 286 => 154 | 129 => 174 | 317 => 173 | 318 => 175 | 319 => 176 | 320 => 177 | 337 => 182 | 338 => 183 | n => n, fun | 3 => 3 | 9 => 9 | 2 => 2 | 4 => 4 | 171 => 215 | 0 => 0 | 53 => 216 | 37 => 170 | 5 => 5 | 173 => 219 | 212 => 244 | 51 => 245 | 20 => 20 | 213 => 246 | 46 => 242 | 232 => 255 | 233 => 256 | n => n, fun | 17 => 0 | 18 => 2 | 19 => 3 | n => n⟩
theorem Tryz.laysM171 : Go.Proofs.LaysM.n171 Tryz.prog Tryz.laysM171_ren := {
  mixed := by kernel_rfl
  f129 := Tryz.func174.trans (congrArg some (by kernel_rfl))
  f171 := Tryz.func33.trans (congrArg some (by kernel_rfl))
  f243 := Tryz.func84.trans (congrArg some (by kernel_rfl))
  f246 := Tryz.func124.trans (congrArg some (by kernel_rfl))
  f283 := Tryz.func151.trans (congrArg some (by kernel_rfl))
  f284 := Tryz.func152.trans (congrArg some (by kernel_rfl))
  f285 := Tryz.func153.trans (congrArg some (by kernel_rfl))
  f286 := Tryz.func154.trans (congrArg some (by kernel_rfl))
  f317 := Tryz.func173.trans (congrArg some (by kernel_rfl))
  f318 := Tryz.func175.trans (congrArg some (by kernel_rfl))
  f319 := Tryz.func176.trans (congrArg some (by kernel_rfl))
  f320 := Tryz.func177.trans (congrArg some (by kernel_rfl))
  f337 := Tryz.func182.trans (congrArg some (by kernel_rfl))
  f338 := Tryz.func183.trans (congrArg some (by kernel_rfl))
  t0 := Tryz.underlying0
  a0 := Tryz.isAgg0
  z0 := Tryz.sizeOf0
  v0 := Tryz.zeroValue0
  t2 := Tryz.underlying2
  a2 := Tryz.isAgg2
  z2 := Tryz.sizeOf2
  v2 := Tryz.zeroValue2
  t3 := Tryz.underlying3
  a3 := Tryz.isAgg3
  z3 := Tryz.sizeOf3
  v3 := Tryz.zeroValue3
  t4 := Tryz.underlying4
  a4 := Tryz.isAgg4
  z4 := Tryz.sizeOf4
  v4 := Tryz.zeroValue4
  t5 := Tryz.underlying5
  a5 := Tryz.isAgg5
  z5 := Tryz.sizeOf5
  v5 := Tryz.zeroValue5
  t9 := Tryz.underlying9
  a9 := Tryz.isAgg9
  z9 := Tryz.sizeOf9
  v9 := Tryz.zeroValue9
  t20 := Tryz.underlying20
  a20 := Tryz.isAgg20
  z20 := Tryz.sizeOf20
  v20 := Tryz.zeroValue20
  t37 := Tryz.underlying170
  a37 := Tryz.isAgg170
  z37 := Tryz.sizeOf170
  v37 := Tryz.zeroValue170
  t46 := Tryz.underlying242
  a46 := Tryz.isAgg242
  z46 := Tryz.sizeOf242
  v46 := Tryz.zeroValue242
  t51 := Tryz.underlying245
  a51 := Tryz.isAgg245
  z51 := Tryz.sizeOf245
  v51 := Tryz.zeroValue245
  t53 := Tryz.underlying216
  a53 := Tryz.isAgg216
  z53 := Tryz.sizeOf216
  v53 := Tryz.zeroValue216
  t171 := Tryz.underlying215
  a171 := Tryz.isAgg215
  z171 := Tryz.sizeOf215
  v171 := Tryz.zeroValue215
  t173 := Tryz.underlying219
  a173 := Tryz.isAgg219
  z173 := Tryz.sizeOf219
  v173 := Tryz.zeroValue219
  t212 := Tryz.underlying244
  a212 := Tryz.isAgg244
  z212 := Tryz.sizeOf244
  v212 := Tryz.zeroValue244
  t213 := Tryz.underlying246
  a213 := Tryz.isAgg246
  z213 := Tryz.sizeOf246
  t232 := Tryz.underlying255
  a232 := Tryz.isAgg255
  z232 := Tryz.sizeOf255
  v232 := Tryz.zeroValue255
  t233 := Tryz.underlying256
  a233 := Tryz.isAgg256
  z233 := Tryz.sizeOf256
  v233 := Tryz.zeroValue256
  g17 := by kernel_rfl
  g18 := by kernel_rfl
  g19 := by kernel_rfl
  i0 := by kernel_rfl
  i2 := by kernel_rfl
  i3 := by kernel_rfl
  i4 := by kernel_rfl
  i5 := by kernel_rfl
  i9 := by kernel_rfl
  i20 := by kernel_rfl
  i37 := by kernel_rfl
  i46 := by kernel_rfl
  i51 := by kernel_rfl
  i53 := by kernel_rfl
  i171 := by kernel_rfl
  i173 := by kernel_rfl
  i212 := by kernel_rfl
  i232 := by kernel_rfl
  i233 := by kernel_rfl
  m17 := by kernel_rfl
  m18 := by kernel_rfl
  m19 := by kernel_rfl }
open Go.RowKit Go.Sort Go.Lib in
theorem Tryz.strconv_Itoa (n : Int) (h0 : -9223372036854775808 ≤ n) (h1 : n ≤ 9223372036854775807) (w : World) (htab : Lib.TabIs Tryz.prog w "internal/strconv.uint64pow10" .u64 Lib.pow10Tab) :
    Calls Tryz.prog 33 #[.int .i64 n] w fun e w' => e = .returned (.string ⟨(Lib.itoa n).toArray⟩) ∧ ∃ k os, w' = grow (w.drewN k) os := Any.strconv_Itoa Tryz.laysM171 n h0 h1 w htab
end Go.Proofs
namespace Go.Fu
open Go Go.Mx
def n_201 : FuncId := 7
def n_66 : FuncId := 17
def n_197 : FuncId := 18
def n_196 : FuncId := 19
def n_211 : FuncId := 21
def n_137 : FuncId := 22
def n_340 : FuncId := 23
def n_132 : FuncId := 24
def n_338 : FuncId := 25
def n_104 : FuncId := 27
def n_200 : FuncId := 28
def n_4 : FuncId := 29
def n_198 : FuncId := 30
def n_133 : FuncId := 31
def n_36 : FuncId := 33
def n_29 : FuncId := 37
def n_258 : FuncId := 40
def n_70 : FuncId := 43
def n_56 : FuncId := 48
def n_351 : FuncId := 49
def n_208 : FuncId := 50
def n_209 : FuncId := 51
def n_257 : FuncId := 52
def n_255 : FuncId := 53
def n_131 : FuncId := 54
def n_256 : FuncId := 55
def n_54 : FuncId := 56
def n_107 : FuncId := 58
def n_202 : FuncId := 59
def n_204 : FuncId := 60
def n_138 : FuncId := 61
def n_195 : FuncId := 62
def n_19 : FuncId := 63
def n_22 : FuncId := 64
def n_249 : FuncId := 65
def n_181 : FuncId := 66
def n_17 : FuncId := 67
def n_344 : FuncId := 68
def n_259 : FuncId := 69
def n_342 : FuncId := 70
def n_341 : FuncId := 71
def n_141 : FuncId := 72
def n_348 : FuncId := 73
def n_346 : FuncId := 74
def n_339 : FuncId := 75
def n_8 : FuncId := 78
def n_100 : FuncId := 79
def n_136 : FuncId := 80
def n_11 : FuncId := 81
def n_7 : FuncId := 82
def n_183 : FuncId := 83
def n_336 : FuncId := 86
def n_246 : FuncId := 87
def n_188 : FuncId := 88
def n_71 : FuncId := 89
def n_30 : FuncId := 92
def n_143 : FuncId := 93
def n_350 : FuncId := 94
def n_253 : FuncId := 95
def n_184 : FuncId := 96
def n_135 : FuncId := 97
def n_68 : FuncId := 98
def n_261 : FuncId := 99
def n_203 : FuncId := 100
def n_260 : FuncId := 101
def n_245 : FuncId := 102
def n_251 : FuncId := 103
def n_67 : FuncId := 104
def n_250 : FuncId := 105
def n_265 : FuncId := 106
def n_99 : FuncId := 107
def n_337 : FuncId := 108
def n_354 : FuncId := 109
def n_55 : FuncId := 110
def n_263 : FuncId := 111
def n_262 : FuncId := 112
def n_187 : FuncId := 113
def n_347 : FuncId := 114
def n_345 : FuncId := 115
def n_140 : FuncId := 116
def n_343 : FuncId := 117
def n_335 : FuncId := 118
def n_349 : FuncId := 120
def n_23 : FuncId := 121
def n_101 : FuncId := 122
def n_134 : FuncId := 123
def n_247 : FuncId := 125
def n_106 : FuncId := 126
def n_210 : FuncId := 127
def n_186 : FuncId := 130
def n_207 : FuncId := 131
def n_142 : FuncId := 132
def n_103 : FuncId := 133
def n_254 : FuncId := 134
def n_102 : FuncId := 135
def n_139 : FuncId := 136
def n_185 : FuncId := 137
def n_128 : FuncId := 138
def n_127 : FuncId := 139
def n_130 : FuncId := 140
def n_205 : FuncId := 141
def n_129 : FuncId := 142
def n_193 : FuncId := 143
def n_206 : FuncId := 148
def n_266 : FuncId := 149
def n_267 : FuncId := 150
def n_353 : FuncId := 155
def n_352 : FuncId := 156
def n_105 : FuncId := 160
def n_199 : FuncId := 162
def n_252 : FuncId := 163
def n_194 : FuncId := 164
def n_264 : FuncId := 165
def n_182 : FuncId := 166
def n_65 : FuncId := 167
def n_64 : FuncId := 168
def n_69 : FuncId := 169
def n_248 : FuncId := 5
def k_18 : RowK := ⟨94, 2, true⟩
theorem k_300 : k_18.sz = 2 := rfl
theorem k_298 : k_18.ag = true := rfl
theorem k_299 : k_18.same k_18 = true := rfl
def k_35 : RowK := ⟨113, 6, true⟩
theorem k_303 : k_35.sz = 6 := rfl
theorem k_301 : k_35.ag = true := rfl
theorem k_302 : k_35.same k_35 = true := rfl
def k_53 : RowK := ⟨105, 3, true⟩
theorem k_306 : k_53.sz = 3 := rfl
theorem k_304 : k_53.ag = true := rfl
theorem k_305 : k_53.same k_53 = true := rfl
def k_12 : RowK := ⟨129, 6, true⟩
theorem k_309 : k_12.sz = 6 := rfl
theorem k_307 : k_12.ag = true := rfl
theorem k_308 : k_12.same k_12 = true := rfl
def k_5 : RowK := ⟨69, 1, true⟩
theorem k_312 : k_5.sz = 1 := rfl
theorem k_310 : k_5.ag = true := rfl
theorem k_311 : k_5.same k_5 = true := rfl
def k_3 : RowK := ⟨78, 5, true⟩
theorem k_315 : k_3.sz = 5 := rfl
theorem k_313 : k_3.ag = true := rfl
theorem k_314 : k_3.same k_3 = true := rfl
def k_179 : RowK := ⟨30, 7, true⟩
theorem k_318 : k_179.sz = 7 := rfl
theorem k_316 : k_179.ag = true := rfl
theorem k_317 : k_179.same k_179 = true := rfl
def k_16 : RowK := ⟨165, 9, true⟩
theorem k_321 : k_16.sz = 9 := rfl
theorem k_319 : k_16.ag = true := rfl
theorem k_320 : k_16.same k_16 = true := rfl
def k_1 : RowK := ⟨28, 4, true⟩
theorem k_324 : k_1.sz = 4 := rfl
theorem k_322 : k_1.ag = true := rfl
theorem k_323 : k_1.same k_1 = true := rfl
def k_13 : RowK := ⟨204, 2, true⟩
theorem k_327 : k_13.sz = 2 := rfl
theorem k_325 : k_13.ag = true := rfl
theorem k_326 : k_13.same k_13 = true := rfl
def k_int : RowK := ⟨3, 1, false⟩
theorem k_180 : k_int.sz = 1 := rfl
theorem k_328 : k_int.ag = false := rfl
theorem k_329 : k_int.same k_int = true := rfl
def k_0 : RowK := ⟨9, 1, false⟩
theorem k_63 : k_0.sz = 1 := rfl
theorem k_330 : k_0.ag = false := rfl
theorem k_331 : k_0.same k_0 = true := rfl
def k_28 : RowK := ⟨5, 1, false⟩
theorem k_334 : k_28.sz = 1 := rfl
theorem k_332 : k_28.ag = false := rfl
theorem k_333 : k_28.same k_28 = true := rfl
def t_bool : Nat := 4
def t_31 : Nat := 9
def t_269 : Nat := 22
def t_268 : Nat := 25
def t_356 : Nat := 30
def t_109 : Nat := 46
def t_108 : Nat := 48
def t_144 : Nat := 111
def t_212 : Nat := 113
def t_355 : Nat := 117
def t_213 : Nat := 129
def t_270 : Nat := 157
def t_14 : Nat := 189
def t_271 : Nat := 235
end Go.Fu
