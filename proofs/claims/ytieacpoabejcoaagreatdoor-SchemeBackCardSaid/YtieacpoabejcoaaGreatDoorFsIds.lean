/-
 From what the machine answers to a law's row: the arguments read az the machine's data,all memory there is is read alone; behind the call it stands az it stood.
-/
import Derived.OpenShut
import Derived.Carry
import Derived.ChangeSlices
import Derived.ChangeSame
import Derived.Deep.DeepHandedRow
import Derived.Stop.LaidErr
import Derived.Deep.DeepLaidRun
import Derived.Lib.LaidTab
import Derived.Test.YtieacpoabejcoaaGreatDoorMyFrame
import Derived.Shelf.Small.Bits
import Derived.Shelf.Strconv.Itoa0
import Derived.Shelf.Strconv.Itoa1
import Derived.Shelf.LaysM
import Derived.Shelf.Strconv.Itoa2
import Derived.Shelf.Strconv.Itoa3
import Derived.Ground.Names2Prog
import Derived.Ground.SlgnProg
import Derived.Test.YtieacpoabejcoaaGreatDoorProg
set_option maxHeartbeats 4000000
set_option linter.unusedSimpArgs false
set_option linter.unusedVariables false
set_option linter.unusedSectionVars false
namespace Go.Mx
open Go Go.ChangeShapes Go.WideShapes Go.RowKit
theorem zmt {H:Type} {enc:TypeId × Value→H} {P:Program} (hl:laidOutB P=true) {W W':World} (hb:Below W.heap.size W W'):∀ {ts:List TypeId} {vs:List Value} {ds:List (DataW H)} {ps:List MemPlace},(∀ t∈ts,P.readableRec t=true∧t < P.types.size) →
  DataW.TrodAll enc P W 0 (fun _=>true) true ts vs ds ps→(∀ x∈ps,x.block < W.heap.size)→DataW.TrodAll enc P W' 0 (fun b=>decide (b < W.heap.size)) true ts vs ds ps
 | [],vs,ds,ps,_,h,_=>by
  obtain ⟨rfl,rfl,rfl⟩:=trodAll_nil h
  exact trodAll_mk0
 | t :: ts,vs,ds,ps,ht,h,hlt=>by
  obtain ⟨v,vs',d,ds',p,q,rfl,rfl,rfl,h1,h2⟩:=trodAll_cons h
  obtain ⟨hr,hs⟩:=ht t (List.mem_cons_self ..)
  exact trodAll_cons_mk (Below.trod hl hr hs h1 hb fun x hx=>hlt x (List.mem_append_left _ hx)) (zmt hl hb (fun u hu=>ht u (List.mem_cons_of_mem _ hu)) h2 fun x hx=>hlt x (List.mem_append_right _ hx))
theorem zhkb {H:Type} {enc:TypeId × Value→H} {P:Program} {f:Func} {s:ChangeSpec} {fresh handsOn:Bool} {W W':World} {args:Array Value} {ds:List (DataW H)} {before:List MemPlace} (hl:laidOutB P=true) (hb:Below W.heap.size W W')
  (hv:s.vars=[]) (hps:∀ t∈f.params.toList,P.readableRec t=true∧t < P.types.size) (hW:DataW.Whole enc P f.params.toList s.vars false W args.toList ds [] before) (hA:DataW.TrodAll enc P W 0 (fun _=>true) true f.params.toList args.toList ds before)
  {tb:TypeId} (hres:f.resultTypes.toList=[tb]) (htb:P.underlying tb=some .bool) (hrf:(s.fn H (ds ++ [])).results=[.lit (.bool true)]) (haf:(s.fn H (ds ++ [])).args=ds) (hvf:(s.fn H (ds ++ [])).vars=[]) :
  s.post enc P f false fresh handsOn false W args (.bool true) W':=by
 have hlt:∀ x∈before,x.block < W.heap.size:=fun x hx=>hW.lt x hx
 have hsz:f.resultTypes.size=1:=by
  have:=congrArg List.length hres
  simpa using this
 refine ⟨ds,[],before,[],before,[],hW,?_,?_,?_,hb.frame _,fun h=>by cases h⟩
 ·rw [hres,hrf,hsz]
  exact trodAll_cons_mk (shut_bool htb true) trodAll_mk0
 ·rw [haf]
  exact zmt hl hb hps hA hlt
 ·rw [hv,hvf]
  rfl
def zm3 (W:World):Imm:=fun b o=>W.cell? ⟨b,o,none⟩
theorem zj9b [LoopKit] {P:Program} {κ:Ctx} {f:FuncId} {Ds:List D} {args:List Value} {W:World} {σ':Store} (hY:isY f=false) (hn:κ.n≤W.heap.size) (hK:κ.K W) (hC:zdk P κ f Ds σ0 (.ret ⟨false,.bool true⟩) σ') (hr:RepL (zm3 W) (fun _=>none) Ds args) :
  Calls P f ⟨args⟩ W fun e W'=>e=.returned (.bool true)∧Below W.heap.size W W':=by
 refine (((zcd hY).1 hC).2 (zm3 W) (fun _=>none) (fun _=>none) W args (fun _ _ h=>by cases h) ⟨hn,fun _ _=>rfl,hK⟩ ⟨fun _ _ _ h=>h,(fun _ _ h=>by cases h),(fun _ _ h=>by cases h),(fun _ _ _ h=>by cases h),(fun _ _ h=>by cases h),(fun _ _ h=>by cases h),(fun _ _ h=>by cases h)⟩ hr).mono ?_
 rintro e W' ⟨ι',j',own',k1,k2,k3,k4⟩
 cases e with
 | returned v =>
  have hv:=k4.1
  simp only [Rep] at hv
  rw [hv]
  exact ⟨rfl,⟨k2.os,k2.tape,k2.output,k2.size,fun b hb=>(k2.block b hb fun _ h=>by cases h).1⟩⟩
 | panicked c=>exact k4.elim
 | outgrown=>exact k4.elim
def zqs (k:RowK) (d:D) (xs:List Int):Prop:=d=.list k (xs.map fun x=>.int .i64 x)∨(xs=[]∧d=.nils)
theorem zaeb {n:Int} (h:(Lit.int .i64 n).wf=true):-9223372036854775808≤n∧n≤9223372036854775807:=by
 have e1:IntKind.i64.min=-9223372036854775808:=rfl
 have e2:IntKind.i64.max=9223372036854775807:=rfl
 simpa [Lit.wf,e1,e2] using h
theorem zpj {W:World} {k:RowK} (hk:k.sz=1) {b:Nat}:∀ (xs:List Int) (o:Nat),(∀ i,i < xs.length→W.cell? ⟨b,o + i,none⟩=some (.int .i64 (xs.getD i 0)))→zas (zm3 W) (fun _=>none) k.sz (xs.map fun x=>.int .i64 x) b o
 | [],_,_=>by simp [zas]
 | x :: xs,o,h=>by
  simp only [List.map_cons,zas]
  refine ⟨⟨.int .i64 x,fun i y hy=>?_,by rw [hk]; rfl,by simp [Rep]⟩,zpj hk xs (o + k.sz) fun i hi=>?_⟩
  ·cases i with
   | zero =>
    simp [Value.cells] at hy
    subst hy
    have:=h 0 (by simp)
    simpa [zm3] using this
   | succ i=>simp [Value.cells] at hy
  ·have:=h (i + 1) (by simpa using hi)
   rw [hk,show o + 1 + i=o + (i + 1) by omega]
   simpa using this
theorem zxq {H:Type} {enc:TypeId × Value→H} {P:Program} {W:World} {t e:TypeId} {v:Value} {d0:DataW H} {p:List MemPlace} (ht:P.underlying t=some (.slice e)) (he:P.underlying e=some (.int .i64)) (hc:P.cellsOf e=1) {base:Nat} (hval:Value.okWide P W .any base t v)
  (h:DataW.Trod enc P W 0 (fun _=>true) true t v d0 p) (k:RowK) (hk:k.sz=1):∃ d xs,zqs k d xs∧(∀ x∈xs,-9223372036854775808≤x∧x≤9223372036854775807)∧Rep (zm3 W) (fun _=>none) d v:=by
 obtain ⟨a0,len,cap,rfl⟩:=okWide_slice ht hval
 obtain ⟨fuel,hf⟩:=h
 rcases open_ints ht he hc hf with ⟨hcs,hx⟩ | ⟨a,len',cap',zs,hcs,_,hl,hm,hz,hx,hcell,hwz⟩
 ·simp [Value.cells] at hcs
  obtain ⟨rfl,rfl,rfl⟩:=hcs
  exact ⟨.nils,[],.inr ⟨rfl,rfl⟩,(fun x hx=>by cases hx),by simp [Rep]⟩
 ·simp [Value.cells] at hcs
  obtain ⟨rfl,rfl,rfl⟩:=hcs
  simp only [if_true] at hz
  have hlen:(zs.take len).length=len:=by simp; omega
  refine ⟨.list k ((zs.take len).map fun x=>.int .i64 x),zs.take len,.inl rfl,fun x hx=>zaeb (hwz x (List.mem_of_mem_take hx)),?_⟩
  simp only [Rep]
  refine ⟨some a,cap,by rw [List.length_map,hlen],by rw [List.length_map,hlen]; exact hl,hm,?_⟩
  by_cases h0:len=0
  ·left; subst h0; simp
  ·right
   obtain ⟨b,off,spot⟩:=a
   have hspot:spot=none:=by simpa [Addr.add] using World.cell?_spot (hcell 0 (by omega))
   subst hspot
   refine ⟨b,off,rfl,zpj hk _ _ fun i hi=>?_⟩
   rw [hlen] at hi
   have:=hcell i (by omega)
   rw [add_plain] at this
   rw [this,List.getD_eq_getElem?_getD,List.getD_eq_getElem?_getD,List.getElem?_take_of_lt hi]
end Go.Mx
namespace Go.Proofs
open Go.Shelf
open Go.Lib in
open Go.Lib in
open Go.Lib in
open Go.Lib in
open Go.RowKit Go.Sort Go.Lib in
open Go.RowKit Go.Sort Go.Lib in
open Go.RowKit Go.Sort Go.Lib in
open Go.RowKit Go.Sort Go.Lib in
open Go.RowKit Go.Sort Go.Lib in
def Tryz.laysM171_ren : Go.Shelf.Ren := ⟨fun | 171 => 33 | 243 => 84 | 246 => 124 | 283 => 151 | 284 => 152 | 285 => 153 | 286 => 154 | 129 => 174 | 317 => 173 | 318 => 175 | 319 => 176 | 320 => 177 | 337 => 182 | 338 => 183 | n => n, fun | 3 => 3 | 9 => 9 | 2 => 2 | 4 => 4 | 171 => 215 | 0 => 0 | 53 => 216 | 37 => 170 | 5 => 5 | 173 => 219 | 212 => 244 | 51 => 245 | 20 => 20 | 213 => 246 | 46 => 242 | 232 => 255 | 233 => 256 | n => n, fun | 17 => 0 | 18 => 2 | 19 => 3 | n => n⟩
theorem Tryz.laysM171 : Go.Proofs.LaysM.n171 Tryz.prog Tryz.laysM171_ren := {
  mixed := by kernel_rfl
  f129 := Tryz.func174.trans (congrArg some (by kernel_rfl))
  f171 := Tryz.func33.trans (congrArg some (by kernel_rfl))
  f243 := Tryz.func84.trans (congrArg some (by kernel_rfl))
  f246 := Tryz.func124.trans (congrArg some (by kernel_rfl))
  f283 := Tryz.func151.trans (congrArg some (by kernel_rfl))
  f284 := Tryz.func152.trans (congrArg some (by kernel_rfl))
  f285 := Tryz.func153.trans (congrArg some (by kernel_rfl))
  f286 := Tryz.func154.trans (congrArg some (by kernel_rfl))
  f317 := Tryz.func173.trans (congrArg some (by kernel_rfl))
  f318 := Tryz.func175.trans (congrArg some (by kernel_rfl))
  f319 := Tryz.func176.trans (congrArg some (by kernel_rfl))
  f320 := Tryz.func177.trans (congrArg some (by kernel_rfl))
  f337 := Tryz.func182.trans (congrArg some (by kernel_rfl))
  f338 := Tryz.func183.trans (congrArg some (by kernel_rfl))
  t0 := Tryz.underlying0
  a0 := Tryz.isAgg0
  z0 := Tryz.sizeOf0
  v0 := Tryz.zeroValue0
  t2 := Tryz.underlying2
  a2 := Tryz.isAgg2
  z2 := Tryz.sizeOf2
  v2 := Tryz.zeroValue2
  t3 := Tryz.underlying3
  a3 := Tryz.isAgg3
  z3 := Tryz.sizeOf3
  v3 := Tryz.zeroValue3
  t4 := Tryz.underlying4
  a4 := Tryz.isAgg4
  z4 := Tryz.sizeOf4
  v4 := Tryz.zeroValue4
  t5 := Tryz.underlying5
  a5 := Tryz.isAgg5
  z5 := Tryz.sizeOf5
  v5 := Tryz.zeroValue5
  t9 := Tryz.underlying9
  a9 := Tryz.isAgg9
  z9 := Tryz.sizeOf9
  v9 := Tryz.zeroValue9
  t20 := Tryz.underlying20
  a20 := Tryz.isAgg20
  z20 := Tryz.sizeOf20
  v20 := Tryz.zeroValue20
  t37 := Tryz.underlying170
  a37 := Tryz.isAgg170
  z37 := Tryz.sizeOf170
  v37 := Tryz.zeroValue170
  t46 := Tryz.underlying242
  a46 := Tryz.isAgg242
  z46 := Tryz.sizeOf242
  v46 := Tryz.zeroValue242
  t51 := Tryz.underlying245
  a51 := Tryz.isAgg245
  z51 := Tryz.sizeOf245
  v51 := Tryz.zeroValue245
  t53 := Tryz.underlying216
  a53 := Tryz.isAgg216
  z53 := Tryz.sizeOf216
  v53 := Tryz.zeroValue216
  t171 := Tryz.underlying215
  a171 := Tryz.isAgg215
  z171 := Tryz.sizeOf215
  v171 := Tryz.zeroValue215
  t173 := Tryz.underlying219
  a173 := Tryz.isAgg219
  z173 := Tryz.sizeOf219
  v173 := Tryz.zeroValue219
  t212 := Tryz.underlying244
  a212 := Tryz.isAgg244
  z212 := Tryz.sizeOf244
  v212 := Tryz.zeroValue244
  t213 := Tryz.underlying246
  a213 := Tryz.isAgg246
  z213 := Tryz.sizeOf246
  t232 := Tryz.underlying255
  a232 := Tryz.isAgg255
  z232 := Tryz.sizeOf255
  v232 := Tryz.zeroValue255
  t233 := Tryz.underlying256
  a233 := Tryz.isAgg256
  z233 := Tryz.sizeOf256
  v233 := Tryz.zeroValue256
  g17 := by kernel_rfl
  g18 := by kernel_rfl
  g19 := by kernel_rfl
  i0 := by kernel_rfl
  i2 := by kernel_rfl
  i3 := by kernel_rfl
  i4 := by kernel_rfl
  i5 := by kernel_rfl
  i9 := by kernel_rfl
  i20 := by kernel_rfl
  i37 := by kernel_rfl
  i46 := by kernel_rfl
  i51 := by kernel_rfl
  i53 := by kernel_rfl
  i171 := by kernel_rfl
  i173 := by kernel_rfl
  i212 := by kernel_rfl
  i232 := by kernel_rfl
  i233 := by kernel_rfl
  m17 := by kernel_rfl
  m18 := by kernel_rfl
  m19 := by kernel_rfl }
open Go.RowKit Go.Sort Go.Lib in
theorem Tryz.strconv_Itoa (n : Int) (h0 : -9223372036854775808 ≤ n) (h1 : n ≤ 9223372036854775807) (w : World) (htab : Lib.TabIs Tryz.prog w "internal/strconv.uint64pow10" .u64 Lib.pow10Tab) :
    Calls Tryz.prog 33 #[.int .i64 n] w fun e w' => e = .returned (.string ⟨(Lib.itoa n).toArray⟩) ∧ ∃ k os, w' = grow (w.drewN k) os := Any.strconv_Itoa Tryz.laysM171 n h0 h1 w htab
end Go.Proofs
namespace Go.Fu
open Go Go.Mx
def n_103 : FuncId := 7
def n_126 : FuncId := 8
def n_51 : FuncId := 9
def n_64 : FuncId := 10
def n_63 : FuncId := 11
def n_194 : FuncId := 12
def n_120 : FuncId := 13
def n_202 : FuncId := 14
def n_62 : FuncId := 15
def n_40 : FuncId := 16
def n_99 : FuncId := 17
def n_275 : FuncId := 23
def n_73 : FuncId := 25
def n_193 : FuncId := 27
def n_192 : FuncId := 28
def n_4 : FuncId := 29
def n_191 : FuncId := 30
def n_118 : FuncId := 31
def n_25 : FuncId := 32
def n_23 : FuncId := 33
def n_48 : FuncId := 34
def n_31 : FuncId := 35
def n_102 : FuncId := 36
def n_50 : FuncId := 37
def n_21 : FuncId := 38
def n_49 : FuncId := 39
def n_14 : FuncId := 40
def n_224 : FuncId := 41
def n_223 : FuncId := 42
def n_199 : FuncId := 43
def n_190 : FuncId := 44
def n_107 : FuncId := 45
def n_68 : FuncId := 46
def n_203 : FuncId := 47
def n_32 : FuncId := 48
def n_277 : FuncId := 49
def n_67 : FuncId := 50
def n_198 : FuncId := 51
def n_221 : FuncId := 52
def n_26 : FuncId := 63
def n_177 : FuncId := 68
def n_65 : FuncId := 69
def n_176 : FuncId := 70
def n_222 : FuncId := 71
def n_66 : FuncId := 72
def n_122 : FuncId := 73
def n_75 : FuncId := 74
def n_74 : FuncId := 75
def n_8 : FuncId := 78
def n_117 : FuncId := 79
def n_220 : FuncId := 80
def n_13 : FuncId := 81
def n_7 : FuncId := 82
def n_175 : FuncId := 83
def n_121 : FuncId := 85
def n_218 : FuncId := 86
def n_188 : FuncId := 87
def n_125 : FuncId := 88
def n_106 : FuncId := 89
def n_181 : FuncId := 91
def n_11 : FuncId := 92
def n_39 : FuncId := 93
def n_276 : FuncId := 94
def n_101 : FuncId := 104
def n_278 : FuncId := 109
def n_24 : FuncId := 113
def n_76 : FuncId := 114
def n_16 : FuncId := 115
def n_9 : FuncId := 116
def n_38 : FuncId := 117
def n_116 : FuncId := 118
def n_196 : FuncId := 120
def n_30 : FuncId := 121
def n_100 : FuncId := 122
def n_119 : FuncId := 123
def n_189 : FuncId := 125
def n_17 : FuncId := 126
def n_201 : FuncId := 127
def n_127 : FuncId := 128
def n_182 : FuncId := 129
def n_180 : FuncId := 130
def n_197 : FuncId := 131
def n_124 : FuncId := 132
def n_179 : FuncId := 148
def n_123 : FuncId := 149
def n_225 : FuncId := 150
def n_105 : FuncId := 155
def n_200 : FuncId := 156
def n_195 : FuncId := 157
def n_183 : FuncId := 158
def n_77 : FuncId := 159
def n_104 : FuncId := 160
def n_178 : FuncId := 178
def n_219 : FuncId := 3
def k_168 : RowK := ⟨94, 2, true⟩
theorem k_242 : k_168.sz = 2 := rfl
theorem k_240 : k_168.ag = true := rfl
theorem k_241 : k_168.same k_168 = true := rfl
def k_169 : RowK := ⟨113, 6, true⟩
theorem k_245 : k_169.sz = 6 := rfl
theorem k_243 : k_169.ag = true := rfl
theorem k_244 : k_169.same k_169 = true := rfl
def k_170 : RowK := ⟨105, 3, true⟩
theorem k_248 : k_170.sz = 3 := rfl
theorem k_246 : k_170.ag = true := rfl
theorem k_247 : k_170.same k_170 = true := rfl
def k_171 : RowK := ⟨129, 6, true⟩
theorem k_251 : k_171.sz = 6 := rfl
theorem k_249 : k_171.ag = true := rfl
theorem k_250 : k_171.same k_171 = true := rfl
def k_5 : RowK := ⟨69, 1, true⟩
theorem k_254 : k_5.sz = 1 := rfl
theorem k_252 : k_5.ag = true := rfl
theorem k_253 : k_5.same k_5 = true := rfl
def k_1 : RowK := ⟨78, 5, true⟩
theorem k_61 : k_1.sz = 5 := rfl
theorem k_255 : k_1.ag = true := rfl
theorem k_256 : k_1.same k_1 = true := rfl
def k_172 : RowK := ⟨30, 7, true⟩
theorem k_259 : k_172.sz = 7 := rfl
theorem k_257 : k_172.ag = true := rfl
theorem k_258 : k_172.same k_172 = true := rfl
def k_173 : RowK := ⟨165, 9, true⟩
theorem k_262 : k_173.sz = 9 := rfl
theorem k_260 : k_173.ag = true := rfl
theorem k_261 : k_173.same k_173 = true := rfl
def k_2 : RowK := ⟨28, 4, true⟩
theorem k_264 : k_2.sz = 4 := rfl
theorem k_217 : k_2.ag = true := rfl
theorem k_263 : k_2.same k_2 = true := rfl
def k_174 : RowK := ⟨204, 2, true⟩
theorem k_267 : k_174.sz = 2 := rfl
theorem k_265 : k_174.ag = true := rfl
theorem k_266 : k_174.same k_174 = true := rfl
def k_int : RowK := ⟨3, 1, false⟩
theorem k_98 : k_int.sz = 1 := rfl
theorem k_268 : k_int.ag = false := rfl
theorem k_269 : k_int.same k_int = true := rfl
def k_0 : RowK := ⟨9, 1, false⟩
theorem k_47 : k_0.sz = 1 := rfl
theorem k_270 : k_0.ag = false := rfl
theorem k_271 : k_0.same k_0 = true := rfl
def k_37 : RowK := ⟨5, 1, false⟩
theorem k_274 : k_37.sz = 1 := rfl
theorem k_272 : k_37.ag = false := rfl
theorem k_273 : k_37.same k_37 = true := rfl
def t_int : Nat := 3
def t_227 : Nat := 9
def t_204 : Nat := 22
def t_52 : Nat := 30
def t_129 : Nat := 32
def t_226 : Nat := 71
def t_184 : Nat := 73
def t_128 : Nat := 117
def t_12 : Nat := 189
end Go.Fu
