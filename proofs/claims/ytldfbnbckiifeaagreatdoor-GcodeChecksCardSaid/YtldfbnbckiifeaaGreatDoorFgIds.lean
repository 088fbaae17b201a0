/-
 From what the machine answers to a law's row: the arguments read az the machine's data,all memory there is is read alone; behind the call it stands az it stood.
-/
import Derived.OpenShut
import Derived.Carry
import Derived.ChangeSlices
import Derived.ChangeSame
import Derived.Deep.DeepHandedRow
import Derived.Stop.LaidErr
import Derived.Deep.DeepLaidRun
import Derived.Lib.LaidTab
import Derived.Test.YtldfbnbckiifeaaGreatDoorMyFrame
import Derived.Shelf.Small.Bits
import Derived.Shelf.Strconv.Itoa0
import Derived.Shelf.Strconv.Itoa1
import Derived.Shelf.LaysM
import Derived.Shelf.Strconv.Itoa2
import Derived.Shelf.Strconv.Itoa3
import Derived.Ground.Names2Prog
import Derived.Ground.SlgnProg
import Derived.Test.YtldfbnbckiifeaaGreatDoorProg
set_option linter.unusedSimpArgs false
set_option linter.unusedVariables false
set_option linter.unusedSectionVars false
namespace Go.Mx
open Go Go.ChangeShapes Go.WideShapes Go.RowKit
theorem zmx {H:Type} {enc:TypeId × Value→H} {P:Program} (hl:laidOutB P=true) {W W':World} (hb:Below W.heap.size W W'):∀ {ts:List TypeId} {vs:List Value} {ds:List (DataW H)} {ps:List MemPlace},(∀ t∈ts,P.readableRec t=true∧t < P.types.size) →
  DataW.TrodAll enc P W 0 (fun _=>true) true ts vs ds ps→(∀ x∈ps,x.block < W.heap.size)→DataW.TrodAll enc P W' 0 (fun b=>decide (b < W.heap.size)) true ts vs ds ps
 | [],vs,ds,ps,_,h,_=>by
  obtain ⟨rfl,rfl,rfl⟩:=trodAll_nil h
  exact trodAll_mk0
 | t :: ts,vs,ds,ps,ht,h,hlt=>by
  obtain ⟨v,vs',d,ds',p,q,rfl,rfl,rfl,h1,h2⟩:=trodAll_cons h
  obtain ⟨hr,hs⟩:=ht t (List.mem_cons_self ..)
  exact trodAll_cons_mk (Below.trod hl hr hs h1 hb fun x hx=>hlt x (List.mem_append_left _ hx)) (zmx hl hb (fun u hu=>ht u (List.mem_cons_of_mem _ hu)) h2 fun x hx=>hlt x (List.mem_append_right _ hx))
theorem zglb {H:Type} {enc:TypeId × Value→H} {P:Program} {f:Func} {s:ChangeSpec} {fresh handsOn:Bool} {W W':World} {args:Array Value} {ds:List (DataW H)} {before:List MemPlace} (hl:laidOutB P=true) (hb:Below W.heap.size W W')
  (hv:s.vars=[]) (hps:∀ t∈f.params.toList,P.readableRec t=true∧t < P.types.size) (hW:DataW.Whole enc P f.params.toList s.vars false W args.toList ds [] before) (hA:DataW.TrodAll enc P W 0 (fun _=>true) true f.params.toList args.toList ds before)
  {tb:TypeId} (hres:f.resultTypes.toList=[tb]) (htb:P.underlying tb=some .bool) (hrf:(s.fn H (ds ++ [])).results=[.lit (.bool true)]) (haf:(s.fn H (ds ++ [])).args=ds) (hvf:(s.fn H (ds ++ [])).vars=[]) :
  s.post enc P f false fresh handsOn false W args (.bool true) W':=by
 have hlt:∀ x∈before,x.block < W.heap.size:=fun x hx=>hW.lt x hx
 have hsz:f.resultTypes.size=1:=by
  have:=congrArg List.length hres
  simpa using this
 refine ⟨ds,[],before,[],before,[],hW,?_,?_,?_,hb.frame _,fun h=>by cases h⟩
 ·rw [hres,hrf,hsz]
  exact trodAll_cons_mk (shut_bool htb true) trodAll_mk0
 ·rw [haf]
  exact zmx hl hb hps hA hlt
 ·rw [hv,hvf]
  rfl
def zk2 (W:World):Imm:=fun b o=>W.cell? ⟨b,o,none⟩
theorem zihb [LoopKit] {P:Program} {κ:Ctx} {f:FuncId} {Ds:List D} {args:List Value} {W:World} {σ':Store} (hY:isY f=false) (hn:κ.n≤W.heap.size) (hK:κ.K W) (hC:zc9 P κ f Ds σ0 (.ret ⟨false,.bool true⟩) σ') (hr:RepL (zk2 W) (fun _=>none) Ds args) :
  Calls P f ⟨args⟩ W fun e W'=>e=.returned (.bool true)∧Below W.heap.size W W':=by
 refine (((zcq hY).1 hC).2 (zk2 W) (fun _=>none) (fun _=>none) W args (fun _ _ h=>by cases h) ⟨hn,fun _ _=>rfl,hK⟩ ⟨fun _ _ _ h=>h,(fun _ _ h=>by cases h),(fun _ _ h=>by cases h),(fun _ _ _ h=>by cases h),(fun _ _ h=>by cases h),(fun _ _ h=>by cases h),(fun _ _ h=>by cases h)⟩ hr).mono ?_
 rintro e W' ⟨ι',j',own',k1,k2,k3,k4⟩
 cases e with
 | returned v =>
  have hv:=k4.1
  simp only [Rep] at hv
  rw [hv]
  exact ⟨rfl,⟨k2.os,k2.tape,k2.output,k2.size,fun b hb=>(k2.block b hb fun _ h=>by cases h).1⟩⟩
 | panicked c=>exact k4.elim
 | outgrown=>exact k4.elim
def zu0 (k:RowK) (d:D) (xs:List Int):Prop:=d=.list k (xs.map fun x=>.int .i64 x)∨(xs=[]∧d=.nils)
theorem zpc {n:Int} (h:(Lit.int .i64 n).wf=true):-9223372036854775808≤n∧n≤9223372036854775807:=by
 have e1:IntKind.i64.min=-9223372036854775808:=rfl
 have e2:IntKind.i64.max=9223372036854775807:=rfl
 simpa [Lit.wf,e1,e2] using h
theorem zo9 {W:World} {k:RowK} (hk:k.sz=1) {b:Nat}:∀ (xs:List Int) (o:Nat),(∀ i,i < xs.length→W.cell? ⟨b,o + i,none⟩=some (.int .i64 (xs.getD i 0)))→zaz (zk2 W) (fun _=>none) k.sz (xs.map fun x=>.int .i64 x) b o
 | [],_,_=>by simp [zaz]
 | x :: xs,o,h=>by
  simp only [List.map_cons,zaz]
  refine ⟨⟨.int .i64 x,fun i y hy=>?_,by rw [hk]; rfl,by simp [Rep]⟩,zo9 hk xs (o + k.sz) fun i hi=>?_⟩
  ·cases i with
   | zero =>
    simp [Value.cells] at hy
    subst hy
    have:=h 0 (by simp)
    simpa [zk2] using this
   | succ i=>simp [Value.cells] at hy
  ·have:=h (i + 1) (by simpa using hi)
   rw [hk,show o + 1 + i=o + (i + 1) by omega]
   simpa using this
theorem zi8b {H:Type} {enc:TypeId × Value→H} {P:Program} {W:World} {t e:TypeId} {v:Value} {d0:DataW H} {p:List MemPlace} (ht:P.underlying t=some (.slice e)) (he:P.underlying e=some (.int .i64)) (hc:P.cellsOf e=1) {base:Nat} (hval:Value.okWide P W .any base t v)
  (h:DataW.Trod enc P W 0 (fun _=>true) true t v d0 p) (k:RowK) (hk:k.sz=1):∃ d xs,zu0 k d xs∧(∀ x∈xs,-9223372036854775808≤x∧x≤9223372036854775807)∧Rep (zk2 W) (fun _=>none) d v:=by
 obtain ⟨a0,len,cap,rfl⟩:=okWide_slice ht hval
 obtain ⟨fuel,hf⟩:=h
 rcases open_ints ht he hc hf with ⟨hcs,hx⟩ | ⟨a,len',cap',zs,hcs,_,hl,hm,hz,hx,hcell,hwz⟩
 ·simp [Value.cells] at hcs
  obtain ⟨rfl,rfl,rfl⟩:=hcs
  exact ⟨.nils,[],.inr ⟨rfl,rfl⟩,(fun x hx=>by cases hx),by simp [Rep]⟩
 ·simp [Value.cells] at hcs
  obtain ⟨rfl,rfl,rfl⟩:=hcs
  simp only [if_true] at hz
  have hlen:(zs.take len).length=len:=by simp; omega
  refine ⟨.list k ((zs.take len).map fun x=>.int .i64 x),zs.take len,.inl rfl,fun x hx=>zpc (hwz x (List.mem_of_mem_take hx)),?_⟩
  simp only [Rep]
  refine ⟨some a,cap,by rw [List.length_map,hlen],by rw [List.length_map,hlen]; exact hl,hm,?_⟩
  by_cases h0:len=0
  ·left; subst h0; simp
  ·right
   obtain ⟨b,off,spot⟩:=a
   have hspot:spot=none:=by simpa [Addr.add] using World.cell?_spot (hcell 0 (by omega))
   subst hspot
   refine ⟨b,off,rfl,zo9 hk _ _ fun i hi=>?_⟩
   rw [hlen] at hi
   have:=hcell i (by omega)
   rw [add_plain] at this
   rw [this,List.getD_eq_getElem?_getD,List.getD_eq_getElem?_getD,List.getElem?_take_of_lt hi]
theorem zsl {H:Type} {enc:TypeId × Value→H} {P:Program} {W:World} {t:TypeId} {v:Value} {d0:DataW H} {p:List MemPlace} (ht:P.underlying t=some (.int .i64)) {base:Nat} (hval:Value.okWide P W .any base t v)
  (h:DataW.Trod enc P W 0 (fun _=>true) true t v d0 p):∃ n,(-9223372036854775808≤n∧n≤9223372036854775807)∧Rep (zk2 W) (fun _=>none) (.int .i64 n) v:=by
 obtain ⟨n,rfl,_,_,hw⟩:=open_int ht hval h
 exact ⟨n,zpc hw,by simp [Rep]⟩
end Go.Mx
namespace Go.Proofs
open Go.Shelf
open Go.Lib in
open Go.Lib in
open Go.Lib in
open Go.Lib in
open Go.RowKit Go.Sort Go.Lib in
open Go.RowKit Go.Sort Go.Lib in
open Go.RowKit Go.Sort Go.Lib in
open Go.RowKit Go.Sort Go.Lib in
open Go.RowKit Go.Sort Go.Lib in
def Tryz.laysM171_ren:Go.Shelf.Ren:=⟨fun | 171=>30 | 243=>67 | 246=>118 | 283=>143 | 284=>144 | 285=>145 | 286=>146 | 129=>160 | 317=>159 | 318=>161 | 319=>162 | 320=>163 | 337=>177 | 338=>178 | n=>n,fun | 3=>3 | 9=>9 | 2=>2 | 4=>4 | 171=>182 | 0=>0 | 53=>183 | 37=>68 | 5=>5 | 173=>186 | 212=>199 | 51=>200 | 20=>20 | 213=>201 | 46=>191 | 232=>230 | 233=>231 | n=>n,fun | 17=>0 | 18=>1 | 19=>2 | n=>n⟩
theorem Tryz.laysM171:Go.Proofs.LaysM.n171 Tryz.prog Tryz.laysM171_ren:={
 mixed:=by kernel_rfl
 f129:=Tryz.func160.trans (congrArg some (by kernel_rfl))
 f171:=Tryz.func30.trans (congrArg some (by kernel_rfl))
 f243:=Tryz.func67.trans (congrArg some (by kernel_rfl))
 f246:=Tryz.func118.trans (congrArg some (by kernel_rfl))
 f283:=Tryz.func143.trans (congrArg some (by kernel_rfl))
 f284:=Tryz.func144.trans (congrArg some (by kernel_rfl))
 f285:=Tryz.func145.trans (congrArg some (by kernel_rfl))
 f286:=Tryz.func146.trans (congrArg some (by kernel_rfl))
 f317:=Tryz.func159.trans (congrArg some (by kernel_rfl))
 f318:=Tryz.func161.trans (congrArg some (by kernel_rfl))
 f319:=Tryz.func162.trans (congrArg some (by kernel_rfl))
 f320:=Tryz.func163.trans (congrArg some (by kernel_rfl))
 f337:=Tryz.func177.trans (congrArg some (by kernel_rfl))
 f338:=Tryz.func178.trans (congrArg some (by kernel_rfl))
 t0:=Tryz.underlying0
 a0:=Tryz.isAgg0
 z0:=Tryz.sizeOf0
 v0:=Tryz.zeroValue0
 t2:=Tryz.underlying2
 a2:=Tryz.isAgg2
 z2:=Tryz.sizeOf2
 v2:=Tryz.zeroValue2
 t3:=Tryz.underlying3
 a3:=Tryz.isAgg3
 z3:=Tryz.sizeOf3
 v3:=Tryz.zeroValue3
 t4:=Tryz.underlying4
 a4:=Tryz.isAgg4
 z4:=Tryz.sizeOf4
 v4:=Tryz.zeroValue4
 t5:=Tryz.underlying5
 a5:=Tryz.isAgg5
 z5:=Tryz.sizeOf5
 v5:=Tryz.zeroValue5
 t9:=Tryz.underlying9
 a9:=Tryz.isAgg9
 z9:=Tryz.sizeOf9
 v9:=Tryz.zeroValue9
 t20:=Tryz.underlying20
 a20:=Tryz.isAgg20
 z20:=Tryz.sizeOf20
 v20:=Tryz.zeroValue20
 t37:=Tryz.underlying68
 a37:=Tryz.isAgg68
 z37:=Tryz.sizeOf68
 v37:=Tryz.zeroValue68
 t46:=Tryz.underlying191
 a46:=Tryz.isAgg191
 z46:=Tryz.sizeOf191
 v46:=Tryz.zeroValue191
 t51:=Tryz.underlying200
 a51:=Tryz.isAgg200
 z51:=Tryz.sizeOf200
 v51:=Tryz.zeroValue200
 t53:=Tryz.underlying183
 a53:=Tryz.isAgg183
 z53:=Tryz.sizeOf183
 v53:=Tryz.zeroValue183
 t171:=Tryz.underlying182
 a171:=Tryz.isAgg182
 z171:=Tryz.sizeOf182
 v171:=Tryz.zeroValue182
 t173:=Tryz.underlying186
 a173:=Tryz.isAgg186
 z173:=Tryz.sizeOf186
 v173:=Tryz.zeroValue186
 t212:=Tryz.underlying199
 a212:=Tryz.isAgg199
 z212:=Tryz.sizeOf199
 v212:=Tryz.zeroValue199
 t213:=Tryz.underlying201
 a213:=Tryz.isAgg201
 z213:=Tryz.sizeOf201
 t232:=Tryz.underlying230
 a232:=Tryz.isAgg230
 z232:=Tryz.sizeOf230
 v232:=Tryz.zeroValue230
 t233:=Tryz.underlying231
 a233:=Tryz.isAgg231
 z233:=Tryz.sizeOf231
 v233:=Tryz.zeroValue231
 g17:=by kernel_rfl
 g18:=by kernel_rfl
 g19:=by kernel_rfl
 i0:=by kernel_rfl
 i2:=by kernel_rfl
 i3:=by kernel_rfl
 i4:=by kernel_rfl
 i5:=by kernel_rfl
 i9:=by kernel_rfl
 i20:=by kernel_rfl
 i37:=by kernel_rfl
 i46:=by kernel_rfl
 i51:=by kernel_rfl
 i53:=by kernel_rfl
 i171:=by kernel_rfl
 i173:=by kernel_rfl
 i212:=by kernel_rfl
 i232:=by kernel_rfl
 i233:=by kernel_rfl
 m17:=by kernel_rfl
 m18:=by kernel_rfl
 m19:=by kernel_rfl}
open Go.RowKit Go.Sort Go.Lib in
theorem Tryz.strconv_Itoa (n:Int) (h0:-9223372036854775808≤n) (h1:n≤9223372036854775807) (w:World) (htab:Lib.TabIs Tryz.prog w "internal/strconv.uint64pow10" .u64 Lib.pow10Tab) :
  Calls Tryz.prog 30 #[.int .i64 n] w fun e w'=>e=.returned (.string ⟨(Lib.itoa n).toArray⟩)∧∃ k os,w'=grow (w.drewN k) os:=Any.strconv_Itoa Tryz.laysM171 n h0 h1 w htab
end Go.Proofs
namespace Go.Fu
open Go Go.Mx
def n_148:FuncId:=9
def n_17:FuncId:=10
def n_149:FuncId:=11
def n_74:FuncId:=12
def n_255:FuncId:=13
def n_331:FuncId:=14
def n_132:FuncId:=15
def n_88:FuncId:=16
def n_56:FuncId:=17
def n_298:FuncId:=19
def n_150:FuncId:=22
def n_43:FuncId:=23
def n_14:FuncId:=24
def n_75:FuncId:=25
def n_21:FuncId:=26
def n_12:FuncId:=27
def n_3:FuncId:=28
def n_159:FuncId:=29
def n_92:FuncId:=30
def n_311:FuncId:=31
def n_348:FuncId:=32
def n_158:FuncId:=33
def n_31:FuncId:=34
def n_332:FuncId:=35
def n_26:FuncId:=36
def n_18:FuncId:=37
def n_45:FuncId:=38
def n_147:FuncId:=39
def n_41:FuncId:=40
def n_186:FuncId:=41
def n_16:FuncId:=42
def n_187:FuncId:=43
def n_87:FuncId:=44
def n_42:FuncId:=45
def n_157:FuncId:=46
def n_199:FuncId:=47
def n_317:FuncId:=48
def n_57:FuncId:=49
def n_257:FuncId:=50
def n_299:FuncId:=51
def n_154:FuncId:=53
def n_78:FuncId:=54
def n_76:FuncId:=55
def n_79:FuncId:=56
def n_29:FuncId:=57
def n_47:FuncId:=58
def n_6:FuncId:=59
def n_7:FuncId:=60
def n_11:FuncId:=61
def n_15:FuncId:=62
def n_89:FuncId:=63
def n_134:FuncId:=64
def n_151:FuncId:=65
def n_93:FuncId:=66
def n_135:FuncId:=68
def n_77:FuncId:=69
def n_137:FuncId:=70
def n_9:FuncId:=71
def n_190:FuncId:=72
def n_131:FuncId:=73
def n_20:FuncId:=74
def n_260:FuncId:=75
def n_261:FuncId:=76
def n_58:FuncId:=77
def n_136:FuncId:=78
def n_192:FuncId:=79
def n_200:FuncId:=80
def n_318:FuncId:=81
def n_259:FuncId:=82
def n_319:FuncId:=83
def n_189:FuncId:=84
def n_310:FuncId:=85
def n_315:FuncId:=86
def n_320:FuncId:=87
def n_196:FuncId:=88
def n_194:FuncId:=89
def n_198:FuncId:=90
def n_321:FuncId:=91
def n_322:FuncId:=92
def n_323:FuncId:=93
def n_324:FuncId:=95
def n_325:FuncId:=96
def n_313:FuncId:=97
def n_156:FuncId:=98
def n_309:FuncId:=99
def n_307:FuncId:=100
def n_191:FuncId:=101
def n_339:FuncId:=102
def n_305:FuncId:=103
def n_300:FuncId:=104
def n_195:FuncId:=105
def n_25:FuncId:=106
def n_197:FuncId:=107
def n_36:FuncId:=108
def n_46:FuncId:=109
def n_35:FuncId:=110
def n_44:FuncId:=111
def n_152:FuncId:=112
def n_19:FuncId:=113
def n_90:FuncId:=114
def n_91:FuncId:=115
def n_133:FuncId:=116
def n_258:FuncId:=119
def n_59:FuncId:=120
def n_193:FuncId:=121
def n_338:FuncId:=122
def n_337:FuncId:=123
def n_312:FuncId:=124
def n_314:FuncId:=125
def n_336:FuncId:=126
def n_308:FuncId:=127
def n_296:FuncId:=128
def n_297:FuncId:=129
def n_316:FuncId:=130
def n_334:FuncId:=131
def n_335:FuncId:=132
def n_333:FuncId:=133
def n_327:FuncId:=134
def n_306:FuncId:=135
def n_256:FuncId:=136
def n_301:FuncId:=137
def n_303:FuncId:=138
def n_304:FuncId:=139
def n_302:FuncId:=140
def n_188:FuncId:=141
def n_153:FuncId:=142
def n_155:FuncId:=147
def n_201:FuncId:=148
def n_328:FuncId:=149
def n_330:FuncId:=160
def n_343:FuncId:=164
def n_342:FuncId:=165
def n_340:FuncId:=166
def n_341:FuncId:=167
def n_347:FuncId:=168
def n_344:FuncId:=169
def n_254:FuncId:=170
def n_345:FuncId:=171
def n_346:FuncId:=172
def n_329:FuncId:=173
def n_326:FuncId:=4
def k_55:RowK:=⟨39,1,false⟩
def k_23:RowK:=⟨90,14,true⟩
def k_24:RowK:=⟨92,15,true⟩
def k_5:RowK:=⟨52,3,true⟩
def k_8:RowK:=⟨47,10,true⟩
def k_130:RowK:=⟨57,8,true⟩
def k_1:RowK:=⟨59,4,true⟩
def k_13:RowK:=⟨49,12,true⟩
def k_185:RowK:=⟨42,4,true⟩
def zqy:RowK:=⟨1,1,false⟩
def k_int:RowK:=⟨3,1,false⟩
def k_0:RowK:=⟨9,1,false⟩
def k_40:RowK:=⟨5,1,false⟩
def t_265:Nat:=9
def t_262:Nat:=22
def t_202:Nat:=27
def t_349:Nat:=29
def t_48:Nat:=39
def t_350:Nat:=49
def t_263:Nat:=59
def t_27:Nat:=70
def t_203:Nat:=93
def t_204:Nat:=94
def t_264:Nat:=96
def t_351:Nat:=132
def t_352:Nat:=143
def t_353:Nat:=149
def rg (o:List AOper) (c:List Nat):ACode:=.region o none c
def sq (o:List AOper) (c:List Nat) (x:ACode):ACode:=.seq (.region o none c) x
def ml (s t:Nat):AOper:=⟨some s,.load none false (.tmp t),none⟩
def mf (s k t:Nat):AOper:=⟨some s,.fieldAddr k none (.tmp t),none⟩
def ci (n:Int):AOpd:=.const (.int .i64 n)
end Go.Fu
