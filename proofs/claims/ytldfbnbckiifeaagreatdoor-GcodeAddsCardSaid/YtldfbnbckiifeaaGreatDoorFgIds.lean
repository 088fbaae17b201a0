/-
 From what the machine answers to a law's row: the arguments read az the machine's data,all memory there is is read alone; behind the call it stands az it stood.
-/
import Derived.OpenShut
import Derived.Carry
import Derived.ChangeSlices
import Derived.ChangeSame
import Derived.Deep.DeepHandedRow
import Derived.Stop.LaidErr
import Derived.Deep.DeepLaidRun
import Derived.Lib.LaidTab
import Derived.Test.YtldfbnbckiifeaaGreatDoorMyFrame
import Derived.Shelf.Small.Bits
import Derived.Shelf.Strconv.Itoa0
import Derived.Shelf.Strconv.Itoa1
import Derived.Shelf.LaysM
import Derived.Shelf.Strconv.Itoa2
import Derived.Shelf.Strconv.Itoa3
import Derived.Ground.Names2Prog
import Derived.Ground.SlgnProg
import Derived.Test.YtldfbnbckiifeaaGreatDoorProg
set_option linter.unusedSimpArgs false
set_option linter.unusedVariables false
set_option linter.unusedSectionVars false
namespace Go.Mx
open Go Go.ChangeShapes Go.WideShapes Go.RowKit
theorem Im {H:Type} {enc:TypeId × Value→H} {P:Program} (hl:laidOutB P=true) {W W':World} (hb:Below W.heap.size W W'):∀ {ts:List TypeId} {vs:List Value} {ds:List (DataW H)} {ps:List MemPlace},(∀ t∈ts,P.readableRec t=true∧t < P.types.size) →
  DataW.TrodAll enc P W 0 (fun _=>true) true ts vs ds ps→(∀ x∈ps,x.block < W.heap.size)→DataW.TrodAll enc P W' 0 (fun b=>decide (b < W.heap.size)) true ts vs ds ps
 | [],vs,ds,ps,_,h,_=>by
  obtain ⟨rfl,rfl,rfl⟩:=trodAll_nil h
  exact trodAll_mk0
 | t :: ts,vs,ds,ps,ht,h,hlt=>by
  obtain ⟨v,vs',d,ds',p,q,rfl,rfl,rfl,h1,h2⟩:=trodAll_cons h
  obtain ⟨hr,hs⟩:=ht t (List.mem_cons_self ..)
  exact trodAll_cons_mk (Below.trod hl hr hs h1 hb fun x hx=>hlt x (List.mem_append_left _ hx)) (Im hl hb (fun u hu=>ht u (List.mem_cons_of_mem _ hu)) h2 fun x hx=>hlt x (List.mem_append_right _ hx))
theorem zsc {H:Type} {enc:TypeId × Value→H} {P:Program} {f:Func} {s:ChangeSpec} {fresh handsOn:Bool} {W W':World} {args:Array Value} {ds:List (DataW H)} {before:List MemPlace} (hl:laidOutB P=true) (hb:Below W.heap.size W W')
  (hv:s.vars=[]) (hps:∀ t∈f.params.toList,P.readableRec t=true∧t < P.types.size) (hW:DataW.Whole enc P f.params.toList s.vars false W args.toList ds [] before) (hA:DataW.TrodAll enc P W 0 (fun _=>true) true f.params.toList args.toList ds before)
  {tb:TypeId} (hres:f.resultTypes.toList=[tb]) (htb:P.underlying tb=some .bool) (hrf:(s.fn H (ds ++ [])).results=[.lit (.bool true)]) (haf:(s.fn H (ds ++ [])).args=ds) (hvf:(s.fn H (ds ++ [])).vars=[]) :
  s.post enc P f false fresh handsOn false W args (.bool true) W':=by
 have hlt:∀ x∈before,x.block < W.heap.size:=fun x hx=>hW.lt x hx
 have hsz:f.resultTypes.size=1:=by
  have:=congrArg List.length hres
  simpa using this
 refine ⟨ds,[],before,[],before,[],hW,?_,?_,?_,hb.frame _,fun h=>by cases h⟩
 ·rw [hres,hrf,hsz]
  exact trodAll_cons_mk (shut_bool htb true) trodAll_mk0
 ·rw [haf]
  exact Im hl hb hps hA hlt
 ·rw [hv,hvf]
  rfl
def Ce (W:World):Imm:=fun b o=>W.cell? ⟨b,o,none⟩
theorem zuj [LoopKit] {P:Program} {κ:Ctx} {f:FuncId} {Ds:List D} {args:List Value} {W:World} {σ':Store} (hY:isY f=false) (hn:κ.n≤W.heap.size) (hK:κ.K W) (hC:kA P κ f Ds σ0 (.ret ⟨false,.bool true⟩) σ') (hr:aI (Ce W) (fun _=>none) Ds args) :
  Calls P f ⟨args⟩ W fun e W'=>e=.returned (.bool true)∧Below W.heap.size W W':=by
 refine (((iK hY).1 hC).2 (Ce W) (fun _=>none) (fun _=>none) W args (fun _ _ h=>by cases h) ⟨hn,fun _ _=>rfl,hK⟩ ⟨fun _ _ _ h=>h,(fun _ _ h=>by cases h),(fun _ _ h=>by cases h),(fun _ _ _ h=>by cases h),(fun _ _ h=>by cases h),(fun _ _ h=>by cases h),(fun _ _ h=>by cases h)⟩ hr).mono ?_
 rintro e W' ⟨ι',j',own',k1,k2,k3,k4⟩
 cases e with
 | returned v =>
  have hv:=k4.1
  simp only [Rep] at hv
  rw [hv]
  exact ⟨rfl,⟨k2.os,k2.tape,k2.output,k2.size,fun b hb=>(k2.block b hb fun _ h=>by cases h).1⟩⟩
 | panicked c=>exact k4.elim
 | outgrown=>exact k4.elim
def Un (k:RowK) (d:D) (xs:List Int):Prop:=d=.list k (xs.map fun x=>.int .i64 x)∨(xs=[]∧d=.nils)
theorem Qn {n:Int} (h:(Lit.int .i64 n).wf=true):-9223372036854775808≤n∧n≤9223372036854775807:=by
 have e1:IntKind.i64.min=-9223372036854775808:=rfl
 have e2:IntKind.i64.max=9223372036854775807:=rfl
 simpa [Lit.wf,e1,e2] using h
theorem Qk {W:World} {k:RowK} (hk:k.sz=1) {b:Nat}:∀ (xs:List Int) (o:Nat),(∀ i,i < xs.length→W.cell? ⟨b,o + i,none⟩=some (.int .i64 (xs.getD i 0)))→bO (Ce W) (fun _=>none) k.sz (xs.map fun x=>.int .i64 x) b o
 | [],_,_=>by simp [bO]
 | x :: xs,o,h=>by
  simp only [List.map_cons,bO]
  refine ⟨⟨.int .i64 x,fun i y hy=>?_,by rw [hk]; rfl,by simp [Rep]⟩,Qk hk xs (o + k.sz) fun i hi=>?_⟩
  ·cases i with
   | zero =>
    simp [Value.cells] at hy
    subst hy
    have:=h 0 (by simp)
    simpa [Ce] using this
   | succ i=>simp [Value.cells] at hy
  ·have:=h (i + 1) (by simpa using hi)
   rw [hk,show o + 1 + i=o + (i + 1) by omega]
   simpa using this
theorem zve {H:Type} {enc:TypeId × Value→H} {P:Program} {W:World} {t e:TypeId} {v:Value} {d0:DataW H} {p:List MemPlace} (ht:P.underlying t=some (.slice e)) (he:P.underlying e=some (.int .i64)) (hc:P.cellsOf e=1) {base:Nat} (hval:Value.okWide P W .any base t v)
  (h:DataW.Trod enc P W 0 (fun _=>true) true t v d0 p) (k:RowK) (hk:k.sz=1):∃ d xs,Un k d xs∧(∀ x∈xs,-9223372036854775808≤x∧x≤9223372036854775807)∧Rep (Ce W) (fun _=>none) d v:=by
 obtain ⟨a0,len,cap,rfl⟩:=okWide_slice ht hval
 obtain ⟨fuel,hf⟩:=h
 rcases open_ints ht he hc hf with ⟨hcs,hx⟩ | ⟨a,len',cap',zs,hcs,_,hl,hm,hz,hx,hcell,hwz⟩
 ·simp [Value.cells] at hcs
  obtain ⟨rfl,rfl,rfl⟩:=hcs
  exact ⟨.nils,[],.inr ⟨rfl,rfl⟩,(fun x hx=>by cases hx),by simp [Rep]⟩
 ·simp [Value.cells] at hcs
  obtain ⟨rfl,rfl,rfl⟩:=hcs
  simp only [if_true] at hz
  have hlen:(zs.take len).length=len:=by simp; omega
  refine ⟨.list k ((zs.take len).map fun x=>.int .i64 x),zs.take len,.inl rfl,fun x hx=>Qn (hwz x (List.mem_of_mem_take hx)),?_⟩
  simp only [Rep]
  refine ⟨some a,cap,by rw [List.length_map,hlen],by rw [List.length_map,hlen]; exact hl,hm,?_⟩
  by_cases h0:len=0
  ·left; subst h0; simp
  ·right
   obtain ⟨b,off,spot⟩:=a
   have hspot:spot=none:=by simpa [Addr.add] using World.cell?_spot (hcell 0 (by omega))
   subst hspot
   refine ⟨b,off,rfl,Qk hk _ _ fun i hi=>?_⟩
   rw [hlen] at hi
   have:=hcell i (by omega)
   rw [add_plain] at this
   rw [this,List.getD_eq_getElem?_getD,List.getD_eq_getElem?_getD,List.getElem?_take_of_lt hi]
theorem zz4 {H:Type} {enc:TypeId × Value→H} {P:Program} {W:World} {t:TypeId} {v:Value} {d0:DataW H} {p:List MemPlace} (ht:P.underlying t=some (.int .i64)) {base:Nat} (hval:Value.okWide P W .any base t v)
  (h:DataW.Trod enc P W 0 (fun _=>true) true t v d0 p):∃ n,(-9223372036854775808≤n∧n≤9223372036854775807)∧Rep (Ce W) (fun _=>none) (.int .i64 n) v:=by
 obtain ⟨n,rfl,_,_,hw⟩:=open_int ht hval h
 exact ⟨n,Qn hw,by simp [Rep]⟩
end Go.Mx
namespace Go.Proofs
open Go.Shelf
open Go.Lib in
open Go.Lib in
open Go.Lib in
open Go.Lib in
open Go.RowKit Go.Sort Go.Lib in
open Go.RowKit Go.Sort Go.Lib in
open Go.RowKit Go.Sort Go.Lib in
open Go.RowKit Go.Sort Go.Lib in
open Go.RowKit Go.Sort Go.Lib in
def Tryz.laysM171_ren:Go.Shelf.Ren:=⟨fun | 171=>30 | 243=>67 | 246=>118 | 283=>143 | 284=>144 | 285=>145 | 286=>146 | 129=>160 | 317=>159 | 318=>161 | 319=>162 | 320=>163 | 337=>177 | 338=>178 | n=>n,fun | 3=>3 | 9=>9 | 2=>2 | 4=>4 | 171=>182 | 0=>0 | 53=>183 | 37=>68 | 5=>5 | 173=>186 | 212=>199 | 51=>200 | 20=>20 | 213=>201 | 46=>191 | 232=>230 | 233=>231 | n=>n,fun | 17=>0 | 18=>1 | 19=>2 | n=>n⟩
theorem Tryz.laysM171:Go.Proofs.LaysM.n171 Tryz.prog Tryz.laysM171_ren:={
 mixed:=by kernel_rfl
 f129:=Tryz.func160.trans (congrArg some (by kernel_rfl))
 f171:=Tryz.func30.trans (congrArg some (by kernel_rfl))
 f243:=Tryz.func67.trans (congrArg some (by kernel_rfl))
 f246:=Tryz.func118.trans (congrArg some (by kernel_rfl))
 f283:=Tryz.func143.trans (congrArg some (by kernel_rfl))
 f284:=Tryz.func144.trans (congrArg some (by kernel_rfl))
 f285:=Tryz.func145.trans (congrArg some (by kernel_rfl))
 f286:=Tryz.func146.trans (congrArg some (by kernel_rfl))
 f317:=Tryz.func159.trans (congrArg some (by kernel_rfl))
 f318:=Tryz.func161.trans (congrArg some (by kernel_rfl))
 f319:=Tryz.func162.trans (congrArg some (by kernel_rfl))
 f320:=Tryz.func163.trans (congrArg some (by kernel_rfl))
 f337:=Tryz.func177.trans (congrArg some (by kernel_rfl))
 f338:=Tryz.func178.trans (congrArg some (by kernel_rfl))
 t0:=Tryz.underlying0
 a0:=Tryz.isAgg0
 z0:=Tryz.sizeOf0
 v0:=Tryz.zeroValue0
 t2:=Tryz.underlying2
 a2:=Tryz.isAgg2
 z2:=Tryz.sizeOf2
 v2:=Tryz.zeroValue2
 t3:=Tryz.underlying3
 a3:=Tryz.isAgg3
 z3:=Tryz.sizeOf3
 v3:=Tryz.zeroValue3
 t4:=Tryz.underlying4
 a4:=Tryz.isAgg4
 z4:=Tryz.sizeOf4
 v4:=Tryz.zeroValue4
 t5:=Tryz.underlying5
 a5:=Tryz.isAgg5
 z5:=Tryz.sizeOf5
 v5:=Tryz.zeroValue5
 t9:=Tryz.underlying9
 a9:=Tryz.isAgg9
 z9:=Tryz.sizeOf9
 v9:=Tryz.zeroValue9
 t20:=Tryz.underlying20
 a20:=Tryz.isAgg20
 z20:=Tryz.sizeOf20
 v20:=Tryz.zeroValue20
 t37:=Tryz.underlying68
 a37:=Tryz.isAgg68
 z37:=Tryz.sizeOf68
 v37:=Tryz.zeroValue68
 t46:=Tryz.underlying191
 a46:=Tryz.isAgg191
 z46:=Tryz.sizeOf191
 v46:=Tryz.zeroValue191
 t51:=Tryz.underlying200
 a51:=Tryz.isAgg200
 z51:=Tryz.sizeOf200
 v51:=Tryz.zeroValue200
 t53:=Tryz.underlying183
 a53:=Tryz.isAgg183
 z53:=Tryz.sizeOf183
 v53:=Tryz.zeroValue183
 t171:=Tryz.underlying182
 a171:=Tryz.isAgg182
 z171:=Tryz.sizeOf182
 v171:=Tryz.zeroValue182
 t173:=Tryz.underlying186
 a173:=Tryz.isAgg186
 z173:=Tryz.sizeOf186
 v173:=Tryz.zeroValue186
 t212:=Tryz.underlying199
 a212:=Tryz.isAgg199
 z212:=Tryz.sizeOf199
 v212:=Tryz.zeroValue199
 t213:=Tryz.underlying201
 a213:=Tryz.isAgg201
 z213:=Tryz.sizeOf201
 t232:=Tryz.underlying230
 a232:=Tryz.isAgg230
 z232:=Tryz.sizeOf230
 v232:=Tryz.zeroValue230
 t233:=Tryz.underlying231
 a233:=Tryz.isAgg231
 z233:=Tryz.sizeOf231
 v233:=Tryz.zeroValue231
 g17:=by kernel_rfl
 g18:=by kernel_rfl
 g19:=by kernel_rfl
 i0:=by kernel_rfl
 i2:=by kernel_rfl
 i3:=by kernel_rfl
 i4:=by kernel_rfl
 i5:=by kernel_rfl
 i9:=by kernel_rfl
 i20:=by kernel_rfl
 i37:=by kernel_rfl
 i46:=by kernel_rfl
 i51:=by kernel_rfl
 i53:=by kernel_rfl
 i171:=by kernel_rfl
 i173:=by kernel_rfl
 i212:=by kernel_rfl
 i232:=by kernel_rfl
 i233:=by kernel_rfl
 m17:=by kernel_rfl
 m18:=by kernel_rfl
 m19:=by kernel_rfl}
open Go.RowKit Go.Sort Go.Lib in
theorem Tryz.strconv_Itoa (n:Int) (h0:-9223372036854775808≤n) (h1:n≤9223372036854775807) (w:World) (htab:Lib.TabIs Tryz.prog w "internal/strconv.uint64pow10" .u64 Lib.pow10Tab) :
  Calls Tryz.prog 30 #[.int .i64 n] w fun e w'=>e=.returned (.string ⟨(Lib.itoa n).toArray⟩)∧∃ k os,w'=grow (w.drewN k) os:=Any.strconv_Itoa Tryz.laysM171 n h0 h1 w htab
end Go.Proofs
namespace Go.Fu
open Go Go.Mx
def uF:FuncId:=10
def Wi:FuncId:=11
def Bg:FuncId:=13
def Wh:FuncId:=15
def zxi:FuncId:=17
def Bf:FuncId:=19
def Ou:FuncId:=20
def zod:FuncId:=25
def rP:FuncId:=26
def n_7:FuncId:=27
def qR:FuncId:=28
def Gu:FuncId:=29
def rQ:FuncId:=30
def Wb:FuncId:=31
def zfa:FuncId:=32
def Ll:FuncId:=33
def zedb:FuncId:=39
def zd5b:FuncId:=40
def zd6b:FuncId:=41
def qA:FuncId:=42
def zd7b:FuncId:=43
def zeab:FuncId:=44
def sZ:FuncId:=45
def Wm:FuncId:=46
def zeib:FuncId:=47
def zez:FuncId:=48
def n_6:FuncId:=49
def uE:FuncId:=50
def Le:FuncId:=51
def Ov:FuncId:=64
def Wj:FuncId:=65
def wH:FuncId:=66
def Sr:FuncId:=70
def zebb:FuncId:=71
def zd8b:FuncId:=72
def zecb:FuncId:=73
def zd9b:FuncId:=74
def zxk:FuncId:=75
def zxl:FuncId:=76
def Gs:FuncId:=77
def wG:FuncId:=78
def zog:FuncId:=79
def zejb:FuncId:=80
def ze0:FuncId:=81
def ze8:FuncId:=82
def ze1:FuncId:=83
def rN:FuncId:=84
def Wa:FuncId:=85
def Bi:FuncId:=86
def ze2:FuncId:=87
def rO:FuncId:=88
def n_9:FuncId:=89
def Ox:FuncId:=90
def ze3:FuncId:=91
def ze4:FuncId:=92
def Gm:FuncId:=93
def ze5:FuncId:=94
def ze6:FuncId:=95
def Wg:FuncId:=96
def We:FuncId:=97
def nX:FuncId:=98
def Vz:FuncId:=99
def Bh:FuncId:=100
def sY:FuncId:=101
def Oy:FuncId:=102
def Oo:FuncId:=103
def Vv:FuncId:=104
def Sm:FuncId:=105
def zxj:FuncId:=119
def Gt:FuncId:=120
def ze9:FuncId:=121
def zoh:FuncId:=122
def zof:FuncId:=123
def Wc:FuncId:=124
def zey:FuncId:=125
def zoe:FuncId:=126
def Oq:FuncId:=127
def zag:FuncId:=128
def Gl:FuncId:=129
def Ot:FuncId:=130
def Gp:FuncId:=131
def Gq:FuncId:=132
def Gn:FuncId:=133
def ze7:FuncId:=134
def Lj:FuncId:=135
def Vw:FuncId:=136
def zoc:FuncId:=137
def zew:FuncId:=138
def Vy:FuncId:=139
def yR:FuncId:=140
def pZ:FuncId:=141
def Wl:FuncId:=147
def zoi:FuncId:=148
def zefb:FuncId:=149
def zex:FuncId:=150
def Ld:FuncId:=151
def zev:FuncId:=153
def zet:FuncId:=154
def Lh:FuncId:=155
def zeu:FuncId:=156
def On:FuncId:=157
def Vx:FuncId:=158
def zehb:FuncId:=160
def zenb:FuncId:=164
def zemb:FuncId:=165
def zekb:FuncId:=166
def zelb:FuncId:=167
def zerb:FuncId:=168
def zeob:FuncId:=169
def zxh:FuncId:=170
def zepb:FuncId:=171
def zeqb:FuncId:=172
def zegb:FuncId:=173
def zob:FuncId:=174
def zes:FuncId:=175
def Om:FuncId:=176
def zfb:FuncId:=185
def zfc:FuncId:=187
def zesb:FuncId:=188
def zetb:FuncId:=189
def zeeb:FuncId:=6
def wE:RowK:=⟨39,1,false⟩
def k_4:RowK:=⟨90,14,true⟩
def k_3:RowK:=⟨92,15,true⟩
def pA:RowK:=⟨52,3,true⟩
def k_2:RowK:=⟨47,10,true⟩
def zac:RowK:=⟨57,8,true⟩
def k_1:RowK:=⟨59,4,true⟩
def k_5:RowK:=⟨49,12,true⟩
def zad:RowK:=⟨42,4,true⟩
def dK:RowK:=⟨1,1,false⟩
def lT:RowK:=⟨3,1,false⟩
def k_0:RowK:=⟨9,1,false⟩
def pB:RowK:=⟨5,1,false⟩
def tL:Nat:=3
def Ye:Nat:=9
def zezb:Nat:=22
def zpj:Nat:=27
def zxt:Nat:=29
def t_8:Nat:=39
def zfm:Nat:=47
def zpl:Nat:=49
def ze0b:Nat:=59
def oH:Nat:=70
def zpk:Nat:=90
def uP:Nat:=93
def Yd:Nat:=94
def Pg:Nat:=96
def zxv:Nat:=132
def zxw:Nat:=143
def zxx:Nat:=149
def zfn:Nat:=153
def zxu:Nat:=195
def rg (o:List AOper) (c:List Nat):ACode:=.region o none c
def sq (o:List AOper) (c:List Nat) (x:ACode):ACode:=.seq (.region o none c) x
def ml (s t:Nat):AOper:=⟨some s,.load none false (.tmp t),none⟩
def mf (s k t:Nat):AOper:=⟨some s,.fieldAddr k none (.tmp t),none⟩
def ci (n:Int):AOpd:=.const (.int .i64 n)
end Go.Fu
