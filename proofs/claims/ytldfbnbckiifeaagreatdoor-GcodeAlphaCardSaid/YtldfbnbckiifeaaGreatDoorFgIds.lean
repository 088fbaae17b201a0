/-
 From what the machine answers to a law's row: the arguments read az the machine's data,all memory there is is read alone; behind the call it stands az it stood.
-/
import Derived.OpenShut
import Derived.Carry
import Derived.ChangeSlices
import Derived.ChangeSame
import Derived.Deep.DeepHandedRow
import Derived.Stop.LaidErr
import Derived.Deep.DeepLaidRun
import Derived.Lib.LaidTab
import Derived.Test.YtldfbnbckiifeaaGreatDoorMyFrame
import Derived.Shelf.Small.Bits
import Derived.Shelf.Strconv.Itoa0
import Derived.Shelf.Strconv.Itoa1
import Derived.Shelf.LaysM
import Derived.Shelf.Strconv.Itoa2
import Derived.Shelf.Strconv.Itoa3
import Derived.Ground.Names2Prog
import Derived.Ground.SlgnProg
import Derived.Test.YtldfbnbckiifeaaGreatDoorProg
set_option linter.unusedSimpArgs false
set_option linter.unusedVariables false
set_option linter.unusedSectionVars false
namespace Go.Mx
open Go Go.ChangeShapes Go.WideShapes Go.RowKit
theorem Lx {H:Type} {enc:TypeId × Value→H} {P:Program} (hl:laidOutB P=true) {W W':World} (hb:Below W.heap.size W W'):∀ {ts:List TypeId} {vs:List Value} {ds:List (DataW H)} {ps:List MemPlace},(∀ t∈ts,P.readableRec t=true∧t < P.types.size) →
  DataW.TrodAll enc P W 0 (fun _=>true) true ts vs ds ps→(∀ x∈ps,x.block < W.heap.size)→DataW.TrodAll enc P W' 0 (fun b=>decide (b < W.heap.size)) true ts vs ds ps
 | [],vs,ds,ps,_,h,_=>by
  obtain ⟨rfl,rfl,rfl⟩:=trodAll_nil h
  exact trodAll_mk0
 | t :: ts,vs,ds,ps,ht,h,hlt=>by
  obtain ⟨v,vs',d,ds',p,q,rfl,rfl,rfl,h1,h2⟩:=trodAll_cons h
  obtain ⟨hr,hs⟩:=ht t (aQ ..)
  exact trodAll_cons_mk (Below.trod hl hr hs h1 hb fun x hx=>hlt x (List.mem_append_left _ hx)) (Lx hl hb (fun u hu=>ht u (aI _ hu)) h2 fun x hx=>hlt x (List.mem_append_right _ hx))
theorem zvm {H:Type} {enc:TypeId × Value→H} {P:Program} {f:Func} {s:ChangeSpec} {fresh handsOn:Bool} {W W':World} {args:Array Value} {ds:List (DataW H)} {before:List MemPlace} (hl:laidOutB P=true) (hb:Below W.heap.size W W')
  (hv:s.vars=[]) (hps:∀ t∈f.params.toList,P.readableRec t=true∧t < P.types.size) (hW:DataW.Whole enc P f.params.toList s.vars false W args.toList ds [] before) (hA:DataW.TrodAll enc P W 0 (fun _=>true) true f.params.toList args.toList ds before)
  {tb:TypeId} (hres:f.resultTypes.toList=[tb]) (htb:P.underlying tb=some .bool) (hrf:(s.fn H (ds ++ [])).results=[.lit (.bool true)]) (haf:(s.fn H (ds ++ [])).args=ds) (hvf:(s.fn H (ds ++ [])).vars=[]) :
  s.post enc P f false fresh handsOn false W args (.bool true) W':=by
 have hlt:∀ x∈before,x.block < W.heap.size:=fun x hx=>hW.lt x hx
 have hsz:f.resultTypes.size=1:=by
  have:=congrArg List.length hres
  simpa using this
 refine ⟨ds,[],before,[],before,[],hW,?_,?_,?_,hb.frame _,fun h=>by cases h⟩
 ·rw [hres,hrf,hsz]
  exact trodAll_cons_mk (shut_bool htb true) trodAll_mk0
 ·rw [haf]
  exact Lx hl hb hps hA hlt
 ·rw [hv,hvf]
  rfl
def Ob (W:World):Imm:=fun b o=>W.cell? ⟨b,o,none⟩
theorem zxu [LoopKit] {P:Program} {κ:Ctx} {f:FuncId} {Ds:List D} {args:List Value} {W:World} {σ':Store} (hY:isY f=false) (hn:κ.n≤W.heap.size) (hK:κ.K W) (hC:mZ P κ f Ds σ0 (.ret ⟨false,.bool true⟩) σ') (hr:dM (Ob W) (fun _=>none) Ds args) :
  Calls P f ⟨args⟩ W fun e W'=>e=.returned (.bool true)∧Below W.heap.size W W':=by
 refine (((lG hY).1 hC).2 (Ob W) (fun _=>none) (fun _=>none) W args (fun _ _ h=>by cases h) ⟨hn,fun _ _=>rfl,hK⟩ ⟨fun _ _ _ h=>h,(fun _ _ h=>by cases h),(fun _ _ h=>by cases h),(fun _ _ _ h=>by cases h),(fun _ _ h=>by cases h),(fun _ _ h=>by cases h),(fun _ _ h=>by cases h)⟩ hr).mono ?_
 rintro e W' ⟨ι',j',own',k1,k2,k3,k4⟩
 cases e with
 | returned v =>
  have hv:=k4.1
  simp only [Rep] at hv
  rw [hv]
  exact ⟨rfl,⟨k2.os,k2.tape,k2.output,k2.size,fun b hb=>(k2.block b hb fun _ h=>by cases h).1⟩⟩
 | panicked c=>exact k4.elim
 | outgrown=>exact k4.elim
def zh7 (k:RowK) (d:D) (xs:List Int):Prop:=d=.list k (xs.map fun x=>.int .i64 x)∨(xs=[]∧d=.nils)
theorem zm0 {n:Int} (h:(Lit.int .i64 n).wf=true):-9223372036854775808≤n∧n≤9223372036854775807:=by
 have e1:IntKind.i64.min=-9223372036854775808:=rfl
 have e2:IntKind.i64.max=9223372036854775807:=rfl
 simpa [Lit.wf,e1,e2] using h
theorem Ur {W:World} {k:RowK} (hk:k.sz=1) {b:Nat}:∀ (xs:List Int) (o:Nat),(∀ i,i < xs.length→W.cell? ⟨b,o + i,none⟩=some (.int .i64 (xs.getD i 0)))→eU (Ob W) (fun _=>none) k.sz (xs.map fun x=>.int .i64 x) b o
 | [],_,_=>by simp [eU]
 | x :: xs,o,h=>by
  simp only [aO,eU]
  refine ⟨⟨.int .i64 x,fun i y hy=>?_,by rw [hk]; rfl,by simp [Rep]⟩,Ur hk xs (o + k.sz) fun i hi=>?_⟩
  ·cases i with
   | zero =>
    simp [Value.cells] at hy
    subst hy
    have:=h 0 (by simp)
    simpa [Ob] using this
   | succ i=>simp [Value.cells] at hy
  ·have:=h (i + 1) (by simpa using hi)
   rw [hk,show o + 1 + i=o + (i + 1) by omega]
   simpa using this
theorem zyq {H:Type} {enc:TypeId × Value→H} {P:Program} {W:World} {t e:TypeId} {v:Value} {d0:DataW H} {p:List MemPlace} (ht:P.underlying t=some (.slice e)) (he:P.underlying e=some (.int .i64)) (hc:P.cellsOf e=1) {base:Nat} (hval:Value.okWide P W .any base t v)
  (h:DataW.Trod enc P W 0 (fun _=>true) true t v d0 p) (k:RowK) (hk:k.sz=1):∃ d xs,zh7 k d xs∧(∀ x∈xs,-9223372036854775808≤x∧x≤9223372036854775807)∧Rep (Ob W) (fun _=>none) d v:=by
 obtain ⟨a0,len,cap,rfl⟩:=okWide_slice ht hval
 obtain ⟨fuel,hf⟩:=h
 rcases open_ints ht he hc hf with ⟨hcs,hx⟩ | ⟨a,len',cap',zs,hcs,_,hl,hm,hz,hx,hcell,hwz⟩
 ·simp [Value.cells] at hcs
  obtain ⟨rfl,rfl,rfl⟩:=hcs
  exact ⟨.nils,[],.inr ⟨rfl,rfl⟩,(fun x hx=>by cases hx),by simp [Rep]⟩
 ·simp [Value.cells] at hcs
  obtain ⟨rfl,rfl,rfl⟩:=hcs
  simp only [if_true] at hz
  have hlen:(zs.take len).length=len:=by simp; omega
  refine ⟨.list k ((zs.take len).map fun x=>.int .i64 x),zs.take len,.inl rfl,fun x hx=>zm0 (hwz x (bH hx)),?_⟩
  simp only [Rep]
  refine ⟨some a,cap,by rw [aJ,hlen],by rw [aJ,hlen]; exact hl,hm,?_⟩
  by_cases h0:len=0
  ·left; subst h0; simp
  ·right
   obtain ⟨b,off,spot⟩:=a
   have hspot:spot=none:=by simpa [Addr.add] using World.cell?_spot (hcell 0 (by omega))
   subst hspot
   refine ⟨b,off,rfl,Ur hk _ _ fun i hi=>?_⟩
   rw [hlen] at hi
   have:=hcell i (by omega)
   rw [add_plain] at this
   rw [this,List.getD_eq_getElem?_getD,List.getD_eq_getElem?_getD,List.getElem?_take_of_lt hi]
end Go.Mx
namespace Go.Proofs
open Go.Shelf
open Go.Lib in
open Go.Lib in
open Go.Lib in
open Go.Lib in
open Go.RowKit Go.Sort Go.Lib in
open Go.RowKit Go.Sort Go.Lib in
open Go.RowKit Go.Sort Go.Lib in
open Go.RowKit Go.Sort Go.Lib in
open Go.RowKit Go.Sort Go.Lib in
def Tryz.laysM171_ren:Go.Shelf.Ren:=⟨fun | 171=>30 | 243=>67 | 246=>118 | 283=>143 | 284=>144 | 285=>145 | 286=>146 | 129=>160 | 317=>159 | 318=>161 | 319=>162 | 320=>163 | 337=>177 | 338=>178 | n=>n,fun | 3=>3 | 9=>9 | 2=>2 | 4=>4 | 171=>182 | 0=>0 | 53=>183 | 37=>68 | 5=>5 | 173=>186 | 212=>199 | 51=>200 | 20=>20 | 213=>201 | 46=>191 | 232=>230 | 233=>231 | n=>n,fun | 17=>0 | 18=>1 | 19=>2 | n=>n⟩
theorem Tryz.laysM171:Go.Proofs.LaysM.n171 Tryz.prog Tryz.laysM171_ren:={
 mixed:=by kernel_rfl
 f129:=Tryz.func160.trans (congrArg some (by kernel_rfl))
 f171:=Tryz.func30.trans (congrArg some (by kernel_rfl))
 f243:=Tryz.func67.trans (congrArg some (by kernel_rfl))
 f246:=Tryz.func118.trans (congrArg some (by kernel_rfl))
 f283:=Tryz.func143.trans (congrArg some (by kernel_rfl))
 f284:=Tryz.func144.trans (congrArg some (by kernel_rfl))
 f285:=Tryz.func145.trans (congrArg some (by kernel_rfl))
 f286:=Tryz.func146.trans (congrArg some (by kernel_rfl))
 f317:=Tryz.func159.trans (congrArg some (by kernel_rfl))
 f318:=Tryz.func161.trans (congrArg some (by kernel_rfl))
 f319:=Tryz.func162.trans (congrArg some (by kernel_rfl))
 f320:=Tryz.func163.trans (congrArg some (by kernel_rfl))
 f337:=Tryz.func177.trans (congrArg some (by kernel_rfl))
 f338:=Tryz.func178.trans (congrArg some (by kernel_rfl))
 t0:=Tryz.underlying0
 a0:=Tryz.isAgg0
 z0:=Tryz.sizeOf0
 v0:=Tryz.zeroValue0
 t2:=Tryz.underlying2
 a2:=Tryz.isAgg2
 z2:=Tryz.sizeOf2
 v2:=Tryz.zeroValue2
 t3:=Tryz.underlying3
 a3:=Tryz.isAgg3
 z3:=Tryz.sizeOf3
 v3:=Tryz.zeroValue3
 t4:=Tryz.underlying4
 a4:=Tryz.isAgg4
 z4:=Tryz.sizeOf4
 v4:=Tryz.zeroValue4
 t5:=Tryz.underlying5
 a5:=Tryz.isAgg5
 z5:=Tryz.sizeOf5
 v5:=Tryz.zeroValue5
 t9:=Tryz.underlying9
 a9:=Tryz.isAgg9
 z9:=Tryz.sizeOf9
 v9:=Tryz.zeroValue9
 t20:=Tryz.underlying20
 a20:=Tryz.isAgg20
 z20:=Tryz.sizeOf20
 v20:=Tryz.zeroValue20
 t37:=Tryz.underlying68
 a37:=Tryz.isAgg68
 z37:=Tryz.sizeOf68
 v37:=Tryz.zeroValue68
 t46:=Tryz.underlying191
 a46:=Tryz.isAgg191
 z46:=Tryz.sizeOf191
 v46:=Tryz.zeroValue191
 t51:=Tryz.underlying200
 a51:=Tryz.isAgg200
 z51:=Tryz.sizeOf200
 v51:=Tryz.zeroValue200
 t53:=Tryz.underlying183
 a53:=Tryz.isAgg183
 z53:=Tryz.sizeOf183
 v53:=Tryz.zeroValue183
 t171:=Tryz.underlying182
 a171:=Tryz.isAgg182
 z171:=Tryz.sizeOf182
 v171:=Tryz.zeroValue182
 t173:=Tryz.underlying186
 a173:=Tryz.isAgg186
 z173:=Tryz.sizeOf186
 v173:=Tryz.zeroValue186
 t212:=Tryz.underlying199
 a212:=Tryz.isAgg199
 z212:=Tryz.sizeOf199
 v212:=Tryz.zeroValue199
 t213:=Tryz.underlying201
 a213:=Tryz.isAgg201
 z213:=Tryz.sizeOf201
 t232:=Tryz.underlying230
 a232:=Tryz.isAgg230
 z232:=Tryz.sizeOf230
 v232:=Tryz.zeroValue230
 t233:=Tryz.underlying231
 a233:=Tryz.isAgg231
 z233:=Tryz.sizeOf231
 v233:=Tryz.zeroValue231
 g17:=by kernel_rfl
 g18:=by kernel_rfl
 g19:=by kernel_rfl
 i0:=by kernel_rfl
 i2:=by kernel_rfl
 i3:=by kernel_rfl
 i4:=by kernel_rfl
 i5:=by kernel_rfl
 i9:=by kernel_rfl
 i20:=by kernel_rfl
 i37:=by kernel_rfl
 i46:=by kernel_rfl
 i51:=by kernel_rfl
 i53:=by kernel_rfl
 i171:=by kernel_rfl
 i173:=by kernel_rfl
 i212:=by kernel_rfl
 i232:=by kernel_rfl
 i233:=by kernel_rfl
 m17:=by kernel_rfl
 m18:=by kernel_rfl
 m19:=by kernel_rfl}
open Go.RowKit Go.Sort Go.Lib in
theorem Tryz.strconv_Itoa (n:Int) (h0:-9223372036854775808≤n) (h1:n≤9223372036854775807) (w:World) (htab:Lib.TabIs Tryz.prog w "internal/strconv.uint64pow10" .u64 Lib.pow10Tab) :
  Calls Tryz.prog 30 #[.int .i64 n] w fun e w'=>e=.returned (.string ⟨(Lib.itoa n).toArray⟩)∧∃ k os,w'=grow (w.drewN k) os:=Any.strconv_Itoa Tryz.laysM171 n h0 h1 w htab
end Go.Proofs
namespace Go.Fu
open Go Go.Mx
def wU:FuncId:=10
def zhp:FuncId:=11
def zh3b:FuncId:=13
def Zm:FuncId:=15
def zazb:FuncId:=17
def Fe:FuncId:=19
def Tc:FuncId:=20
def zhq:FuncId:=21
def zri:FuncId:=25
def uM:FuncId:=26
def n_7:FuncId:=27
def n_9:FuncId:=28
def Zt:FuncId:=29
def Bq:FuncId:=30
def ziab:FuncId:=31
def zipb:FuncId:=32
def Zs:FuncId:=33
def Zp:FuncId:=37
def zh9b:FuncId:=39
def zh0b:FuncId:=40
def zh1b:FuncId:=41
def wV:FuncId:=42
def zh2b:FuncId:=43
def zh6b:FuncId:=44
def vR:FuncId:=45
def Zr:FuncId:=46
def zifb:FuncId:=47
def zhg:FuncId:=48
def n_6:FuncId:=49
def wT:FuncId:=50
def Pv:FuncId:=51
def sU:FuncId:=52
def Td:FuncId:=64
def Zo:FuncId:=65
def Wm:FuncId:=66
def Wl:FuncId:=70
def zh7b:FuncId:=71
def zh4b:FuncId:=72
def zh8b:FuncId:=73
def zh5b:FuncId:=74
def za1b:FuncId:=75
def za2b:FuncId:=76
def Ju:FuncId:=77
def yZ:FuncId:=78
def zrl:FuncId:=79
def zigb:FuncId:=80
def zhh:FuncId:=81
def zhr:FuncId:=82
def zhi:FuncId:=83
def uK:FuncId:=84
def Zi:FuncId:=85
def Fg:FuncId:=86
def zhj:FuncId:=87
def uL:FuncId:=88
def qF:FuncId:=89
def Tf:FuncId:=90
def zhk:FuncId:=91
def zhl:FuncId:=92
def Jq:FuncId:=93
def zhm:FuncId:=94
def zhn:FuncId:=95
def Zl:FuncId:=96
def Zk:FuncId:=97
def qY:FuncId:=98
def Zh:FuncId:=99
def Ff:FuncId:=100
def vQ:FuncId:=101
def Ti:FuncId:=102
def Sv:FuncId:=103
def Zd:FuncId:=104
def Wj:FuncId:=105
def Zn:FuncId:=106
def za0b:FuncId:=119
def Jv:FuncId:=120
def zhs:FuncId:=121
def zrm:FuncId:=122
def zrk:FuncId:=123
def Zj:FuncId:=124
def zhf:FuncId:=125
def zrj:FuncId:=126
def Sz:FuncId:=127
def Sm:FuncId:=128
def Jp:FuncId:=129
def Ta:FuncId:=130
def Js:FuncId:=131
def Jt:FuncId:=132
def Jr:FuncId:=133
def zho:FuncId:=134
def Py:FuncId:=135
def Ze:FuncId:=136
def zrh:FuncId:=137
def zhd:FuncId:=138
def Zg:FuncId:=139
def Bo:FuncId:=140
def sT:FuncId:=141
def Zq:FuncId:=147
def zrn:FuncId:=148
def zicb:FuncId:=149
def zhe:FuncId:=150
def Pq:FuncId:=151
def zhc:FuncId:=153
def zha:FuncId:=154
def Px:FuncId:=155
def zhb:FuncId:=156
def Ss:FuncId:=157
def Zf:FuncId:=158
def zieb:FuncId:=160
def zikb:FuncId:=164
def zijb:FuncId:=165
def zihb:FuncId:=166
def ziib:FuncId:=167
def ziob:FuncId:=168
def zilb:FuncId:=169
def zayb:FuncId:=170
def zimb:FuncId:=171
def zinb:FuncId:=172
def zidb:FuncId:=173
def zrg:FuncId:=174
def zg9:FuncId:=175
def Sr:FuncId:=176
def zht:FuncId:=185
def zhu:FuncId:=187
def ziqb:FuncId:=188
def zirb:FuncId:=189
def zibb:FuncId:=7
def yX:RowK:=⟨39,1,false⟩
def k_4:RowK:=⟨90,14,true⟩
def k_3:RowK:=⟨92,15,true⟩
def vP:RowK:=⟨52,3,true⟩
def k_2:RowK:=⟨47,10,true⟩
def Si:RowK:=⟨57,8,true⟩
def k_1:RowK:=⟨59,4,true⟩
def k_5:RowK:=⟨49,12,true⟩
def Sj:RowK:=⟨42,4,true⟩
def gR:RowK:=⟨1,1,false⟩
def pH:RowK:=⟨3,1,false⟩
def k_0:RowK:=⟨9,1,false⟩
def Jh:RowK:=⟨5,1,false⟩
def wB:Nat:=3
def za4:Nat:=9
def zi2b:Nat:=22
def zsp:Nat:=27
def zbab:Nat:=29
def t_8:Nat:=39
def zh2:Nat:=47
def zsr:Nat:=49
def zi3b:Nat:=59
def wA:Nat:=70
def zsq:Nat:=90
def xG:Nat:=93
def za3:Nat:=94
def To:Nat:=96
def zbcb:Nat:=132
def zbdb:Nat:=143
def zbeb:Nat:=149
def zh3:Nat:=153
def zbbb:Nat:=195
def rg (o:List AOper) (c:List Nat):ACode:=.region o none c
def sq (o:List AOper) (c:List Nat) (x:ACode):ACode:=.seq (.region o none c) x
def ml (s t:Nat):AOper:=⟨some s,.load none false (.tmp t),none⟩
def mf (s k t:Nat):AOper:=⟨some s,.fieldAddr k none (.tmp t),none⟩
def ci (n:Int):AOpd:=.const (.int .i64 n)
end Go.Fu
