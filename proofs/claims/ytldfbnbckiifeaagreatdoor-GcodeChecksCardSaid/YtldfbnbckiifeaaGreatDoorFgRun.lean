/-
 The program's functions as the machine's code (printed by gen2.py).
-/
import Derived.Test.YtldfbnbckiifeaaGreatDoorFgCode4
import Derived.Recover
import Derived.Test.YtldfbnbckiifeaaGreatDoorMyFrame
import Derived.Test.YtldfbnbckiifeaaGreatDoorProg
import Derived.WalkKit
import Derived.Lib.Builder
import Derived.Laws.Externs
import Derived.Lib.MakeNoZero
import Derived.Laws.IdiomCopy
import Derived.Shelf.Strings.Builder1
set_option maxHeartbeats 4000000
set_option linter.unusedSimpArgs false
set_option linter.unusedVariables false
set_option linter.unusedSectionVars false
namespace Go.Fu
open Go Go.Mx
def a_209:AFun:={nargs:=3,ntmps:=90,res:=[],gc:=false,body:=(sq [mo 4 (.box (.tmp 1))] [1] (.seq (.region [mt 9 0,mo 10 (.nilCheck (.tmp 9)),mf 11 1 10,mo 12 (.loadP none (.tmp 11)),mf 13 2 4,mo 14 (.loadB 4 none (.tmp 13)),
 mo 15 (.lookup true (.int .i64 0) true (.tmp 12) (.tmp 14)),mw 8 15,mo 16 (.extract (.tmp 8) 0),mo 17 (.extract (.tmp 8) 1),mw 6 16,mw 7 17] (some [0,1,2,3,4,5,6,7,8,9,10,11]) [8,9,10,11,12,13,14,15,16,17]) (.block 0 (sq [mf 30 0 4,ml 31 30,
 mo 32 (.bin .eql (.tmp 31) (ci 1)),mw 33 32,⟨some 34,.mov (.tmp 7),(some (33,true))⟩,mo 35 (.pick (.tmp 33) (.tmp 34) (.const (.bool false))),mw 29 35] [7,30,31,32,33,34,35] (.cond (.tmp 29) (rg [mt 36 0,mt 37 2,mo 38 (.bin .sub (.tmp 37) (ci 1)),mt 39 6,
 mo 40 (.bin .sub (.tmp 38) (.tmp 39)),mo 41 (.call n_57 [.tmp 36,(.const (.str [80,85,83,72,65])),.tmp 40])] [0,2,4,6,29,36,37,38,39,40,41]) (.seq (sq [mf 43 0 4,ml 44 43,mo 45 (.bin .eql (.tmp 44) (ci 1)),mw 42 45] [6,29,43,44,45] (.cond (.tmp 42) .skip (rg [
 mf 46 0 4,ml 47 46,mo 48 (.bin .eql (.tmp 47) (ci 2)),mw 42 48] [46,47,48]))) (.cond (.tmp 42) (.region [mt 49 0,mt 50 0,mo 51 (.nilCheck (.tmp 50)),mf 52 0 51,mo 53 (.loadP none (.tmp 52)),mf 54 2 4,mo 55 (.loadB 4 none (.tmp 54)),
 mo 56 (.build [.str [],.int .i64 0,.int .i64 0,.str []] [(0,1,(.const (.str [80,85,83,72,71]))),(3,1,(.tmp 55))]),mo 57 (.buildSlice k_1 [.tmp 56]),mo 58 (.append k_1 48 (.mv 53) (.tmp 57)),mo 59 (.nilCheck (.tmp 49)),mf 60 0 59,
 ⟨none,.storeP 1 (.tmp 60) (.tmp 58),none⟩] (some [0,1,2,3,4,5,6,7,8,9,10,11,12]) [0,2,4,42,49,50,51,52,53,54,55,56,57,58,59,60]) (sq [mf 62 0 4,ml 63 62,mo 64 (.bin .eql (.tmp 63) (ci 3)),mw 61 64] [42,62,63,64] (.cond (.tmp 61) (rg [mt 65 0,mf 66 1 4,ml 67 66,
 mo 68 (.call n_57 [.tmp 65,(.const (.str [80,85,83,72,73])),.tmp 67])] [0,2,4,61,65,66,67,68]) (sq [mf 70 0 4,ml 71 70,mo 72 (.bin .eql (.tmp 71) (ci 4)),mw 69 72] [61,70,71,72] (.cond (.tmp 69) (sq [mt 73 0,mf 74 7 4,ml 75 74,
 mo 76 (.indexAddr 10 (.tmp 75) (ci 1)),mo 77 (.load (some 10) false (.tmp 76)),mt 78 2,mo 79 (.call n_188 [.tmp 73,.tmp 77,.tmp 78])] [69,73,74,75,76,77,78,79] (sq [mt 80 0,mf 81 7 4,ml 82 81,mo 83 (.indexAddr 10 (.tmp 82) (ci 0)),
 mo 84 (.load (some 10) false (.tmp 83)),mt 85 2,mo 86 (.bin .add (.tmp 85) (ci 1)),mo 87 (.call n_188 [.tmp 80,.tmp 84,.tmp 86])] [2,4,80,81,82,83,84,85,86,87] (rg [mt 88 0,
 mo 89 (.call n_57 [.tmp 88,(.const (.str [77,75,65,80])),(ci 0)])] [0,88,89]))) (sq [mt 18 0,mo 19 (.load (some 10) false (.tmp 4)),mt 20 2,mt 21 0,mo 22 (.mkFunc (.func n_188) [.tmp 21] []),
 mo 23 (.call n_256 [.tmp 18,.tmp 19,.tmp 20,.tmp 22])] [2,18,19,20,21,22,23,69] (rg [mt 24 0,mf 25 8 4,ml 26 25,mo 27 (.len (.tmp 26)),mo 28 (.call n_57 [.tmp 24,(.const (.str [83,76,73,68,69])),.tmp 27])] [0,4,24,25,26,27,28])))))))))))))}
def a_67:ACode:=(.seq (sq [mt 9 5,mo 10 (.bin .geq (.tmp 9) (ci 0))] [9] (.cond (.tmp 10) .skip (.exit 0))) (.seq (.block 1 (sq [mt 13 0,mt 14 5,mo 15 (.indexAddr 1 (.tmp 13) (.tmp 14)),ml 16 15,mt 17 1,mo 18 (.bin .eql (.tmp 16) (.tmp 17))] [10,13,14,15,16,17]
 (.cond (.tmp 18) (sq [mw 19 5,mw 4 19] [0,1,5,18,19] .ret) .skip))) (rg [mt 11 5,mo 12 (.bin .sub (.tmp 11) (ci 1)),mw 5 12] [11,12,18])))
def a_142:AFun:={nargs:=2,ntmps:=20,res:=[.tmp 4],gc:=false,body:=(sq [mo 4 (.mov (ci 0))] [4] (.seq (sq [mt 6 0,mo 7 (.len (.tmp 6)),mo 8 (.bin .sub (.tmp 7) (ci 1)),mw 5 8] [6,7,8] (.block 0 (.loop a_67))) (sq [mo 4 (.mov (ci (-1)))] [0,1,5,10] .ret)))}
def a_285:ACode:=(.block 1 (rg [mo 8 (.load none true (.tmp 2)),mt 9 5,mo 10 (.buildSlice k_0 [.tmp 9]),mo 11 (.append k_0 16 (.mv 8) (.tmp 10)),⟨none,.store 1 (.tmp 2) (.mv 11),none⟩] [2,5,8,9,10,11]))
def a_236:AFun:={nargs:=2,ntmps:=13,res:=[.tmp 4],gc:=false,body:=(sq [mo 2 (.gbox t_48 (.tmp 0)),mo 4 (.mov (.const .nils))] [0,4] (.seq (sq [mt 6 1] [1] (.block 0 (.rangeF (.tmp 6) [7] (rg [mt 5 7] [6,7]) a_285))) (sq [
 mo 12 (.load none true (.tmp 2)),mw 4 12] [2,6,12] .ret)))}
def a_295:ACode:=(.block 1 (sq [mt 19 2,mt 20 1,mo 21 (.bin .sub (.tmp 19) (.tmp 20)),mw 10 21] [19,20,21] (.seq (sq [mt 22 10,mo 23 (.bin .leq (.tmp 22) (ci 12))] [22] (.cond (.tmp 23) (sq [mw 24 0,mw 25 1,mw 26 2,
 mo 27 (.call n_343 [.tmp 24,.tmp 25,.tmp 26])] [0,1,2,3,8,9,10,23,24,25,26,27] .ret) .skip)) (.seq (sq [mt 28 3,mo 29 (.bin .eql (.tmp 28) (ci 0))] [23,28] (.cond (.tmp 29) (sq [mw 30 0,mw 31 1,mw 32 2,
 mo 33 (.call n_342 [.tmp 30,.tmp 31,.tmp 32])] [0,1,2,3,8,9,10,29,30,31,32,33] .ret) .skip)) (.seq (sq [mt 34 8,mo 35 (.un .not (.tmp 34))] [29,34] (.cond (.tmp 35) (sq [mt 36 0,mt 37 1,mt 38 2,
 mo 39 (.call n_340 [.tmp 36,.tmp 37,.tmp 38])] [35,36,37,38,39] (rg [mt 40 3,mo 41 (.bin .sub (.tmp 40) (ci 1)),mw 3 41] [40,41])) .skip)) (sq [mt 43 0,mt 44 1,mt 45 2,mo 46 (.call n_341 [.tmp 43,.tmp 44,.tmp 45]),mw 42 46,
 mo 47 (.extract (.tmp 42) 0),mo 48 (.extract (.tmp 42) 1),mw 11 47,mw 12 48] [35,42,43,44,45,46,47,48] (.seq (sq [mt 49 12,mo 50 (.bin .eql (.tmp 49) (ci 2))] [49] (.cond (.tmp 50) (sq [mt 51 0,mt 52 1,mt 53 2,
 mo 54 (.call n_347 [.tmp 51,.tmp 52,.tmp 53])] [12,50,51,52,53,54] (sq [mt 55 2,mo 56 (.bin .sub (.tmp 55) (ci 1)),mt 57 11,mt 58 1,mo 59 (.bin .sub (.tmp 57) (.tmp 58)),mo 60 (.bin .sub (.tmp 56) (.tmp 59)),mw 11 60] [55,56,57,58,59,60] (rg [
 mo 12 (.mov (ci 1))] []))) .skip)) (.seq (sq [mt 61 8,mw 62 61,⟨some 63,.mov (.tmp 9),(some (62,true))⟩,mo 64 (.pick (.tmp 62) (.tmp 63) (.const (.bool false))),mw 65 64,⟨some 66,.mov (.tmp 12),(some (65,true))⟩,⟨some 67,.bin .eql (.tmp 66) (ci 1),(some (65,true))⟩,
 mo 68 (.pick (.tmp 65) (.tmp 67) (.const (.bool false)))] [12,50,61,62,63,64,65,66,67] (.cond (.tmp 68) (sq [mt 69 0,mt 70 1,mt 71 2,mo 72 (.call n_344 [.tmp 69,.tmp 70,.tmp 71])] [68,69,70,71] (.cond (.tmp 72) .ret .skip)) .skip)) (.seq (.seq
 (.region [mt 73 1,mo 74 (.bin .gtr (.tmp 73) (ci 0)),mw 75 74,⟨some 76,.mov (.tmp 0),(some (75,true))⟩,⟨some 77,.mov (.tmp 1),(some (75,true))⟩,⟨some 78,.bin .sub (.tmp 77) (ci 1),(some (75,true))⟩,⟨some 79,.indexAddr 1 (.tmp 76) (.tmp 78),(some (75,true))⟩,
 ⟨some 80,.loadG none (.tmp 79),(some (75,true))⟩,⟨some 81,.mov (.tmp 0),(some (75,true))⟩,⟨some 82,.mov (.tmp 11),(some (75,true))⟩,⟨some 83,.indexAddr 1 (.tmp 81) (.tmp 82),(some (75,true))⟩,⟨some 84,.loadG none (.tmp 83),(some (75,true))⟩,
 ⟨some 85,.call n_254 [.tmp 80,.tmp 84],(some (75,true))⟩,⟨some 86,.un .not (.tmp 85),(some (75,true))⟩,
 mo 87 (.pick (.tmp 75) (.tmp 86) (.const (.bool false)))] (some [0,1,2,3,4,5,6,7,8,9,10,11,12,13,14]) [68,72,73,74,75,76,77,78,79,80,81,82,83,84,85,86]) (.cond (.tmp 87) (sq [mt 88 0,mt 89 1,mt 90 2,mt 91 11,
 mo 92 (.call n_345 [.tmp 88,.tmp 89,.tmp 90,.tmp 91]),mw 13 92] [1,10,11,87,88,89,90,91,92] (sq [mt 93 13,mw 1 93] [13,93] (.exit 1))) .skip)) (sq [mt 95 0,mt 96 1,mt 97 2,mt 98 11,
 mo 99 (.call n_346 [.tmp 95,.tmp 96,.tmp 97,.tmp 98]),mw 94 99,mo 100 (.extract (.tmp 94) 0),mo 101 (.extract (.tmp 94) 1),mw 14 100,mw 15 101] [8,9,11,87,94,95,96,97,98,99,100,101] (sq [mt 102 15,mw 9 102] [15,102] (sq [mt 103 14,mt 104 1,
 mo 105 (.bin .sub (.tmp 103) (.tmp 104)),mt 106 2,mt 107 14,mo 108 (.bin .sub (.tmp 106) (.tmp 107)),mw 16 105,mw 17 108] [103,104,105,106,107,108] (sq [mt 109 10,mo 110 (.bin .quo (.tmp 109) (ci 8)),mw 18 110] [10,109,110] (sq [mt 111 16,mt 112 17,
 mo 113 (.bin .lss (.tmp 111) (.tmp 112))] [111,112] (.cond (.tmp 113) (sq [mt 114 16,mt 115 18,mo 116 (.bin .geq (.tmp 114) (.tmp 115)),mw 8 116] [16,17,18,113,114,115,116] (sq [mt 117 0,mt 118 1,mt 119 14,mt 120 3,
 mo 121 (.call n_201 [.tmp 117,.tmp 118,.tmp 119,.tmp 120])] [1,117,118,119,120,121] (rg [mt 122 14,mo 123 (.bin .add (.tmp 122) (ci 1)),mw 1 123] [14,122,123]))) (sq [mt 124 17,mt 125 18,mo 126 (.bin .geq (.tmp 124) (.tmp 125)),
 mw 8 126] [16,17,18,113,124,125,126] (sq [mt 127 0,mt 128 14,mo 129 (.bin .add (.tmp 128) (ci 1)),mt 130 2,mt 131 3,mo 132 (.call n_201 [.tmp 127,.tmp 129,.tmp 130,.tmp 131])] [2,127,128,129,130,131,132] (rg [mt 133 14,
 mw 2 133] [14,133]))))))))))))))))))
def a_251:AFun:={nargs:=4,ntmps:=134,res:=[],gc:=false,body:=(sq [mo 8 (.mov (.const (.bool true)))] [] (sq [mo 9 (.mov (.const (.bool true)))] [] (.block 0 (.loop a_295))))}
def a_232:AFun:={nargs:=1,ntmps:=8,res:=[.tmp 2],gc:=false,body:=(sq [mo 2 (.mov (ci 0))] [2] (.seq (.cond (.const (.bool false)) (sq [mw 3 0,mo 4 (.toInt .u32 (.tmp 3)),mo 5 (.call n_329 [.tmp 4]),mw 2 5] [0,3,4,5] .ret) .skip) (sq [mw 6 0,
 mo 7 (.call n_330 [.tmp 6]),mw 2 7] [0,6,7] .ret)))}
def a_233:AFun:={nargs:=1,ntmps:=25,res:=[.tmp 2],gc:=false,body:=(sq [mo 2 (.mov (ci 0))] [] (.seq (sq [mt 3 0,mo 4 (.bin .geq (.tmp 3) (.const (.int .u64 4294967296)))] [3] (.cond (.tmp 4) (sq [mt 5 0,mo 6 (.bin .shr (.tmp 5) (.const (.int .u64 32))),
 mw 0 6] [2,4,5,6] (rg [mo 2 (.mov (ci 32))] [])) .skip)) (.seq (sq [mt 7 0,mo 8 (.bin .geq (.tmp 7) (.const (.int .u64 65536)))] [4,7] (.cond (.tmp 8) (sq [mt 9 0,mo 10 (.bin .shr (.tmp 9) (.const (.int .u64 16))),mw 0 10] [8,9,10] (rg [mt 11 2,mo 12 (.bin .add (.tmp 11) (ci 16)),
 mw 2 12] [11,12])) .skip)) (.seq (sq [mt 13 0,mo 14 (.bin .geq (.tmp 13) (.const (.int .u64 256)))] [8,13] (.cond (.tmp 14) (sq [mt 15 0,mo 16 (.bin .shr (.tmp 15) (.const (.int .u64 8))),mw 0 16] [14,15,16] (rg [mt 17 2,mo 18 (.bin .add (.tmp 17) (ci 8)),mw 2 18] [17,18])) .skip))
 (sq [mt 19 2,mw 20 0,mo 21 (.toInt .u8 (.tmp 20)),
 mo 22 (.index (.const (.str [0,1,2,2,3,3,3,3,4,4,4,4,4,4,4,4,5,5,5,5,5,5,5,5,5,5,5,5,5,5,5,5,6,6,6,6,6,6,6,6,6,6,6,6,6,6,6,6,6,6,6,6,6,6,6,6,6,6,6,6,6,6,6,6,7,7,7,7,7,7,7,7,7,7,7,7,7,7,7,7,7,7,7,7,7,7,7,7,7,7,7,7,7,7,7,7,7,7,7,7,7,7,7,7,7,7,7,7,7,7,7,7,7,7,7,7,7,7,7,7,7,7,7,7,7,7,7,7,8,8,8,8,8,8,8,8,8,8,8,8,8,8,8,8,8,8,8,8,8,8,8,8,8,8,8,8,8,8,8,8,8,8,8,8,8,8,8,8,8,8,8,8,8,8,8,8,8,8,8,8,8,8,8,8,8,8,8,8,8,8,8,8,8,8,8,8,8,8,8,8,8,8,8,8,8,8,8,8,8,8,8,8,8,8,8,8,8,8,8,8,8,8,8,8,8,8,8,8,8,8,8,8,8,8,8,8,8,8,8,8,8,8,8,8,8,8,8,8,8,8,8,8,8,8,8,8])) (.tmp 21)),
 mo 23 (.toInt .i64 (.tmp 22)),mo 24 (.bin .add (.tmp 19) (.tmp 23)),mw 2 24] [0,14,19,20,21,22,23,24] .ret)))))}
def a_293:ACode:=(.seq (.seq (.region [mt 16 7,mt 17 1,mo 18 (.bin .gtr (.tmp 16) (.tmp 17)),mw 19 18,⟨some 20,.mov (.tmp 0),(some (19,true))⟩,⟨some 21,.mov (.tmp 7),(some (19,true))⟩,⟨some 22,.indexAddr 1 (.tmp 20) (.tmp 21),(some (19,true))⟩,
 ⟨some 23,.loadG none (.tmp 22),(some (19,true))⟩,⟨some 24,.mov (.tmp 0),(some (19,true))⟩,⟨some 25,.mov (.tmp 7),(some (19,true))⟩,⟨some 26,.bin .sub (.tmp 25) (ci 1),(some (19,true))⟩,⟨some 27,.indexAddr 1 (.tmp 24) (.tmp 26),(some (19,true))⟩,
 ⟨some 28,.loadG none (.tmp 27),(some (19,true))⟩,⟨some 29,.call n_254 [.tmp 23,.tmp 28],(some (19,true))⟩,mo 30 (.pick (.tmp 19) (.tmp 29) (.const (.bool false)))] (some [0,1,2,3,4,5,6,7,8,9,10,11,12,13,14]) [16,17,18,19,20,21,22,23,24,25,26,27,28,29])
 (.cond (.tmp 30) .skip (.exit 2))) (.seq (.block 3 (.region [mt 33 0,mt 34 7,mt 35 0,mt 36 7,mo 37 (.bin .sub (.tmp 36) (ci 1)),mt 38 0,mt 39 7,mo 40 (.bin .sub (.tmp 39) (ci 1)),mo 41 (.indexAddr 1 (.tmp 38) (.tmp 40)),mo 42 (.loadG none (.tmp 41)),mt 43 0,mt 44 7,
 mo 45 (.indexAddr 1 (.tmp 43) (.tmp 44)),mo 46 (.loadG none (.tmp 45)),mo 47 (.indexAddr 1 (.tmp 33) (.tmp 34)),⟨none,.storeP 1 (.tmp 47) (.tmp 42),none⟩,mo 48 (.indexAddr 1 (.tmp 35) (.tmp 37)),
 ⟨none,.storeP 1 (.tmp 48) (.tmp 46),none⟩] (some [0,1,2,3,4,5,6,7,8,9,10,11,12,13,14,15,16,17]) [30,33,34,35,36,37,38,39,40,41,42,43,44,45,46,47,48])) (rg [mt 31 7,mo 32 (.bin .sub (.tmp 31) (ci 1)),mw 7 32] [31,32])))
def a_294:ACode:=(.seq (sq [mt 10 6,mt 11 2,mo 12 (.bin .lss (.tmp 10) (.tmp 11))] [10,11] (.cond (.tmp 12) .skip (.exit 0))) (.seq (.block 1 (sq [mt 15 6,mw 7 15] [12,15] (.block 2 (.loop a_293)))) (rg [mt 13 6,
 mo 14 (.bin .add (.tmp 13) (ci 1)),mw 6 14] [7,13,14,30])))
def a_250:AFun:={nargs:=3,ntmps:=49,res:=[],gc:=false,body:=(sq [mt 8 1,mo 9 (.bin .add (.tmp 8) (ci 1)),mw 6 9] [8,9] (.block 0 (.loop a_294)))}
end Go.Fu
namespace Go.Mx
open Go
theorem Evo.toShared {ι0 ι:Imm} {j0 j:Lay} {own0 own:Own} {w0 w:World} (hE:Evo ι0 j0 own0 w0 ι j own w (fun _=>True)):Evo ι0 j0 own0 w0 ι j (shared own) w (fun _=>True):=by
 refine ⟨hE.os,hE.tape,hE.output,hE.size,hE.imm,hE.lay,fun b hb ht=>?_⟩
 have hn:own0 b=none:=by
  cases h:own0 b with
  | none=>rfl
  | some t=>exact absurd trivial (ht t h)
 obtain ⟨k1,k2,k3⟩:=hE.block b hb ht
 refine ⟨k1,?_,k3⟩
 unfold shared
 rw [k2,hn]
end Go.Mx
namespace Go.Fu
open Go Go.Mx
def digF:Nat→Nat→List UInt8→List UInt8
 | 0,_,acc=>acc
 | k + 1,n,acc=>ifB (decide (n < 10)) (UInt8.ofNat (48 + n) :: acc) (digF k (n / 10) (UInt8.ofNat (48 + n % 10) :: acc))
def digN (n:Nat):List UInt8:=digF 20 n []
def itoaN (n:Int):List UInt8:=match n with
 | .ofNat m=>digN m
 | .negSucc m=>45 :: digN (m + 1)
def inI64 (n:Int):Bool:=decide (-9223372036854775808≤n) && decide (n≤9223372036854775807)
def xItoa:List D→Option D
 | [.int .i64 n]=>ifB (inI64 n) (some (.str (itoaN n))) none
 | _=>none
def xCopy (ds:List D) (σ:Store):Option (Out × Store):=match ds with
 | [.ptr id 0]=>bindO (aget σ.tys id) fun t=>ifB (t.t == t_27) (bindO (aget σ.objs id) fun cs=>match cs with
  | [c0,c1]=>(match c0.d with
   | .nilp=>some (.ret ⟨false,.tup []⟩,{σ with objs:=aset σ.objs id [⟨false,.ptr id 0⟩,c1]})
   | .ptr id' 0=>ifB (id' == id) (some (.ret ⟨false,.tup []⟩,σ)) none
   | _=>none)
  | _=>none) none
 | _=>none
def zs8 (k:RowK):Bool:=k.el == k_40.el && k.sz == 1
def zsu (ds:List D) (σ:Store):Option (Out × Store):=match ds with
 | [.ptr id 0]=>bindO (aget σ.tys id) fun t=>ifB (t.t == t_27) (bindO (aget σ.objs id) fun cs=>match cs with
  | [c0,c1]=>(match c1.d with
   | .list k es=>ifB (c1.own && zs8 k && !es.isEmpty) (bindO (zf5 es) fun s=>some (.ret ⟨false,.str s⟩,{σ with objs:=aset σ.objs id [c0,⟨false,c1.d⟩]})) none
   | _=>none)
  | _=>none) none
 | _=>none
def Xa:CallF:=fun f ds σ=>ifB (f == n_92) (bindO (xItoa ds) fun d=>some (.ret ⟨false,d⟩,σ)) (ifB (f == n_93) (xCopy ds σ) (ifB (f == n_158) (zsu ds σ) none))
end Go.Fu
namespace Go.Fu
open Go Go.RowKit
theorem zf3b {P:Program} {T:TypeId} {n:Nat} (hd:(P.depth == 0)=false) (hc:P.cellsOf T=2) (hs:sameLayout P P.depth T T=true) (hn:2≤n):liesAt P P.depth T (n / P.cellsOf T) 0 T 1=true:=by
 have h0:P.depth≠0:=by simpa using hd
 obtain ⟨d,hd⟩:∃ d,P.depth=d + 1:=⟨P.depth - 1,by omega⟩
 have hk:1≤n / 2:=by omega
 rw [hd] at hs ⊢
 unfold liesAt
 rw [hd]
 unfold rowAt
 simp only [hc,hs,Nat.zero_div,Nat.zero_mod]
 simp [hk]
set_option maxHeartbeats 1000000 in
set_option maxRecDepth 100000 in
theorem ze7b (b:Nat) (w:World) (h0:w.cell? ⟨b,0,none⟩=some (.pointer (some ⟨b,0,none⟩))) :
  Calls Go.Proofs.Tryz.prog n_93 #[.pointer (some ⟨b,0,none⟩)] w fun e w'=>e=.returned (.tuple #[])∧w'=w:=by
 obtain ⟨j,hj,_⟩:=Option.map_eq_some_iff.1 (show (Go.Proofs.Tryz.prog.info? t_27).map (·.size)=some 2 by kernel_rfl)
 go_enter Go.Proofs.Tryz.func66,Go.Proofs.Tryz.ntmps66
 go_wp2
 rw [Lib.run_neq_ptr_same w _ Go.Proofs.Tryz.underlying67 hj]
 go_wp2
 go_end0
 exact ⟨rfl,rfl⟩
set_option maxHeartbeats 1000000 in
set_option maxRecDepth 100000 in
theorem zb8b (b:Nat) (w:World) (h0:w.cell? ⟨b,0,none⟩=some (.pointer none)) {n:Nat} (hn:2≤n) (hsh:w.shape? b=some (t_27,n)) (hfz:w.frozen? ⟨b,0,none⟩=false) :
  Calls Go.Proofs.Tryz.prog n_93 #[.pointer (some ⟨b,0,none⟩)] w fun e w'=>e=.returned (.tuple #[])∧w'=w.setCell ⟨b,0,none⟩ (.pointer (some ⟨b,0,none⟩)):=by
 obtain ⟨j,hj,hjs⟩:=Option.map_eq_some_iff.1 (show (Go.Proofs.Tryz.prog.info? t_27).map (·.size)=some 2 by kernel_rfl)
 go_enter Go.Proofs.Tryz.func66,Go.Proofs.Tryz.ntmps66
 go_wp2
 rw [Lib.run_to_unsafe w ⟨b,0,none⟩ Go.Proofs.Tryz.underlying67 Go.Proofs.Tryz.underlying163 hj (by rw [hjs]; decide) hsh (by show 0 < n; omega)]
 simp only [Result.andThen]
 rw [Oper.upon_value]
 go_wp2
 rw [run_callFunc_extern Go.Proofs.Tryz.func117 (by kernel_rfl) (by kernel_rfl) (by kernel_rfl) (e:=Extern.AbiNoEscape.same) (by kernel_rfl)]
 rw [Lib.run_noEscape]
 simp only [Result.andThen]
 rw [Oper.upon_value]
 go_wp2
 rw [Lib.run_from_unsafe w ⟨b,0,none⟩ Go.Proofs.Tryz.underlying163 Go.Proofs.Tryz.underlying67 hj hsh (zf3b (by kernel_rfl) (by kernel_rfl) (by kernel_rfl) hn)]
 simp only [Result.andThen]
 rw [Oper.upon_value]
 go_wp2
 go_end0
 exact ⟨rfl,rfl⟩
end Go.Fu
namespace Go.Fu
open Go Go.RowKit
set_option maxHeartbeats 2000000 in
set_option maxRecDepth 100000 in
theorem zaab (b g cap:Nat) (p:Value) (rest:List Value) (cur:Array Value) (l:List UInt8) (w:World) (h0:l≠[]) (hbk:w.heap[b]?=some (.cells ⟨p :: .slice (some ⟨g,0,none⟩) l.length cap :: rest⟩ t_27 (0,0))) (hg:w.heap[g]?=some (.cells cur 5 (0,0)))
  (hnc:l.length≤cap) (hcm:cap≤maxLen) (hcs:cur.size=cap * 1) (hcells:∀ (j:Nat) (x:UInt8),l[j]?=some x→w.cell? ⟨g,j,none⟩=some (.int .u8 x.toNat)) :
  Calls Go.Proofs.Tryz.prog n_158 #[.pointer (some ⟨b,0,none⟩)] w fun e w'=>e=.returned (.string ⟨l.toArray⟩)∧w'=w.drew.freeze ⟨g,0,none⟩ l.length:=by
 have hl0:l.length≠0:=by simpa using h0
 have c1:w.drew.cell? ⟨b,1,none⟩=some (.slice (some ⟨g,0,none⟩) l.length cap):=by
  have:w.drew.heap[b]?=some (.cells ⟨p :: .slice (some ⟨g,0,none⟩) l.length cap :: rest⟩ t_27 (0,0)):=hbk
  rw [Lib.cell_of_heap this]; rfl
 have hSD:(Builtin.unsafeSliceData_ #[68] 114 #[.slice (some ⟨g,0,none⟩) l.length cap]).run Go.Proofs.Tryz.prog w.drew=.ok (.pointer (some ⟨g,0,none⟩)) w.drew :=
  Lib.run_unsafeSliceData_row _ _ _ _ _ _ (by omega)
 have hUS:(Builtin.unsafeString_ #[114,3] 9 #[.pointer (some ⟨g,0,none⟩),.int .i64 l.length]).run Go.Proofs.Tryz.prog w.drew=.ok (.string ⟨l.toArray⟩) (w.drew.freeze ⟨g,0,none⟩ l.length):=by
  refine Lib.run_unsafeString_row w.drew 114 3 9 5 Go.Proofs.Tryz.underlying114 (by kernel_rfl) g cur.size (by have hg':w.drew.heap[g]?=some (.cells cur 5 (0,0)):=hg; simp [World.shape?,hg']) l h0 (by omega) (by unfold maxLen at hcm; omega) ?_
  intro j x hx
  have:=hcells j x hx
  simpa [Addr.add_lit] using this
 clear hcells
 go_enter Go.Proofs.Tryz.func33,Go.Proofs.Tryz.ntmps33
 go_wp2
 go_region
 all_goals (go_wp2; go_ret; exact ⟨rfl,rfl⟩)
end Go.Fu
namespace Go.Fu
open Go Go.Mx
theorem zn0:okFun Go.Proofs.Tryz.prog Go.Proofs.Tryz.f3 a_229=true:=by kernel_rfl
theorem znz:okFun Go.Proofs.Tryz.prog Go.Proofs.Tryz.f4 a_165=true:=by kernel_rfl
theorem zsh:okFun Go.Proofs.Tryz.prog Go.Proofs.Tryz.f9 a_166=true:=by kernel_rfl
theorem zug:okFun Go.Proofs.Tryz.prog Go.Proofs.Tryz.f10 a_167=true:=by kernel_rfl
theorem zzb:okFun Go.Proofs.Tryz.prog Go.Proofs.Tryz.f11 a_102=true:=by kernel_rfl
theorem zsd:okFun Go.Proofs.Tryz.prog Go.Proofs.Tryz.f13 a_206=true:=by kernel_rfl
theorem zwd:okFun Go.Proofs.Tryz.prog Go.Proofs.Tryz.f14 a_234=true:=by kernel_rfl
theorem zwa:okFun Go.Proofs.Tryz.prog Go.Proofs.Tryz.f15 a_230=true:=by kernel_rfl
theorem zwb:okFun Go.Proofs.Tryz.prog Go.Proofs.Tryz.f16 a_83=true:=by kernel_rfl
theorem zsc:okFun Go.Proofs.Tryz.prog Go.Proofs.Tryz.f17 a_80=true:=by kernel_rfl
theorem zpw:okFun Go.Proofs.Tryz.prog Go.Proofs.Tryz.f19 a_205=true:=by kernel_rfl
theorem zwe:okFun Go.Proofs.Tryz.prog Go.Proofs.Tryz.f22 a_169=true:=by kernel_rfl
theorem zy8:okFun Go.Proofs.Tryz.prog Go.Proofs.Tryz.f23 a_168=true:=by kernel_rfl
theorem zzc:okFun Go.Proofs.Tryz.prog Go.Proofs.Tryz.f24 a_50=true:=by kernel_rfl
theorem zze:okFun Go.Proofs.Tryz.prog Go.Proofs.Tryz.f25 a_170=true:=by kernel_rfl
theorem zzk:okFun Go.Proofs.Tryz.prog Go.Proofs.Tryz.f26 a_122=true:=by kernel_rfl
theorem zzd:okFun Go.Proofs.Tryz.prog Go.Proofs.Tryz.f27 a_22=true:=by kernel_rfl
theorem zzf:okFun Go.Proofs.Tryz.prog Go.Proofs.Tryz.f28 a_109=true:=by kernel_rfl
theorem zhi:okFun Go.Proofs.Tryz.prog Go.Proofs.Tryz.f29 a_253=true:=by kernel_rfl
theorem zot:okFun Go.Proofs.Tryz.prog Go.Proofs.Tryz.f31 a_220=true:=by kernel_rfl
theorem zhv:okFun Go.Proofs.Tryz.prog Go.Proofs.Tryz.f32 a_252=true:=by kernel_rfl
theorem zuf:okFun Go.Proofs.Tryz.prog Go.Proofs.Tryz.f34 a_138=true:=by kernel_rfl
theorem zzj:okFun Go.Proofs.Tryz.prog Go.Proofs.Tryz.f35 a_235=true:=by kernel_rfl
theorem zwo:okFun Go.Proofs.Tryz.prog Go.Proofs.Tryz.f36 a_143=true:=by kernel_rfl
theorem zgbb:okFun Go.Proofs.Tryz.prog Go.Proofs.Tryz.f37 a_141=true:=by kernel_rfl
theorem zm1:okFun Go.Proofs.Tryz.prog Go.Proofs.Tryz.f39 a_164=true:=by kernel_rfl
theorem zpt:okFun Go.Proofs.Tryz.prog Go.Proofs.Tryz.f40 a_160=true:=by kernel_rfl
theorem zpu:okFun Go.Proofs.Tryz.prog Go.Proofs.Tryz.f41 a_161=true:=by kernel_rfl
theorem zi7:okFun Go.Proofs.Tryz.prog Go.Proofs.Tryz.f42 a_146=true:=by kernel_rfl
theorem zpv:okFun Go.Proofs.Tryz.prog Go.Proofs.Tryz.f43 a_162=true:=by kernel_rfl
theorem zse:okFun Go.Proofs.Tryz.prog Go.Proofs.Tryz.f44 a_28=true:=by kernel_rfl
theorem zsf:okFun Go.Proofs.Tryz.prog Go.Proofs.Tryz.f45 a_96=true:=by kernel_rfl
theorem zht:okFun Go.Proofs.Tryz.prog Go.Proofs.Tryz.f46 a_145=true:=by kernel_rfl
theorem zie:okFun Go.Proofs.Tryz.prog Go.Proofs.Tryz.f47 a_144=true:=by kernel_rfl
theorem zsg:okFun Go.Proofs.Tryz.prog Go.Proofs.Tryz.f48 a_223=true:=by kernel_rfl
theorem znw:okFun Go.Proofs.Tryz.prog Go.Proofs.Tryz.f49 a_210=true:=by kernel_rfl
theorem zud:okFun Go.Proofs.Tryz.prog Go.Proofs.Tryz.f50 a_215=true:=by kernel_rfl
theorem zub:okFun Go.Proofs.Tryz.prog Go.Proofs.Tryz.f51 a_207=true:=by kernel_rfl
theorem zwk:okFun Go.Proofs.Tryz.prog Go.Proofs.Tryz.f53 a_177=true:=by kernel_rfl
theorem zuj:okFun Go.Proofs.Tryz.prog Go.Proofs.Tryz.f54 a_180=true:=by kernel_rfl
theorem zsi:okFun Go.Proofs.Tryz.prog Go.Proofs.Tryz.f55 a_173=true:=by kernel_rfl
theorem zsj:okFun Go.Proofs.Tryz.prog Go.Proofs.Tryz.f56 a_124=true:=by kernel_rfl
theorem zzg:okFun Go.Proofs.Tryz.prog Go.Proofs.Tryz.f57 a_52=true:=by kernel_rfl
theorem zc9b:okFun Go.Proofs.Tryz.prog Go.Proofs.Tryz.f58 a_176=true:=by kernel_rfl
theorem zzh:okFun Go.Proofs.Tryz.prog Go.Proofs.Tryz.f59 a_175=true:=by kernel_rfl
theorem zgcb:okFun Go.Proofs.Tryz.prog Go.Proofs.Tryz.f60 a_118=true:=by kernel_rfl
theorem zuh:okFun Go.Proofs.Tryz.prog Go.Proofs.Tryz.f61 a_37=true:=by kernel_rfl
theorem zwc:okFun Go.Proofs.Tryz.prog Go.Proofs.Tryz.f63 a_84=true:=by kernel_rfl
theorem zzi:okFun Go.Proofs.Tryz.prog Go.Proofs.Tryz.f64 a_66=true:=by kernel_rfl
theorem zwg:okFun Go.Proofs.Tryz.prog Go.Proofs.Tryz.f65 a_172=true:=by kernel_rfl
theorem zwn:okFun Go.Proofs.Tryz.prog Go.Proofs.Tryz.f68 a_4=true:=by kernel_rfl
theorem zui:okFun Go.Proofs.Tryz.prog Go.Proofs.Tryz.f69 a_10=true:=by kernel_rfl
theorem zkw:okFun Go.Proofs.Tryz.prog Go.Proofs.Tryz.f70 a_128=true:=by kernel_rfl
theorem zpy:okFun Go.Proofs.Tryz.prog Go.Proofs.Tryz.f71 a_60=true:=by kernel_rfl
theorem zpx:okFun Go.Proofs.Tryz.prog Go.Proofs.Tryz.f72 a_163=true:=by kernel_rfl
theorem zpz:okFun Go.Proofs.Tryz.prog Go.Proofs.Tryz.f73 a_81=true:=by kernel_rfl
theorem zue:okFun Go.Proofs.Tryz.prog Go.Proofs.Tryz.f74 a_94=true:=by kernel_rfl
theorem zj7:okFun Go.Proofs.Tryz.prog Go.Proofs.Tryz.f75 a_182=true:=by kernel_rfl
theorem zj8:okFun Go.Proofs.Tryz.prog Go.Proofs.Tryz.f76 a_183=true:=by kernel_rfl
theorem zjx:okFun Go.Proofs.Tryz.prog Go.Proofs.Tryz.f77 a_241=true:=by kernel_rfl
theorem zkv:okFun Go.Proofs.Tryz.prog Go.Proofs.Tryz.f78 a_240=true:=by kernel_rfl
theorem zi8:okFun Go.Proofs.Tryz.prog Go.Proofs.Tryz.f79 a_127=true:=by kernel_rfl
theorem zjy:okFun Go.Proofs.Tryz.prog Go.Proofs.Tryz.f80 a_126=true:=by kernel_rfl
theorem zp0:okFun Go.Proofs.Tryz.prog Go.Proofs.Tryz.f81 a_224=true:=by kernel_rfl
theorem zhu:okFun Go.Proofs.Tryz.prog Go.Proofs.Tryz.f82 a_244=true:=by kernel_rfl
theorem zny:okFun Go.Proofs.Tryz.prog Go.Proofs.Tryz.f83 a_225=true:=by kernel_rfl
theorem zuc:okFun Go.Proofs.Tryz.prog Go.Proofs.Tryz.f84 a_214=true:=by kernel_rfl
theorem zmg:okFun Go.Proofs.Tryz.prog Go.Proofs.Tryz.f85 a_219=true:=by kernel_rfl
theorem znx:okFun Go.Proofs.Tryz.prog Go.Proofs.Tryz.f86 a_222=true:=by kernel_rfl
theorem zp1:okFun Go.Proofs.Tryz.prog Go.Proofs.Tryz.f87 a_226=true:=by kernel_rfl
theorem zme:okFun Go.Proofs.Tryz.prog Go.Proofs.Tryz.f88 a_217=true:=by kernel_rfl
theorem zit:okFun Go.Proofs.Tryz.prog Go.Proofs.Tryz.f90 a_243=true:=by kernel_rfl
theorem zp2:okFun Go.Proofs.Tryz.prog Go.Proofs.Tryz.f92 a_227=true:=by kernel_rfl
theorem zp3:okFun Go.Proofs.Tryz.prog Go.Proofs.Tryz.f95 a_228=true:=by kernel_rfl
theorem zra:okFun Go.Proofs.Tryz.prog Go.Proofs.Tryz.f97 a_221=true:=by kernel_rfl
theorem zj5:okFun Go.Proofs.Tryz.prog Go.Proofs.Tryz.f98 a_242=true:=by kernel_rfl
theorem zmf:okFun Go.Proofs.Tryz.prog Go.Proofs.Tryz.f99 a_218=true:=by kernel_rfl
theorem zmd:okFun Go.Proofs.Tryz.prog Go.Proofs.Tryz.f101 a_216=true:=by kernel_rfl
theorem zjz:okFun Go.Proofs.Tryz.prog Go.Proofs.Tryz.f102 a_248=true:=by kernel_rfl
theorem zm0:okFun Go.Proofs.Tryz.prog Go.Proofs.Tryz.f103 a_212=true:=by kernel_rfl
theorem zq9:okFun Go.Proofs.Tryz.prog Go.Proofs.Tryz.f104 a_208=true:=by kernel_rfl
theorem zmz:okFun Go.Proofs.Tryz.prog Go.Proofs.Tryz.f105 a_211=true:=by kernel_rfl
theorem zwf:okFun Go.Proofs.Tryz.prog Go.Proofs.Tryz.f106 a_171=true:=by kernel_rfl
theorem zwm:okFun Go.Proofs.Tryz.prog Go.Proofs.Tryz.f107 a_34=true:=by kernel_rfl
theorem zwl:okFun Go.Proofs.Tryz.prog Go.Proofs.Tryz.f108 a_179=true:=by kernel_rfl
theorem zwh:okFun Go.Proofs.Tryz.prog Go.Proofs.Tryz.f109 a_139=true:=by kernel_rfl
theorem zwj:okFun Go.Proofs.Tryz.prog Go.Proofs.Tryz.f110 a_140=true:=by kernel_rfl
theorem zy9:okFun Go.Proofs.Tryz.prog Go.Proofs.Tryz.f111 a_49=true:=by kernel_rfl
theorem zwi:okFun Go.Proofs.Tryz.prog Go.Proofs.Tryz.f112 a_174=true:=by kernel_rfl
theorem zza:okFun Go.Proofs.Tryz.prog Go.Proofs.Tryz.f113 a_33=true:=by kernel_rfl
theorem zdbb:okFun Go.Proofs.Tryz.prog Go.Proofs.Tryz.f114 a_178=true:=by kernel_rfl
theorem zzl:okFun Go.Proofs.Tryz.prog Go.Proofs.Tryz.f115 a_39=true:=by kernel_rfl
theorem zc8b:okFun Go.Proofs.Tryz.prog Go.Proofs.Tryz.f116 a_64=true:=by kernel_rfl
theorem zjw:okFun Go.Proofs.Tryz.prog Go.Proofs.Tryz.f119 a_181=true:=by kernel_rfl
theorem zld:okFun Go.Proofs.Tryz.prog Go.Proofs.Tryz.f120 a_249=true:=by kernel_rfl
theorem zja:okFun Go.Proofs.Tryz.prog Go.Proofs.Tryz.f121 a_184=true:=by kernel_rfl
theorem zi9:okFun Go.Proofs.Tryz.prog Go.Proofs.Tryz.f122 a_247=true:=by kernel_rfl
theorem zj6:okFun Go.Proofs.Tryz.prog Go.Proofs.Tryz.f123 a_246=true:=by kernel_rfl
theorem zlc:okFun Go.Proofs.Tryz.prog Go.Proofs.Tryz.f126 a_245=true:=by kernel_rfl
theorem zlb:okFun Go.Proofs.Tryz.prog Go.Proofs.Tryz.f131 a_238=true:=by kernel_rfl
theorem zmh:okFun Go.Proofs.Tryz.prog Go.Proofs.Tryz.f132 a_239=true:=by kernel_rfl
theorem zm2:okFun Go.Proofs.Tryz.prog Go.Proofs.Tryz.f133 a_237=true:=by kernel_rfl
theorem zou:okFun Go.Proofs.Tryz.prog Go.Proofs.Tryz.f134 a_231=true:=by kernel_rfl
theorem zla:okFun Go.Proofs.Tryz.prog Go.Proofs.Tryz.f135 a_213=true:=by kernel_rfl
theorem zmy:okFun Go.Proofs.Tryz.prog Go.Proofs.Tryz.f141 a_209=true:=by kernel_rfl
theorem zdab:okFun Go.Proofs.Tryz.prog Go.Proofs.Tryz.f142 a_142=true:=by kernel_rfl
theorem zis:okFun Go.Proofs.Tryz.prog Go.Proofs.Tryz.f147 a_236=true:=by kernel_rfl
theorem zg9:okFun Go.Proofs.Tryz.prog Go.Proofs.Tryz.f148 a_251=true:=by kernel_rfl
theorem zp4:okFun Go.Proofs.Tryz.prog Go.Proofs.Tryz.f149 a_232=true:=by kernel_rfl
theorem zn1:okFun Go.Proofs.Tryz.prog Go.Proofs.Tryz.f160 a_233=true:=by kernel_rfl
theorem zfv:okFun Go.Proofs.Tryz.prog Go.Proofs.Tryz.f164 a_250=true:=by kernel_rfl
end Go.Fu
namespace Go.Fu
open Go Go.Mx
set_option maxRecDepth 100000
instance:LoopKit:=⟨fun N c c2=>zbd Go.Proofs.Tryz.prog N true c c2=true⟩
instance:KitOf Go.Proofs.Tryz.prog inferInstance:=⟨fun _ _ _=>Iff.rfl⟩
def Γa:FuncId→Option AFun:=fun f=>match f with
 | 3=>some a_229
 | 4=>some a_165
 | 9=>some a_166
 | 10=>some a_167
 | 11=>some a_102
 | 13=>some a_206
 | 14=>some a_234
 | 15=>some a_230
 | 16=>some a_83
 | 17=>some a_80
 | 19=>some a_205
 | 22=>some a_169
 | 23=>some a_168
 | 24=>some a_50
 | 25=>some a_170
 | 26=>some a_122
 | 27=>some a_22
 | 28=>some a_109
 | 29=>some a_253
 | 31=>some a_220
 | 32=>some a_252
 | 34=>some a_138
 | 35=>some a_235
 | 36=>some a_143
 | 37=>some a_141
 | 39=>some a_164
 | 40=>some a_160
 | 41=>some a_161
 | 42=>some a_146
 | 43=>some a_162
 | 44=>some a_28
 | 45=>some a_96
 | 46=>some a_145
 | 47=>some a_144
 | 48=>some a_223
 | 49=>some a_210
 | 50=>some a_215
 | 51=>some a_207
 | 53=>some a_177
 | 54=>some a_180
 | 55=>some a_173
 | 56=>some a_124
 | 57=>some a_52
 | 58=>some a_176
 | 59=>some a_175
 | 60=>some a_118
 | 61=>some a_37
 | 63=>some a_84
 | 64=>some a_66
 | 65=>some a_172
 | 68=>some a_4
 | 69=>some a_10
 | 70=>some a_128
 | 71=>some a_60
 | 72=>some a_163
 | 73=>some a_81
 | 74=>some a_94
 | 75=>some a_182
 | 76=>some a_183
 | 77=>some a_241
 | 78=>some a_240
 | 79=>some a_127
 | 80=>some a_126
 | 81=>some a_224
 | 82=>some a_244
 | 83=>some a_225
 | 84=>some a_214
 | 85=>some a_219
 | 86=>some a_222
 | 87=>some a_226
 | 88=>some a_217
 | 90=>some a_243
 | 92=>some a_227
 | 95=>some a_228
 | 97=>some a_221
 | 98=>some a_242
 | 99=>some a_218
 | 101=>some a_216
 | 102=>some a_248
 | 103=>some a_212
 | 104=>some a_208
 | 105=>some a_211
 | 106=>some a_171
 | 107=>some a_34
 | 108=>some a_179
 | 109=>some a_139
 | 110=>some a_140
 | 111=>some a_49
 | 112=>some a_174
 | 113=>some a_33
 | 114=>some a_178
 | 115=>some a_39
 | 116=>some a_64
 | 119=>some a_181
 | 120=>some a_249
 | 121=>some a_184
 | 122=>some a_247
 | 123=>some a_246
 | 126=>some a_245
 | 131=>some a_238
 | 132=>some a_239
 | 133=>some a_237
 | 134=>some a_231
 | 135=>some a_213
 | 141=>some a_209
 | 142=>some a_142
 | 147=>some a_236
 | 148=>some a_251
 | 149=>some a_232
 | 160=>some a_233
 | 164=>some a_250
 | _=>none
theorem Γa_holds:Holds Go.Proofs.Tryz.prog Γa:=by
 intro f af h
 unfold Γa at h
 split at h
 ·cases h; exact ⟨rfl,_,Go.Proofs.Tryz.func3,zn0⟩
 ·cases h; exact ⟨rfl,_,Go.Proofs.Tryz.func4,znz⟩
 ·cases h; exact ⟨rfl,_,Go.Proofs.Tryz.func9,zsh⟩
 ·cases h; exact ⟨rfl,_,Go.Proofs.Tryz.func10,zug⟩
 ·cases h; exact ⟨rfl,_,Go.Proofs.Tryz.func11,zzb⟩
 ·cases h; exact ⟨rfl,_,Go.Proofs.Tryz.func13,zsd⟩
 ·cases h; exact ⟨rfl,_,Go.Proofs.Tryz.func14,zwd⟩
 ·cases h; exact ⟨rfl,_,Go.Proofs.Tryz.func15,zwa⟩
 ·cases h; exact ⟨rfl,_,Go.Proofs.Tryz.func16,zwb⟩
 ·cases h; exact ⟨rfl,_,Go.Proofs.Tryz.func17,zsc⟩
 ·cases h; exact ⟨rfl,_,Go.Proofs.Tryz.func19,zpw⟩
 ·cases h; exact ⟨rfl,_,Go.Proofs.Tryz.func22,zwe⟩
 ·cases h; exact ⟨rfl,_,Go.Proofs.Tryz.func23,zy8⟩
 ·cases h; exact ⟨rfl,_,Go.Proofs.Tryz.func24,zzc⟩
 ·cases h; exact ⟨rfl,_,Go.Proofs.Tryz.func25,zze⟩
 ·cases h; exact ⟨rfl,_,Go.Proofs.Tryz.func26,zzk⟩
 ·cases h; exact ⟨rfl,_,Go.Proofs.Tryz.func27,zzd⟩
 ·cases h; exact ⟨rfl,_,Go.Proofs.Tryz.func28,zzf⟩
 ·cases h; exact ⟨rfl,_,Go.Proofs.Tryz.func29,zhi⟩
 ·cases h; exact ⟨rfl,_,Go.Proofs.Tryz.func31,zot⟩
 ·cases h; exact ⟨rfl,_,Go.Proofs.Tryz.func32,zhv⟩
 ·cases h; exact ⟨rfl,_,Go.Proofs.Tryz.func34,zuf⟩
 ·cases h; exact ⟨rfl,_,Go.Proofs.Tryz.func35,zzj⟩
 ·cases h; exact ⟨rfl,_,Go.Proofs.Tryz.func36,zwo⟩
 ·cases h; exact ⟨rfl,_,Go.Proofs.Tryz.func37,zgbb⟩
 ·cases h; exact ⟨rfl,_,Go.Proofs.Tryz.func39,zm1⟩
 ·cases h; exact ⟨rfl,_,Go.Proofs.Tryz.func40,zpt⟩
 ·cases h; exact ⟨rfl,_,Go.Proofs.Tryz.func41,zpu⟩
 ·cases h; exact ⟨rfl,_,Go.Proofs.Tryz.func42,zi7⟩
 ·cases h; exact ⟨rfl,_,Go.Proofs.Tryz.func43,zpv⟩
 ·cases h; exact ⟨rfl,_,Go.Proofs.Tryz.func44,zse⟩
 ·cases h; exact ⟨rfl,_,Go.Proofs.Tryz.func45,zsf⟩
 ·cases h; exact ⟨rfl,_,Go.Proofs.Tryz.func46,zht⟩
 ·cases h; exact ⟨rfl,_,Go.Proofs.Tryz.func47,zie⟩
 ·cases h; exact ⟨rfl,_,Go.Proofs.Tryz.func48,zsg⟩
 ·cases h; exact ⟨rfl,_,Go.Proofs.Tryz.func49,znw⟩
 ·cases h; exact ⟨rfl,_,Go.Proofs.Tryz.func50,zud⟩
 ·cases h; exact ⟨rfl,_,Go.Proofs.Tryz.func51,zub⟩
 ·cases h; exact ⟨rfl,_,Go.Proofs.Tryz.func53,zwk⟩
 ·cases h; exact ⟨rfl,_,Go.Proofs.Tryz.func54,zuj⟩
 ·cases h; exact ⟨rfl,_,Go.Proofs.Tryz.func55,zsi⟩
 ·cases h; exact ⟨rfl,_,Go.Proofs.Tryz.func56,zsj⟩
 ·cases h; exact ⟨rfl,_,Go.Proofs.Tryz.func57,zzg⟩
 ·cases h; exact ⟨rfl,_,Go.Proofs.Tryz.func58,zc9b⟩
 ·cases h; exact ⟨rfl,_,Go.Proofs.Tryz.func59,zzh⟩
 ·cases h; exact ⟨rfl,_,Go.Proofs.Tryz.func60,zgcb⟩
 ·cases h; exact ⟨rfl,_,Go.Proofs.Tryz.func61,zuh⟩
 ·cases h; exact ⟨rfl,_,Go.Proofs.Tryz.func63,zwc⟩
 ·cases h; exact ⟨rfl,_,Go.Proofs.Tryz.func64,zzi⟩
 ·cases h; exact ⟨rfl,_,Go.Proofs.Tryz.func65,zwg⟩
 ·cases h; exact ⟨rfl,_,Go.Proofs.Tryz.func68,zwn⟩
 ·cases h; exact ⟨rfl,_,Go.Proofs.Tryz.func69,zui⟩
 ·cases h; exact ⟨rfl,_,Go.Proofs.Tryz.func70,zkw⟩
 ·cases h; exact ⟨rfl,_,Go.Proofs.Tryz.func71,zpy⟩
 ·cases h; exact ⟨rfl,_,Go.Proofs.Tryz.func72,zpx⟩
 ·cases h; exact ⟨rfl,_,Go.Proofs.Tryz.func73,zpz⟩
 ·cases h; exact ⟨rfl,_,Go.Proofs.Tryz.func74,zue⟩
 ·cases h; exact ⟨rfl,_,Go.Proofs.Tryz.func75,zj7⟩
 ·cases h; exact ⟨rfl,_,Go.Proofs.Tryz.func76,zj8⟩
 ·cases h; exact ⟨rfl,_,Go.Proofs.Tryz.func77,zjx⟩
 ·cases h; exact ⟨rfl,_,Go.Proofs.Tryz.func78,zkv⟩
 ·cases h; exact ⟨rfl,_,Go.Proofs.Tryz.func79,zi8⟩
 ·cases h; exact ⟨rfl,_,Go.Proofs.Tryz.func80,zjy⟩
 ·cases h; exact ⟨rfl,_,Go.Proofs.Tryz.func81,zp0⟩
 ·cases h; exact ⟨rfl,_,Go.Proofs.Tryz.func82,zhu⟩
 ·cases h; exact ⟨rfl,_,Go.Proofs.Tryz.func83,zny⟩
 ·cases h; exact ⟨rfl,_,Go.Proofs.Tryz.func84,zuc⟩
 ·cases h; exact ⟨rfl,_,Go.Proofs.Tryz.func85,zmg⟩
 ·cases h; exact ⟨rfl,_,Go.Proofs.Tryz.func86,znx⟩
 ·cases h; exact ⟨rfl,_,Go.Proofs.Tryz.func87,zp1⟩
 ·cases h; exact ⟨rfl,_,Go.Proofs.Tryz.func88,zme⟩
 ·cases h; exact ⟨rfl,_,Go.Proofs.Tryz.func90,zit⟩
 ·cases h; exact ⟨rfl,_,Go.Proofs.Tryz.func92,zp2⟩
 ·cases h; exact ⟨rfl,_,Go.Proofs.Tryz.func95,zp3⟩
 ·cases h; exact ⟨rfl,_,Go.Proofs.Tryz.func97,zra⟩
 ·cases h; exact ⟨rfl,_,Go.Proofs.Tryz.func98,zj5⟩
 ·cases h; exact ⟨rfl,_,Go.Proofs.Tryz.func99,zmf⟩
 ·cases h; exact ⟨rfl,_,Go.Proofs.Tryz.func101,zmd⟩
 ·cases h; exact ⟨rfl,_,Go.Proofs.Tryz.func102,zjz⟩
 ·cases h; exact ⟨rfl,_,Go.Proofs.Tryz.func103,zm0⟩
 ·cases h; exact ⟨rfl,_,Go.Proofs.Tryz.func104,zq9⟩
 ·cases h; exact ⟨rfl,_,Go.Proofs.Tryz.func105,zmz⟩
 ·cases h; exact ⟨rfl,_,Go.Proofs.Tryz.func106,zwf⟩
 ·cases h; exact ⟨rfl,_,Go.Proofs.Tryz.func107,zwm⟩
 ·cases h; exact ⟨rfl,_,Go.Proofs.Tryz.func108,zwl⟩
 ·cases h; exact ⟨rfl,_,Go.Proofs.Tryz.func109,zwh⟩
 ·cases h; exact ⟨rfl,_,Go.Proofs.Tryz.func110,zwj⟩
 ·cases h; exact ⟨rfl,_,Go.Proofs.Tryz.func111,zy9⟩
 ·cases h; exact ⟨rfl,_,Go.Proofs.Tryz.func112,zwi⟩
 ·cases h; exact ⟨rfl,_,Go.Proofs.Tryz.func113,zza⟩
 ·cases h; exact ⟨rfl,_,Go.Proofs.Tryz.func114,zdbb⟩
 ·cases h; exact ⟨rfl,_,Go.Proofs.Tryz.func115,zzl⟩
 ·cases h; exact ⟨rfl,_,Go.Proofs.Tryz.func116,zc8b⟩
 ·cases h; exact ⟨rfl,_,Go.Proofs.Tryz.func119,zjw⟩
 ·cases h; exact ⟨rfl,_,Go.Proofs.Tryz.func120,zld⟩
 ·cases h; exact ⟨rfl,_,Go.Proofs.Tryz.func121,zja⟩
 ·cases h; exact ⟨rfl,_,Go.Proofs.Tryz.func122,zi9⟩
 ·cases h; exact ⟨rfl,_,Go.Proofs.Tryz.func123,zj6⟩
 ·cases h; exact ⟨rfl,_,Go.Proofs.Tryz.func126,zlc⟩
 ·cases h; exact ⟨rfl,_,Go.Proofs.Tryz.func131,zlb⟩
 ·cases h; exact ⟨rfl,_,Go.Proofs.Tryz.func132,zmh⟩
 ·cases h; exact ⟨rfl,_,Go.Proofs.Tryz.func133,zm2⟩
 ·cases h; exact ⟨rfl,_,Go.Proofs.Tryz.func134,zou⟩
 ·cases h; exact ⟨rfl,_,Go.Proofs.Tryz.func135,zla⟩
 ·cases h; exact ⟨rfl,_,Go.Proofs.Tryz.func141,zmy⟩
 ·cases h; exact ⟨rfl,_,Go.Proofs.Tryz.func142,zdab⟩
 ·cases h; exact ⟨rfl,_,Go.Proofs.Tryz.func147,zis⟩
 ·cases h; exact ⟨rfl,_,Go.Proofs.Tryz.func148,zg9⟩
 ·cases h; exact ⟨rfl,_,Go.Proofs.Tryz.func149,zp4⟩
 ·cases h; exact ⟨rfl,_,Go.Proofs.Tryz.func160,zn1⟩
 ·cases h; exact ⟨rfl,_,Go.Proofs.Tryz.func164,zfv⟩
 ·cases h
def Ra:RecF:=fun _ _ _ _=>none
theorem ze5 {κ2:Ctx}:zjo Go.Proofs.Tryz.prog κ2 Ra:=fun _ _ _ _ _ _ h=>by cases h
def zf5b (n:Nat) (f:FuncId):Bool:=match runQ Γa Ra Xa n false f [] {objs:=[],tys:=[],oth:=[],next:=0} with
 | some (.ret ⟨false,.bool true⟩,_)=>true
 | _=>false
end Go.Fu
