/-
 The program's functions as the machine's code (printed by gen2.py).
-/
import Derived.Test.YtldfbnbckiifeaaGreatDoorFgCode2
import Derived.Recover
import Derived.Test.YtldfbnbckiifeaaGreatDoorMyFrame
import Derived.Test.YtldfbnbckiifeaaGreatDoorProg
import Derived.WalkKit
import Derived.Lib.Builder
import Derived.Laws.Externs
import Derived.Lib.MakeNoZero
import Derived.Laws.IdiomCopy
import Derived.Shelf.Strings.Builder1
set_option linter.unusedSimpArgs false
set_option linter.unusedVariables false
set_option linter.unusedSectionVars false
namespace Go.Fu
open Go Go.Mx
def Ur:ACode:=(sq [mo 70 (.bin .lss (.tmp 69) (.tmp 68))] [] (.seq (.cond (.tmp 70) .skip (.exit 1)) (.seq (.block 2 (sq [mo 71 (.indexAddr 1 (.tmp 67) (.tmp 69)),ml 72 71,mw 8 72] [70,71,72] (rg [mt 73 8,mo 74 (.callv (.tmp 73) [])] [8,73,74]))) (rg [
 mo 75 (.bin .add (.tmp 69) (ci 1)),mw 69 75] [75]))))
def vW:AFun:={nargs:=3,ntmps:=76,res:=[],gc:=false,body:=(sq [mo 3 (.gbox uP (.tmp 0)),mo 4 (.box (.tmp 1))] [0,1] (sq [mf 9 0 4,ml 10 9] [9] (.block 0 (sq [mo 18 (.bin .eql (.tmp 10) (ci 8)),mw 17 18] [18] (.cond (.tmp 17) (sq [ml 19 3,
 mo 20 (.load (some 10) false (.tmp 4)),mt 21 2,ml 22 3,mo 23 (.mkFunc (.func yR) [.tmp 22] []),mo 24 (.call Vw [.tmp 19,.tmp 20,.tmp 21,.tmp 23])] [2,10,17,19,20,21,22,23,24] (rg [ml 25 3,mf 26 8 4,ml 27 26,mo 28 (.len (.tmp 27)),
 mo 29 (.call n_6 [.tmp 25,(.const (.str [83,76,73,68,69])),.tmp 28])] [3,4,25,26,27,28,29])) (sq [mo 31 (.bin .eql (.tmp 10) (ci 10)),mw 30 31] [17,31] (.cond (.tmp 30) (.seq (.region [mo 32 (.loadP none (.tmp 3)),mf 33 7 4,mo 34 (.loadB 4 none (.tmp 33)),
 mo 35 (.indexAddr 10 (.tmp 34) (ci 0)),mo 36 (.loadG (some 10) (.tmp 35)),mt 37 2,mo 38 (.call yR [.tmp 32,.tmp 36,.tmp 37])] (some [0,1,2,3,4,5,6]) [10,30,32,33,34,35,36,37,38]) (.seq (.region [mo 39 (.loadP none (.tmp 3)),mf 40 7 4,
 mo 41 (.loadB 4 none (.tmp 40)),mo 42 (.indexAddr 10 (.tmp 41) (ci 1)),mo 43 (.loadG (some 10) (.tmp 42)),mt 44 2,mo 45 (.bin .add (.tmp 44) (ci 1)),mo 46 (.call yR [.tmp 39,.tmp 43,.tmp 45])] (some [0,1,2,3,4,5,6,7]) [2,39,40,41,42,43,44,45,46]) (.region [
 mo 47 (.loadP none (.tmp 3)),mf 49 2 4,mo 50 (.loadB 4 none (.tmp 49)),mo 48 (.callW [3] Wc []),mo 51 (.lookup true (.str []) false (.tmp 48) (.tmp 50)),mo 52 (.call n_6 [.tmp 47,.tmp 51,(ci 0)])] (some [0,2,3,1,4,5]) [3,4,47,48,49,50,51,52]))) (sq [
 mo 54 (.bin .eql (.tmp 10) (ci 11)),mw 53 54] [30,54] (.cond (.tmp 53) (rg [ml 55 3,mo 56 (.call n_6 [.tmp 55,(.const (.str [70,65,73,76])),(ci 0)])] [2,3,4,10,53,55,56]) (sq [mo 58 (.bin .eql (.tmp 10) (ci 9)),mw 57 58] [10,53,58] (.cond (.tmp 57) (sq [
 mo 6 (.galloc zxu [.nils])] [57] (sq [ml 59 3,mo 60 (.load (some 10) false (.tmp 4)),mt 61 2,ml 62 3,mo 63 (.mkFunc (.func yR) [.tmp 62] []),mo 64 (.mkFunc (.func On) [] [.tmp 3,.tmp 6]),mo 65 (.mkFunc (.func Vx) [] [.tmp 3]),
 mo 66 (.call zoc [.tmp 59,.tmp 60,.tmp 61,.tmp 63,.tmp 64,.tmp 65])] [2,3,4,59,60,61,62,63,64,65,66] (sq [ml 67 6,mo 68 (.len (.tmp 67)),mo 69 (.mov (ci 0))] [6] (.block 1 (.loop Ur))))) (sq [ml 11 3,mo 12 (.load (some 10) false (.tmp 4)),
 mt 13 2,mo 14 (.call pZ [.tmp 11,.tmp 12,.tmp 13])] [2,4,11,12,13,14,57] (rg [ml 15 3,mo 16 (.call n_6 [.tmp 15,(.const (.str [69,86,65,76])),(ci 0)])] [3,15,16])))))))))))))}
def zwn:AFun:={nargs:=3,ntmps:=90,res:=[],gc:=false,body:=(sq [mo 4 (.box (.tmp 1))] [1] (.seq (.region [mt 9 0,mo 10 (.nilCheck (.tmp 9)),mf 11 1 10,mo 12 (.loadP none (.tmp 11)),mf 13 2 4,mo 14 (.loadB 4 none (.tmp 13)),
 mo 15 (.lookup true (.int .i64 0) true (.tmp 12) (.tmp 14)),mw 8 15,mo 16 (.extract (.tmp 8) 0),mo 17 (.extract (.tmp 8) 1),mw 6 16,mw 7 17] (some [0,1,2,3,4,5,6,7,8,9,10,11]) [8,9,10,11,12,13,14,15,16,17]) (.block 0 (sq [mf 30 0 4,ml 31 30,
 mo 32 (.bin .eql (.tmp 31) (ci 1)),mw 33 32,⟨some 34,.mov (.tmp 7),(some (33,true))⟩,mo 35 (.pick (.tmp 33) (.tmp 34) (.const (.bool false))),mw 29 35] [7,30,31,32,33,34,35] (.cond (.tmp 29) (rg [mt 36 0,mt 37 2,mo 38 (.bin .sub (.tmp 37) (ci 1)),mt 39 6,
 mo 40 (.bin .sub (.tmp 38) (.tmp 39)),mo 41 (.call n_6 [.tmp 36,(.const (.str [80,85,83,72,65])),.tmp 40])] [0,2,4,6,29,36,37,38,39,40,41]) (.seq (sq [mf 43 0 4,ml 44 43,mo 45 (.bin .eql (.tmp 44) (ci 1)),mw 42 45] [6,29,43,44,45] (.cond (.tmp 42) .skip (rg [
 mf 46 0 4,ml 47 46,mo 48 (.bin .eql (.tmp 47) (ci 2)),mw 42 48] [46,47,48]))) (.cond (.tmp 42) (.region [mt 49 0,mt 50 0,mo 51 (.nilCheck (.tmp 50)),mf 52 0 51,mo 53 (.loadP none (.tmp 52)),mf 54 2 4,mo 55 (.loadB 4 none (.tmp 54)),
 mo 56 (.build [.str [],.int .i64 0,.int .i64 0,.str []] [(0,1,(.const (.str [80,85,83,72,71]))),(3,1,(.tmp 55))]),mo 57 (.buildSlice k_1 [.tmp 56]),mo 58 (.append k_1 48 (.mv 53) (.tmp 57)),mo 59 (.nilCheck (.tmp 49)),mf 60 0 59,
 ⟨none,.storeP 1 (.tmp 60) (.tmp 58),none⟩] (some [0,1,2,3,4,5,6,7,8,9,10,11,12]) [0,2,4,42,49,50,51,52,53,54,55,56,57,58,59,60]) (sq [mf 62 0 4,ml 63 62,mo 64 (.bin .eql (.tmp 63) (ci 3)),mw 61 64] [42,62,63,64] (.cond (.tmp 61) (rg [mt 65 0,mf 66 1 4,ml 67 66,
 mo 68 (.call n_6 [.tmp 65,(.const (.str [80,85,83,72,73])),.tmp 67])] [0,2,4,61,65,66,67,68]) (sq [mf 70 0 4,ml 71 70,mo 72 (.bin .eql (.tmp 71) (ci 4)),mw 69 72] [61,70,71,72] (.cond (.tmp 69) (sq [mt 73 0,mf 74 7 4,ml 75 74,
 mo 76 (.indexAddr 10 (.tmp 75) (ci 1)),mo 77 (.load (some 10) false (.tmp 76)),mt 78 2,mo 79 (.call pZ [.tmp 73,.tmp 77,.tmp 78])] [69,73,74,75,76,77,78,79] (sq [mt 80 0,mf 81 7 4,ml 82 81,mo 83 (.indexAddr 10 (.tmp 82) (ci 0)),
 mo 84 (.load (some 10) false (.tmp 83)),mt 85 2,mo 86 (.bin .add (.tmp 85) (ci 1)),mo 87 (.call pZ [.tmp 80,.tmp 84,.tmp 86])] [2,4,80,81,82,83,84,85,86,87] (rg [mt 88 0,
 mo 89 (.call n_6 [.tmp 88,(.const (.str [77,75,65,80])),(ci 0)])] [0,88,89]))) (sq [mt 18 0,mo 19 (.load (some 10) false (.tmp 4)),mt 20 2,mt 21 0,mo 22 (.mkFunc (.func pZ) [.tmp 21] []),
 mo 23 (.call Vw [.tmp 18,.tmp 19,.tmp 20,.tmp 22])] [2,18,19,20,21,22,23,69] (rg [mt 24 0,mf 25 8 4,ml 26 25,mo 27 (.len (.tmp 26)),mo 28 (.call n_6 [.tmp 24,(.const (.str [83,76,73,68,69])),.tmp 27])] [0,4,24,25,26,27,28])))))))))))))}
def zdib:ACode:=(.block 1 (rg [mo 8 (.load none true (.tmp 2)),mt 9 5,mo 10 (.buildSlice k_0 [.tmp 9]),mo 11 (.append k_0 16 (.mv 8) (.tmp 10)),⟨none,.store 1 (.tmp 2) (.mv 11),none⟩] [2,5,8,9,10,11]))
def zwz:AFun:={nargs:=2,ntmps:=13,res:=[.tmp 4],gc:=false,body:=(sq [mo 2 (.gbox t_8 (.tmp 0)),mo 4 (.mov (.const .nils))] [0,4] (.seq (sq [mt 6 1] [1] (.block 0 (.rangeF (.tmp 6) [7] (rg [mt 5 7] [6,7]) zdib))) (sq [
 mo 12 (.load none true (.tmp 2)),mw 4 12] [2,6,12] .ret)))}
def zdqb:ACode:=(.block 1 (sq [mt 19 2,mt 20 1,mo 21 (.bin .sub (.tmp 19) (.tmp 20)),mw 10 21] [19,20,21] (.seq (sq [mt 22 10,mo 23 (.bin .leq (.tmp 22) (ci 12))] [22] (.cond (.tmp 23) (sq [mw 24 0,mw 25 1,mw 26 2,
 mo 27 (.call zenb [.tmp 24,.tmp 25,.tmp 26])] [0,1,2,3,8,9,10,23,24,25,26,27] .ret) .skip)) (.seq (sq [mt 28 3,mo 29 (.bin .eql (.tmp 28) (ci 0))] [23,28] (.cond (.tmp 29) (sq [mw 30 0,mw 31 1,mw 32 2,
 mo 33 (.call zemb [.tmp 30,.tmp 31,.tmp 32])] [0,1,2,3,8,9,10,29,30,31,32,33] .ret) .skip)) (.seq (sq [mt 34 8,mo 35 (.un .not (.tmp 34))] [29,34] (.cond (.tmp 35) (sq [mt 36 0,mt 37 1,mt 38 2,
 mo 39 (.call zekb [.tmp 36,.tmp 37,.tmp 38])] [35,36,37,38,39] (rg [mt 40 3,mo 41 (.bin .sub (.tmp 40) (ci 1)),mw 3 41] [40,41])) .skip)) (sq [mt 43 0,mt 44 1,mt 45 2,mo 46 (.call zelb [.tmp 43,.tmp 44,.tmp 45]),mw 42 46,
 mo 47 (.extract (.tmp 42) 0),mo 48 (.extract (.tmp 42) 1),mw 11 47,mw 12 48] [35,42,43,44,45,46,47,48] (.seq (sq [mt 49 12,mo 50 (.bin .eql (.tmp 49) (ci 2))] [49] (.cond (.tmp 50) (sq [mt 51 0,mt 52 1,mt 53 2,
 mo 54 (.call zerb [.tmp 51,.tmp 52,.tmp 53])] [12,50,51,52,53,54] (sq [mt 55 2,mo 56 (.bin .sub (.tmp 55) (ci 1)),mt 57 11,mt 58 1,mo 59 (.bin .sub (.tmp 57) (.tmp 58)),mo 60 (.bin .sub (.tmp 56) (.tmp 59)),mw 11 60] [55,56,57,58,59,60] (rg [
 mo 12 (.mov (ci 1))] []))) .skip)) (.seq (sq [mt 61 8,mw 62 61,⟨some 63,.mov (.tmp 9),(some (62,true))⟩,mo 64 (.pick (.tmp 62) (.tmp 63) (.const (.bool false))),mw 65 64,⟨some 66,.mov (.tmp 12),(some (65,true))⟩,⟨some 67,.bin .eql (.tmp 66) (ci 1),(some (65,true))⟩,
 mo 68 (.pick (.tmp 65) (.tmp 67) (.const (.bool false)))] [12,50,61,62,63,64,65,66,67] (.cond (.tmp 68) (sq [mt 69 0,mt 70 1,mt 71 2,mo 72 (.call zeob [.tmp 69,.tmp 70,.tmp 71])] [68,69,70,71] (.cond (.tmp 72) .ret .skip)) .skip)) (.seq (.seq
 (.region [mt 73 1,mo 74 (.bin .gtr (.tmp 73) (ci 0)),mw 75 74,⟨some 76,.mov (.tmp 0),(some (75,true))⟩,⟨some 77,.mov (.tmp 1),(some (75,true))⟩,⟨some 78,.bin .sub (.tmp 77) (ci 1),(some (75,true))⟩,⟨some 79,.indexAddr 1 (.tmp 76) (.tmp 78),(some (75,true))⟩,
 ⟨some 80,.loadG none (.tmp 79),(some (75,true))⟩,⟨some 81,.mov (.tmp 0),(some (75,true))⟩,⟨some 82,.mov (.tmp 11),(some (75,true))⟩,⟨some 83,.indexAddr 1 (.tmp 81) (.tmp 82),(some (75,true))⟩,⟨some 84,.loadG none (.tmp 83),(some (75,true))⟩,
 ⟨some 85,.call zxh [.tmp 80,.tmp 84],(some (75,true))⟩,⟨some 86,.un .not (.tmp 85),(some (75,true))⟩,
 mo 87 (.pick (.tmp 75) (.tmp 86) (.const (.bool false)))] (some [0,1,2,3,4,5,6,7,8,9,10,11,12,13,14]) [68,72,73,74,75,76,77,78,79,80,81,82,83,84,85,86]) (.cond (.tmp 87) (sq [mt 88 0,mt 89 1,mt 90 2,mt 91 11,
 mo 92 (.call zepb [.tmp 88,.tmp 89,.tmp 90,.tmp 91]),mw 13 92] [1,10,11,87,88,89,90,91,92] (sq [mt 93 13,mw 1 93] [13,93] (.exit 1))) .skip)) (sq [mt 95 0,mt 96 1,mt 97 2,mt 98 11,
 mo 99 (.call zeqb [.tmp 95,.tmp 96,.tmp 97,.tmp 98]),mw 94 99,mo 100 (.extract (.tmp 94) 0),mo 101 (.extract (.tmp 94) 1),mw 14 100,mw 15 101] [8,9,11,87,94,95,96,97,98,99,100,101] (sq [mt 102 15,mw 9 102] [15,102] (sq [mt 103 14,mt 104 1,
 mo 105 (.bin .sub (.tmp 103) (.tmp 104)),mt 106 2,mt 107 14,mo 108 (.bin .sub (.tmp 106) (.tmp 107)),mw 16 105,mw 17 108] [103,104,105,106,107,108] (sq [mt 109 10,mo 110 (.bin .quo (.tmp 109) (ci 8)),mw 18 110] [10,109,110] (sq [mt 111 16,mt 112 17,
 mo 113 (.bin .lss (.tmp 111) (.tmp 112))] [111,112] (.cond (.tmp 113) (sq [mt 114 16,mt 115 18,mo 116 (.bin .geq (.tmp 114) (.tmp 115)),mw 8 116] [16,17,18,113,114,115,116] (sq [mt 117 0,mt 118 1,mt 119 14,mt 120 3,
 mo 121 (.call zoi [.tmp 117,.tmp 118,.tmp 119,.tmp 120])] [1,117,118,119,120,121] (rg [mt 122 14,mo 123 (.bin .add (.tmp 122) (ci 1)),mw 1 123] [14,122,123]))) (sq [mt 124 17,mt 125 18,mo 126 (.bin .geq (.tmp 124) (.tmp 125)),
 mw 8 126] [16,17,18,113,124,125,126] (sq [mt 127 0,mt 128 14,mo 129 (.bin .add (.tmp 128) (ci 1)),mt 130 2,mt 131 3,mo 132 (.call zoi [.tmp 127,.tmp 129,.tmp 130,.tmp 131])] [2,127,128,129,130,131,132] (rg [mt 133 14,
 mw 2 133] [14,133]))))))))))))))))))
def zxa:AFun:={nargs:=4,ntmps:=134,res:=[],gc:=false,body:=(sq [mo 8 (.mov (.const (.bool true)))] [] (sq [mo 9 (.mov (.const (.bool true)))] [] (.block 0 (.loop zdqb))))}
def zwx:AFun:={nargs:=1,ntmps:=8,res:=[.tmp 2],gc:=false,body:=(sq [mo 2 (.mov (ci 0))] [2] (.seq (.cond (.const (.bool false)) (sq [mw 3 0,mo 4 (.toInt .u32 (.tmp 3)),mo 5 (.call zegb [.tmp 4]),mw 2 5] [0,3,4,5] .ret) .skip) (sq [mw 6 0,
 mo 7 (.call zehb [.tmp 6]),mw 2 7] [0,6,7] .ret)))}
def Jh:AFun:={nargs:=4,ntmps:=35,res:=[.tmp 6],gc:=false,body:=(sq [mo 4 (.box (.tmp 0)),mo 6 (.mov (.const (.bool false)))] [0,6] (.seq (sq [mf 7 0 4,ml 8 7,mo 9 (.bin .eql (.tmp 8) (ci 1)),mw 10 9,⟨some 11,.mov (.tmp 1),(some (10,true))⟩,
 ⟨some 12,.fieldAddr 2 none (.tmp 4),(some (10,true))⟩,⟨some 13,.load none false (.tmp 12),(some (10,true))⟩,⟨some 14,.call qA [.tmp 11,.tmp 13],(some (10,true))⟩,⟨some 15,.un .not (.tmp 14),(some (10,true))⟩,
 mo 16 (.pick (.tmp 10) (.tmp 15) (.const (.bool false))),mw 17 16,⟨some 18,.load none false (.tmp 2),(some (17,true))⟩,⟨some 19,.fieldAddr 2 none (.tmp 4),(some (17,true))⟩,⟨some 20,.load none false (.tmp 19),(some (17,true))⟩,
 ⟨some 21,.call qA [.tmp 18,.tmp 20],(some (17,true))⟩,mo 22 (.pick (.tmp 17) (.tmp 21) (.const (.bool false))),mw 23 22,⟨some 24,.load none false (.tmp 3),(some (23,true))⟩,⟨some 25,.fieldAddr 2 none (.tmp 4),(some (23,true))⟩,
 ⟨some 26,.load none false (.tmp 25),(some (23,true))⟩,⟨some 27,.call qA [.tmp 24,.tmp 26],(some (23,true))⟩,⟨some 28,.un .not (.tmp 27),(some (23,true))⟩,
 mo 29 (.pick (.tmp 23) (.tmp 28) (.const (.bool false)))] [1,2,7,8,9,10,11,12,13,14,15,16,17,18,19,20,21,22,23,24,25,26,27,28] (.cond (.tmp 29) (rg [mo 30 (.load none true (.tmp 3)),mf 31 2 4,ml 32 31,mo 33 (.buildSlice k_0 [.tmp 32]),
 mo 34 (.append k_0 16 (.mv 30) (.tmp 33)),⟨none,.store 1 (.tmp 3) (.mv 34),none⟩] [3,4,29,30,31,32,33,34]) .skip)) (sq [mo 6 (.mov (.const (.bool true)))] [3,4,29] .ret)))}
def zwd:ACode:=(sq [mo 29 (.bin .lss (.tmp 28) (.tmp 27))] [] (.seq (.cond (.tmp 29) .skip (.exit 0)) (.seq (.block 1 (sq [mt 30 28,mw 3 30] [29,30] (.region [mf 31 8 1,mo 32 (.loadP none (.tmp 31)),mt 33 3,mf 34 8 1,mo 35 (.loadP none (.tmp 34)),mt 36 3,
 mo 37 (.indexAddr 15 (.tmp 35) (.tmp 36)),mo 38 (.fieldAddr 1 (some 4) (.tmp 37)),mo 39 (.loadG (some 4) (.tmp 38)),mo 40 (.callW [31] zob [.tmp 39]),mo 41 (.indexAddr 15 (.tmp 32) (.tmp 33)),mo 42 (.fieldAddr 1 (some 4) (.tmp 41)),
 ⟨none,.storeP 4 (.tmp 42) (.tmp 40),none⟩] (some [0,1,2,3,4,5,6,7,8,9,10,11,12]) [3,31,32,33,34,35,36,37,38,39,40,41,42]))) (rg [mo 43 (.bin .add (.tmp 28) (ci 1)),mw 28 43] [43]))))
def zwe:ACode:=(sq [mo 48 (.bin .lss (.tmp 47) (.tmp 46))] [] (.seq (.cond (.tmp 48) .skip (.exit 2)) (.seq (.block 3 (sq [mt 49 47,mw 4 49] [48,49] (.region [mf 50 9 1,mo 51 (.loadP none (.tmp 50)),mt 52 4,mf 53 9 1,mo 54 (.loadP none (.tmp 53)),mt 55 4,
 mo 56 (.indexAddr 14 (.tmp 54) (.tmp 55)),mf 57 3 56,mo 58 (.loadG none (.tmp 57)),mo 59 (.callW [50] wG [.tmp 58]),mo 60 (.indexAddr 14 (.tmp 51) (.tmp 52)),mf 61 3 60,
 ⟨none,.storeP 1 (.tmp 61) (.tmp 59),none⟩] (some [0,1,2,3,4,5,6,7,8,9,10,11,12]) [4,50,51,52,53,54,55,56,57,58,59,60,61]))) (rg [mo 62 (.bin .add (.tmp 47) (ci 1)),mw 47 62] [62]))))
def zwf:ACode:=(sq [mo 73 (.bin .lss (.tmp 72) (.tmp 71))] [] (.seq (.cond (.tmp 73) .skip (.exit 6)) (.seq (.block 7 (sq [mo 74 (.indexAddr 1 (.tmp 70) (.tmp 72)),ml 75 74,mw 8 75] [73,74,75] (rg [mt 76 8,mt 77 8,mo 78 (.nilCheck (.tmp 77)),
 mo 79 (.load (some 10) false (.tmp 78)),mo 80 (.call Ld [.tmp 79]),mo 81 (.nilCheck (.tmp 76)),⟨none,.store 10 (.tmp 81) (.mv 80),none⟩] [8,76,77,78,79,80,81]))) (rg [mo 82 (.bin .add (.tmp 72) (ci 1)),mw 72 82] [82]))))
def zwg:ACode:=(sq [mo 66 (.bin .lss (.tmp 65) (.tmp 64))] [] (.seq (.cond (.tmp 66) .skip (.exit 4)) (.seq (.block 5 (sq [mo 67 (.indexAddr 2 (.tmp 63) (.tmp 65)),mo 68 (.load (some 2) false (.tmp 67)),mo 6 (.alloc [.nils,.nils]),
 ⟨none,.store 2 (.tmp 6) (.mv 68),none⟩] [66,67,68] (sq [mf 69 1 6,ml 70 69,mo 71 (.len (.tmp 70)),mo 72 (.mov (ci 0))] [6,69] (.block 6 (.loop zwf))))) (rg [mo 83 (.bin .add (.tmp 65) (ci 1)),mw 65 83] [70,71,72,73,83]))))
def zc9:AFun:={nargs:=1,ntmps:=85,res:=[.cell 2 (some 10)],gc:=false,body:=(sq [mo 1 (.gbox zfm (.tmp 0)),mo 2 (.alloc [.int .i64 0,.int .i64 0,.str [],.int .i64 0,.int .i64 0,.str [],.nils,.nils,.nils,.nils])] [0] (sq [
 mo 9 (.fieldAddr 3 (some 4) (.tmp 1)),mo 10 (.load (some 4) false (.tmp 9)),mo 11 (.call zob [.tmp 10]),mo 12 (.fieldAddr 3 (some 4) (.tmp 1)),⟨none,.store 4 (.tmp 12) (.mv 11),none⟩] [9,10,11,12] (.seq (.region [mf 13 7 1,mo 14 (.loadP none (.tmp 13)),mf 16 8 1,
 mo 17 (.loadP none (.tmp 16)),mf 19 9 1,mo 20 (.loadP none (.tmp 19)),mo 15 (.callW [16,19] Gq [.tmp 14]),mo 18 (.callW [19] Gp [.tmp 17]),mo 21 (.call Gn [.tmp 20]),mf 22 7 1,⟨none,.storeP 1 (.tmp 22) (.tmp 15),none⟩,mf 23 8 1,
 ⟨none,.storeP 1 (.tmp 23) (.tmp 18),none⟩,mf 24 9 1,⟨none,.storeP 1 (.tmp 24) (.tmp 21),none⟩] (some [0,1,3,4,6,7,2,5,8,9,10,11,12,13,14]) [13,14,15,16,17,18,19,20,21,22,23,24]) (.seq (sq [mf 25 8 1,ml 26 25,mo 27 (.len (.tmp 26)),mo 28 (.mov (ci 0))] [25,26]
 (.block 0 (.loop zwd))) (.seq (sq [mf 44 9 1,ml 45 44,mo 46 (.len (.tmp 45)),mo 47 (.mov (ci 0))] [27,28,29,44,45] (.block 2 (.loop zwe))) (.seq (sq [mo 63 (.call zes [.tmp 1]),mo 64 (.len (.tmp 63)),mo 65 (.mov (ci 0))] [46,47,48] (.block 4
 (.loop zwg))) (sq [mo 84 (.load (some 10) true (.tmp 1)),⟨none,.store 10 (.tmp 2) (.mv 84),none⟩] [1,63,64,65,66,84] .ret)))))))}
def Yk:ACode:=(sq [mo 11 (.bin .lss (.tmp 10) (.tmp 9))] [] (.seq (.cond (.tmp 11) .skip (.exit 0)) (.seq (.block 1 (sq [mt 12 10,mo 13 (.indexAddr 15 (.tmp 8) (.tmp 10)),mo 14 (.load (some 15) false (.tmp 13)),
 mo 6 (.alloc [.str [],.int .i64 0,.int .i64 0,.str [],.nils,.int .i64 0,.int .i64 0,.str [],.int .i64 0,.int .i64 0,.str [],.nils,.nils,.nils,.nils]),mw 5 12,⟨none,.store 15 (.tmp 6) (.mv 14),none⟩] [11,12,13,14] (sq [ml 15 1,mo 16 (.fieldAddr 5 (some 10) (.tmp 6)),
 mo 17 (.load (some 10) false (.tmp 16)),ml 18 2,ml 19 3,mo 20 (.bin .add (.tmp 18) (.tmp 19)),mo 21 (.call pZ [.tmp 15,.tmp 17,.tmp 20])] [6,15,16,17,18,19,20,21] (rg [ml 22 1,ml 23 3,mo 24 (.bin .sub (.tmp 23) (ci 1)),mt 25 5,mo 26 (.bin .sub (.tmp 24) (.tmp 25)),
 mo 27 (.call n_6 [.tmp 22,(.const (.str [85,80,68,65,84,69])),.tmp 26])] [5,22,23,24,25,26,27])))) (rg [mo 28 (.bin .add (.tmp 10) (ci 1)),mw 10 28] [28]))))
def zdh:AFun:={nargs:=5,ntmps:=38,res:=[],gc:=false,body:=(.seq (sq [mf 7 8 0,ml 8 7,mo 9 (.len (.tmp 8)),mo 10 (.mov (ci 0))] [7] (.block 0 (.loop Yk))) (.region [mo 29 (.loadP none (.tmp 4)),mf 30 7 0,mo 31 (.loadP none (.tmp 30)),
 mo 32 (.indexAddr 10 (.tmp 31) (ci 0)),mo 33 (.loadG (some 10) (.tmp 32)),mo 34 (.loadP none (.tmp 2)),mo 35 (.loadP none (.tmp 3)),mo 36 (.bin .add (.tmp 34) (.tmp 35)),
 mo 37 (.callv (.tmp 29) [.tmp 33,.tmp 36])] (some [0,1,2,3,4,5,6,7,8]) [0,1,2,3,4,8,9,10,11,29,30,31,32,33,34,35,36,37]))}
def zde:AFun:={nargs:=0,ntmps:=0,res:=[],gc:=false,body:=.skip}
def zdf:AFun:={nargs:=4,ntmps:=12,res:=[],gc:=false,body:=(rg [ml 4 0,mo 5 (.fieldAddr 4 (some 10) (.tmp 1)),mo 6 (.load (some 10) false (.tmp 5)),ml 7 2,ml 8 3,mo 9 (.len (.tmp 8)),mo 10 (.bin .add (.tmp 7) (.tmp 9)),
 mo 11 (.callv (.tmp 4) [.tmp 6,.tmp 10])] [0,1,2,3,4,5,6,7,8,9,10,11])}
def zdi:AFun:={nargs:=1,ntmps:=5,res:=[],gc:=false,body:=(sq [ml 1 0,mo 2 (.call n_6 [.tmp 1,(.const (.str [80,79,80])),(ci 1)])] [1,2] (rg [ml 3 0,
 mo 4 (.call n_6 [.tmp 3,(.const (.str [70,65,73,76])),(ci 0)])] [0,3,4]))}
def zwy:AFun:={nargs:=1,ntmps:=25,res:=[.tmp 2],gc:=false,body:=(sq [mo 2 (.mov (ci 0))] [] (.seq (sq [mt 3 0,mo 4 (.bin .geq (.tmp 3) (.const (.int .u64 4294967296)))] [3] (.cond (.tmp 4) (sq [mt 5 0,mo 6 (.bin .shr (.tmp 5) (.const (.int .u64 32))),
 mw 0 6] [2,4,5,6] (rg [mo 2 (.mov (ci 32))] [])) .skip)) (.seq (sq [mt 7 0,mo 8 (.bin .geq (.tmp 7) (.const (.int .u64 65536)))] [4,7] (.cond (.tmp 8) (sq [mt 9 0,mo 10 (.bin .shr (.tmp 9) (.const (.int .u64 16))),mw 0 10] [8,9,10] (rg [mt 11 2,mo 12 (.bin .add (.tmp 11) (ci 16)),
 mw 2 12] [11,12])) .skip)) (.seq (sq [mt 13 0,mo 14 (.bin .geq (.tmp 13) (.const (.int .u64 256)))] [8,13] (.cond (.tmp 14) (sq [mt 15 0,mo 16 (.bin .shr (.tmp 15) (.const (.int .u64 8))),mw 0 16] [14,15,16] (rg [mt 17 2,mo 18 (.bin .add (.tmp 17) (ci 8)),mw 2 18] [17,18])) .skip))
 (sq [mt 19 2,mw 20 0,mo 21 (.toInt .u8 (.tmp 20)),
 mo 22 (.index (.const (.str [0,1,2,2,3,3,3,3,4,4,4,4,4,4,4,4,5,5,5,5,5,5,5,5,5,5,5,5,5,5,5,5,6,6,6,6,6,6,6,6,6,6,6,6,6,6,6,6,6,6,6,6,6,6,6,6,6,6,6,6,6,6,6,6,7,7,7,7,7,7,7,7,7,7,7,7,7,7,7,7,7,7,7,7,7,7,7,7,7,7,7,7,7,7,7,7,7,7,7,7,7,7,7,7,7,7,7,7,7,7,7,7,7,7,7,7,7,7,7,7,7,7,7,7,7,7,7,7,8,8,8,8,8,8,8,8,8,8,8,8,8,8,8,8,8,8,8,8,8,8,8,8,8,8,8,8,8,8,8,8,8,8,8,8,8,8,8,8,8,8,8,8,8,8,8,8,8,8,8,8,8,8,8,8,8,8,8,8,8,8,8,8,8,8,8,8,8,8,8,8,8,8,8,8,8,8,8,8,8,8,8,8,8,8,8,8,8,8,8,8,8,8,8,8,8,8,8,8,8,8,8,8,8,8,8,8,8,8,8,8,8,8,8,8,8,8,8,8,8,8,8,8,8,8,8,8])) (.tmp 21)),
 mo 23 (.toInt .i64 (.tmp 22)),mo 24 (.bin .add (.tmp 19) (.tmp 23)),mw 2 24] [0,14,19,20,21,22,23,24] .ret)))))}
def zdob:ACode:=(.seq (.seq (.region [mt 16 7,mt 17 1,mo 18 (.bin .gtr (.tmp 16) (.tmp 17)),mw 19 18,⟨some 20,.mov (.tmp 0),(some (19,true))⟩,⟨some 21,.mov (.tmp 7),(some (19,true))⟩,⟨some 22,.indexAddr 1 (.tmp 20) (.tmp 21),(some (19,true))⟩,
 ⟨some 23,.loadG none (.tmp 22),(some (19,true))⟩,⟨some 24,.mov (.tmp 0),(some (19,true))⟩,⟨some 25,.mov (.tmp 7),(some (19,true))⟩,⟨some 26,.bin .sub (.tmp 25) (ci 1),(some (19,true))⟩,⟨some 27,.indexAddr 1 (.tmp 24) (.tmp 26),(some (19,true))⟩,
 ⟨some 28,.loadG none (.tmp 27),(some (19,true))⟩,⟨some 29,.call zxh [.tmp 23,.tmp 28],(some (19,true))⟩,mo 30 (.pick (.tmp 19) (.tmp 29) (.const (.bool false)))] (some [0,1,2,3,4,5,6,7,8,9,10,11,12,13,14]) [16,17,18,19,20,21,22,23,24,25,26,27,28,29])
 (.cond (.tmp 30) .skip (.exit 2))) (.seq (.block 3 (.region [mt 33 0,mt 34 7,mt 35 0,mt 36 7,mo 37 (.bin .sub (.tmp 36) (ci 1)),mt 38 0,mt 39 7,mo 40 (.bin .sub (.tmp 39) (ci 1)),mo 41 (.indexAddr 1 (.tmp 38) (.tmp 40)),mo 42 (.loadG none (.tmp 41)),mt 43 0,mt 44 7,
 mo 45 (.indexAddr 1 (.tmp 43) (.tmp 44)),mo 46 (.loadG none (.tmp 45)),mo 47 (.indexAddr 1 (.tmp 33) (.tmp 34)),⟨none,.storeP 1 (.tmp 47) (.tmp 42),none⟩,mo 48 (.indexAddr 1 (.tmp 35) (.tmp 37)),
 ⟨none,.storeP 1 (.tmp 48) (.tmp 46),none⟩] (some [0,1,2,3,4,5,6,7,8,9,10,11,12,13,14,15,16,17]) [30,33,34,35,36,37,38,39,40,41,42,43,44,45,46,47,48])) (rg [mt 31 7,mo 32 (.bin .sub (.tmp 31) (ci 1)),mw 7 32] [31,32])))
def zdpb:ACode:=(.seq (sq [mt 10 6,mt 11 2,mo 12 (.bin .lss (.tmp 10) (.tmp 11))] [10,11] (.cond (.tmp 12) .skip (.exit 0))) (.seq (.block 1 (sq [mt 15 6,mw 7 15] [12,15] (.block 2 (.loop zdob)))) (rg [mt 13 6,
 mo 14 (.bin .add (.tmp 13) (ci 1)),mw 6 14] [7,13,14,30])))
def zw9:AFun:={nargs:=3,ntmps:=49,res:=[],gc:=false,body:=(sq [mt 8 1,mo 9 (.bin .add (.tmp 8) (ci 1)),mw 6 9] [8,9] (.block 0 (.loop zdpb)))}
def zda:AFun:={nargs:=1,ntmps:=5,res:=[.cell 2 (some 4)],gc:=false,body:=(sq [mo 1 (.box (.tmp 0)),mo 2 (.alloc [.int .i64 0,.int .i64 0,.str [],.nils])] [0] (sq [mo 3 (.load (some 4) false (.tmp 1)),mo 4 (.call zfb [.tmp 3,(.const .nils),(.const .nils)]),
 ⟨none,.store 4 (.tmp 2) (.mv 4),none⟩] [1,3,4] .ret))}
def zmp:AFun:={nargs:=2,ntmps:=14,res:=[],gc:=false,body:=(.region [mo 2 (.loadP none (.tmp 0)),mo 3 (.nilCheck (.tmp 2)),mf 4 0 3,mo 5 (.loadP none (.tmp 4)),mo 6 (.loadP none (.tmp 1)),mo 7 (.loadP none (.tmp 0)),mo 8 (.nilCheck (.tmp 7)),mf 9 0 8,
 mo 10 (.loadP none (.tmp 9)),mo 11 (.len (.tmp 10)),mo 12 (.indexAddr 4 (.tmp 5) (.tmp 6)),mf 13 1 12,⟨none,.storeP 1 (.tmp 13) (.tmp 11),none⟩] (some [0,1,2,3,4,5,6,7,8,9,10,11,12]) [0,1,2,3,4,5,6,7,8,9,10,11,12,13])}
def zeh:AFun:={nargs:=3,ntmps:=48,res:=[.cell 6 (some 4)],gc:=false,body:=(sq [mo 3 (.box (.tmp 0)),mo 6 (.alloc [.int .i64 0,.int .i64 0,.str [],.nils])] [0] (.seq (sq [mf 8 0 3,ml 9 8] [8] (.block 0 (sq [mo 11 (.bin .eql (.tmp 9) (ci 2)),mw 10 11] [11]
 (.cond (.tmp 10) (sq [mt 12 1,mf 13 2 3,ml 14 13,mo 15 (.call Sr [.tmp 12,.tmp 14]),mw 7 15] [1,9,10,12,13,14,15] (sq [mt 16 7,mo 17 (.bin .geq (.tmp 16) (ci 0))] [16] (.cond (.tmp 17) (sq [mw 18 2,mw 19 7,mo 20 (.indexAddr 4 (.tmp 18) (.tmp 19)),
 mo 21 (.load (some 4) false (.tmp 20)),mo 22 (.call zfc [.tmp 21]),⟨none,.store 4 (.tmp 6) (.mv 22),none⟩] [2,3,7,17,18,19,20,21,22] .ret) .skip))) (sq [mo 24 (.bin .eql (.tmp 9) (ci 4)),mw 23 24] [10,24] (.cond (.tmp 23) (.seq (.region [mf 25 3 3,
 mo 26 (.loadB 3 none (.tmp 25)),mo 27 (.indexAddr 4 (.tmp 26) (ci 0)),mo 28 (.loadG (some 4) (.tmp 27)),mt 29 1,mt 30 2,mf 32 3 3,mo 33 (.loadB 3 none (.tmp 32)),mo 34 (.indexAddr 4 (.tmp 33) (ci 1)),mo 35 (.loadG (some 4) (.tmp 34)),mt 36 1,mt 37 2,
 mo 31 (.callW [34] zfb [.tmp 28,.tmp 29,.tmp 30]),mo 38 (.call zfb [.tmp 35,.tmp 36,.tmp 37]),mo 39 (.call zesb [.tmp 31,.tmp 38]),
 ⟨none,.storeB 6 4 (.tmp 6) (.mv 39),none⟩] (some [0,1,2,3,4,5,7,8,9,10,11,12,6,13,14,15]) [1,2,3,9,23,25,26,27,28,29,30,31,32,33,34,35,36,37,38,39]) .ret) (sq [mo 41 (.bin .eql (.tmp 9) (ci 5)),mw 40 41] [9,23,41] (.cond (.tmp 40) (sq [
 mo 42 (.load (some 4) false (.tmp 3)),mw 43 1,mw 44 2,mo 45 (.call zetb [.tmp 42,.tmp 43,.tmp 44]),⟨none,.store 4 (.tmp 6) (.mv 45),none⟩] [1,2,3,40,42,43,44,45] .ret) .skip)))))))) (sq [mo 46 (.load (some 4) false (.tmp 3)),mo 47 (.call zfc [.tmp 46]),
 ⟨none,.store 4 (.tmp 6) (.mv 47),none⟩] [1,2,3,7,17,40,46,47] .ret)))}
def zxb:ACode:=(sq [mo 10 (.bin .lss (.tmp 9) (.tmp 8))] [] (.seq (.cond (.tmp 10) .skip (.exit 0)) (.seq (.block 1 (sq [mo 11 (.indexAddr 4 (.tmp 7) (.tmp 9)),mo 12 (.load (some 4) false (.tmp 11)),mo 5 (.alloc [.int .i64 0,.int .i64 0,.str [],.nils]),
 ⟨none,.store 4 (.tmp 5) (.mv 12),none⟩] [10,11,12] (rg [mw 13 3,mo 14 (.load (some 4) false (.tmp 5)),mo 15 (.call zfc [.tmp 14]),mo 16 (.buildSlice zad [.tmp 15]),mo 17 (.append zad 56 (.mv 13) (.tmp 16)),mw 3 17] [5,13,14,15,16,17]))) (rg [
 mo 18 (.bin .add (.tmp 9) (ci 1)),mw 9 18] [18]))))
def zei:AFun:={nargs:=1,ntmps:=22,res:=[.cell 2 (some 4)],gc:=false,body:=(sq [mo 1 (.box (.tmp 0)),mo 2 (.alloc [.int .i64 0,.int .i64 0,.str [],.nils])] [0] (sq [mo 3 (.mov (.const .nils))] [] (.seq (sq [mf 6 3 1,ml 7 6,mo 8 (.len (.tmp 7)),
 mo 9 (.mov (ci 0))] [6] (.block 0 (.loop zxb))) (sq [mt 19 3,mf 20 3 1,⟨none,.store 1 (.tmp 20) (.mv 19),none⟩] [3,7,8,9,10,19,20] (sq [mo 21 (.load (some 4) true (.tmp 1)),⟨none,.store 4 (.tmp 2) (.mv 21),none⟩] [1,21] .ret)))))}
end Go.Fu
namespace Go.Mx
open Go
theorem Evo.toShared {ι0 ι:Imm} {j0 j:Lay} {own0 own:Own} {w0 w:World} (hE:Evo ι0 j0 own0 w0 ι j own w (fun _=>True)):Evo ι0 j0 own0 w0 ι j (shared own) w (fun _=>True):=by
 refine ⟨hE.os,hE.tape,hE.output,hE.size,hE.imm,hE.lay,fun b hb ht=>?_⟩
 have hn:own0 b=none:=by
  cases h:own0 b with
  | none=>rfl
  | some t=>exact absurd trivial (ht t h)
 obtain ⟨k1,k2,k3⟩:=hE.block b hb ht
 refine ⟨k1,?_,k3⟩
 unfold shared
 rw [k2,hn]
end Go.Mx
namespace Go.Fu
open Go Go.Mx
def Rk:Nat→Nat→List UInt8→List UInt8
 | 0,_,acc=>acc
 | k + 1,n,acc=>ifB (decide (n < 10)) (UInt8.ofNat (48 + n) :: acc) (Rk k (n / 10) (UInt8.ofNat (48 + n % 10) :: acc))
def Zr (n:Nat):List UInt8:=Rk 20 n []
def cE (n:Int):List UInt8:=match n with
 | .ofNat m=>Zr m
 | .negSucc m=>45 :: Zr (m + 1)
def Ad (n:Int):Bool:=decide (-9223372036854775808≤n) && decide (n≤9223372036854775807)
def Hz:List D→Option D
 | [.int .i64 n]=>ifB (Ad n) (some (.str (cE n))) none
 | _=>none
def zfo (ds:List D) (σ:Store):Option (Out × Store):=match ds with
 | [.ptr id 0]=>aC (aB σ.tys id) fun t=>ifB (t.t == oH) (aC (aB σ.objs id) fun cs=>match cs with
  | [c0,c1]=>(match c0.d with
   | .nilp=>some (.ret ⟨false,.tup []⟩,{σ with objs:=aU σ.objs id [⟨false,.ptr id 0⟩,c1]})
   | .ptr id' 0=>ifB (id' == id) (some (.ret ⟨false,.tup []⟩,σ)) none
   | _=>none)
  | _=>none) none
 | _=>none
def Kt (k:RowK):Bool:=k.el == pB.el && k.sz == 1
def Ef (ds:List D) (σ:Store):Option (Out × Store):=match ds with
 | [.ptr id 0]=>aC (aB σ.tys id) fun t=>ifB (t.t == oH) (aC (aB σ.objs id) fun cs=>match cs with
  | [c0,c1]=>(match c1.d with
   | .list k es=>ifB (c1.own && Kt k && !es.isEmpty) (aC (qF es) fun s=>some (.ret ⟨false,.str s⟩,{σ with objs:=aU σ.objs id [c0,⟨false,c1.d⟩]})) none
   | _=>none)
  | _=>none) none
 | _=>none
def Xa:aM:=fun f ds σ=>ifB (f == rQ) (aC (Hz ds) fun d=>some (.ret ⟨false,d⟩,σ)) (ifB (f == wH) (zfo ds σ) (ifB (f == Ll) (Ef ds σ) none))
end Go.Fu
namespace Go.Fu
open Go Go.RowKit
theorem zru {P:Program} {T:TypeId} {n:Nat} (hd:(P.depth == 0)=false) (hc:P.cellsOf T=2) (hs:sameLayout P P.depth T T=true) (hn:2≤n):liesAt P P.depth T (n / P.cellsOf T) 0 T 1=true:=by
 have h0:P.depth≠0:=by simpa using hd
 obtain ⟨d,hd⟩:∃ d,P.depth=d + 1:=⟨P.depth - 1,by omega⟩
 have hk:1≤n / 2:=by omega
 rw [hd] at hs ⊢
 unfold liesAt
 rw [hd]
 unfold rowAt
 simp only [hc,hs,Nat.zero_div,Nat.zero_mod]
 simp [hk]
set_option maxHeartbeats 1000000 in
set_option maxRecDepth 100000 in
theorem zqw (b:Nat) (w:World) (h0:w.cell? ⟨b,0,none⟩=some (.pointer (some ⟨b,0,none⟩))) :
  Calls Go.Proofs.Tryz.prog wH #[.pointer (some ⟨b,0,none⟩)] w fun e w'=>e=.returned (.tuple #[])∧w'=w:=by
 obtain ⟨j,hj,_⟩:=Option.map_eq_some_iff.1 (show (Go.Proofs.Tryz.prog.info? oH).map (·.size)=some 2 by kernel_rfl)
 go_enter Go.Proofs.Tryz.func66,Go.Proofs.Tryz.ntmps66
 go_wp2
 rw [Lib.run_neq_ptr_same w _ Go.Proofs.Tryz.underlying67 hj]
 go_wp2
 go_end0
 exact ⟨rfl,rfl⟩
set_option maxHeartbeats 1000000 in
set_option maxRecDepth 100000 in
theorem znd (b:Nat) (w:World) (h0:w.cell? ⟨b,0,none⟩=some (.pointer none)) {n:Nat} (hn:2≤n) (hsh:w.shape? b=some (oH,n)) (hfz:w.frozen? ⟨b,0,none⟩=false) :
  Calls Go.Proofs.Tryz.prog wH #[.pointer (some ⟨b,0,none⟩)] w fun e w'=>e=.returned (.tuple #[])∧w'=w.setCell ⟨b,0,none⟩ (.pointer (some ⟨b,0,none⟩)):=by
 obtain ⟨j,hj,hjs⟩:=Option.map_eq_some_iff.1 (show (Go.Proofs.Tryz.prog.info? oH).map (·.size)=some 2 by kernel_rfl)
 go_enter Go.Proofs.Tryz.func66,Go.Proofs.Tryz.ntmps66
 go_wp2
 rw [Lib.run_to_unsafe w ⟨b,0,none⟩ Go.Proofs.Tryz.underlying67 Go.Proofs.Tryz.underlying163 hj (by rw [hjs]; decide) hsh (by show 0 < n; omega)]
 simp only [Result.andThen]
 rw [Oper.upon_value]
 go_wp2
 rw [run_callFunc_extern Go.Proofs.Tryz.func117 (by kernel_rfl) (by kernel_rfl) (by kernel_rfl) (e:=Extern.AbiNoEscape.same) (by kernel_rfl)]
 rw [Lib.run_noEscape]
 simp only [Result.andThen]
 rw [Oper.upon_value]
 go_wp2
 rw [Lib.run_from_unsafe w ⟨b,0,none⟩ Go.Proofs.Tryz.underlying163 Go.Proofs.Tryz.underlying67 hj hsh (zru (by kernel_rfl) (by kernel_rfl) (by kernel_rfl) hn)]
 simp only [Result.andThen]
 rw [Oper.upon_value]
 go_wp2
 go_end0
 exact ⟨rfl,rfl⟩
end Go.Fu
namespace Go.Fu
open Go Go.RowKit
set_option maxHeartbeats 2000000 in
set_option maxRecDepth 100000 in
theorem zkq (b g cap:Nat) (p:Value) (rest:List Value) (cur:Array Value) (l:List UInt8) (w:World) (h0:l≠[]) (hbk:w.heap[b]?=some (.cells ⟨p :: .slice (some ⟨g,0,none⟩) l.length cap :: rest⟩ oH (0,0))) (hg:w.heap[g]?=some (.cells cur 5 (0,0)))
  (hnc:l.length≤cap) (hcm:cap≤maxLen) (hcs:cur.size=cap * 1) (hcells:∀ (j:Nat) (x:UInt8),l[j]?=some x→w.cell? ⟨g,j,none⟩=some (.int .u8 x.toNat)) :
  Calls Go.Proofs.Tryz.prog Ll #[.pointer (some ⟨b,0,none⟩)] w fun e w'=>e=.returned (.string ⟨l.toArray⟩)∧w'=w.drew.freeze ⟨g,0,none⟩ l.length:=by
 have hl0:l.length≠0:=by simpa using h0
 have c1:w.drew.cell? ⟨b,1,none⟩=some (.slice (some ⟨g,0,none⟩) l.length cap):=by
  have:w.drew.heap[b]?=some (.cells ⟨p :: .slice (some ⟨g,0,none⟩) l.length cap :: rest⟩ oH (0,0)):=hbk
  rw [Lib.cell_of_heap this]; rfl
 have hSD:(Builtin.unsafeSliceData_ #[68] 114 #[.slice (some ⟨g,0,none⟩) l.length cap]).run Go.Proofs.Tryz.prog w.drew=.ok (.pointer (some ⟨g,0,none⟩)) w.drew :=
  Lib.run_unsafeSliceData_row _ _ _ _ _ _ (by omega)
 have hUS:(Builtin.unsafeString_ #[114,3] 9 #[.pointer (some ⟨g,0,none⟩),.int .i64 l.length]).run Go.Proofs.Tryz.prog w.drew=.ok (.string ⟨l.toArray⟩) (w.drew.freeze ⟨g,0,none⟩ l.length):=by
  refine Lib.run_unsafeString_row w.drew 114 3 9 5 Go.Proofs.Tryz.underlying114 (by kernel_rfl) g cur.size (by have hg':w.drew.heap[g]?=some (.cells cur 5 (0,0)):=hg; simp [World.shape?,hg']) l h0 (by omega) (by unfold maxLen at hcm; omega) ?_
  intro j x hx
  have:=hcells j x hx
  simpa [Addr.add_lit] using this
 clear hcells
 go_enter Go.Proofs.Tryz.func33,Go.Proofs.Tryz.ntmps33
 go_wp2
 go_region
 all_goals (go_wp2; go_ret; exact ⟨rfl,rfl⟩)
end Go.Fu
namespace Go.Fu
open Go Go.Mx
theorem Tq:aO Go.Proofs.Tryz.prog Go.Proofs.Tryz.f6 Yu=true:=by kernel_rfl
theorem zcq:aO Go.Proofs.Tryz.prog Go.Proofs.Tryz.f10 zd3=true:=by kernel_rfl
theorem zjw:aO Go.Proofs.Tryz.prog Go.Proofs.Tryz.f11 Yv=true:=by kernel_rfl
theorem zal:aO Go.Proofs.Tryz.prog Go.Proofs.Tryz.f13 zdb=true:=by kernel_rfl
theorem zhk:aO Go.Proofs.Tryz.prog Go.Proofs.Tryz.f15 zww=true:=by kernel_rfl
theorem zak:aO Go.Proofs.Tryz.prog Go.Proofs.Tryz.f17 zwh=true:=by kernel_rfl
theorem Tc:aO Go.Proofs.Tryz.prog Go.Proofs.Tryz.f19 zwl=true:=by kernel_rfl
theorem zjx:aO Go.Proofs.Tryz.prog Go.Proofs.Tryz.f20 zd4=true:=by kernel_rfl
theorem zjz:aO Go.Proofs.Tryz.prog Go.Proofs.Tryz.f25 zd5=true:=by kernel_rfl
theorem zj2:aO Go.Proofs.Tryz.prog Go.Proofs.Tryz.f26 Zb=true:=by kernel_rfl
theorem zjy:aO Go.Proofs.Tryz.prog Go.Proofs.Tryz.f27 sQ=true:=by kernel_rfl
theorem zj0:aO Go.Proofs.Tryz.prog Go.Proofs.Tryz.f28 Za=true:=by kernel_rfl
theorem tB:aO Go.Proofs.Tryz.prog Go.Proofs.Tryz.f29 zeg=true:=by kernel_rfl
theorem Pn:aO Go.Proofs.Tryz.prog Go.Proofs.Tryz.f31 zds=true:=by kernel_rfl
theorem uJ:aO Go.Proofs.Tryz.prog Go.Proofs.Tryz.f32 zef=true:=by kernel_rfl
theorem It:aO Go.Proofs.Tryz.prog Go.Proofs.Tryz.f39 zwv=true:=by kernel_rfl
theorem Sv:aO Go.Proofs.Tryz.prog Go.Proofs.Tryz.f40 zwi=true:=by kernel_rfl
theorem Sz:aO Go.Proofs.Tryz.prog Go.Proofs.Tryz.f41 zwj=true:=by kernel_rfl
theorem wZ:aO Go.Proofs.Tryz.prog Go.Proofs.Tryz.f42 Ut=true:=by kernel_rfl
theorem Ta:aO Go.Proofs.Tryz.prog Go.Proofs.Tryz.f43 zwk=true:=by kernel_rfl
theorem zam:aO Go.Proofs.Tryz.prog Go.Proofs.Tryz.f44 zws=true:=by kernel_rfl
theorem zan:aO Go.Proofs.Tryz.prog Go.Proofs.Tryz.f45 Yq=true:=by kernel_rfl
theorem uH:aO Go.Proofs.Tryz.prog Go.Proofs.Tryz.f46 Us=true:=by kernel_rfl
theorem vK:aO Go.Proofs.Tryz.prog Go.Proofs.Tryz.f47 zw6=true:=by kernel_rfl
theorem zao:aO Go.Proofs.Tryz.prog Go.Proofs.Tryz.f48 zdv=true:=by kernel_rfl
theorem Ly:aO Go.Proofs.Tryz.prog Go.Proofs.Tryz.f49 zwo=true:=by kernel_rfl
theorem zcm:aO Go.Proofs.Tryz.prog Go.Proofs.Tryz.f50 zdo=true:=by kernel_rfl
theorem zck:aO Go.Proofs.Tryz.prog Go.Proofs.Tryz.f51 zwm=true:=by kernel_rfl
theorem zj1:aO Go.Proofs.Tryz.prog Go.Proofs.Tryz.f64 Ji=true:=by kernel_rfl
theorem zhl:aO Go.Proofs.Tryz.prog Go.Proofs.Tryz.f65 zd6=true:=by kernel_rfl
theorem Bo:aO Go.Proofs.Tryz.prog Go.Proofs.Tryz.f70 Zf=true:=by kernel_rfl
theorem Tf:aO Go.Proofs.Tryz.prog Go.Proofs.Tryz.f71 zwt=true:=by kernel_rfl
theorem Td:aO Go.Proofs.Tryz.prog Go.Proofs.Tryz.f72 zwp=true:=by kernel_rfl
theorem zco:aO Go.Proofs.Tryz.prog Go.Proofs.Tryz.f74 zwr=true:=by kernel_rfl
theorem zO:aO Go.Proofs.Tryz.prog Go.Proofs.Tryz.f75 zec=true:=by kernel_rfl
theorem zP:aO Go.Proofs.Tryz.prog Go.Proofs.Tryz.f76 zed=true:=by kernel_rfl
theorem yV:aO Go.Proofs.Tryz.prog Go.Proofs.Tryz.f77 zw4=true:=by kernel_rfl
theorem Bn:aO Go.Proofs.Tryz.prog Go.Proofs.Tryz.f78 zw3=true:=by kernel_rfl
theorem xA:aO Go.Proofs.Tryz.prog Go.Proofs.Tryz.f79 Zd=true:=by kernel_rfl
theorem yW:aO Go.Proofs.Tryz.prog Go.Proofs.Tryz.f80 zw7=true:=by kernel_rfl
theorem Ti:aO Go.Proofs.Tryz.prog Go.Proofs.Tryz.f81 zdw=true:=by kernel_rfl
theorem uI:aO Go.Proofs.Tryz.prog Go.Proofs.Tryz.f82 zd9=true:=by kernel_rfl
theorem Me:aO Go.Proofs.Tryz.prog Go.Proofs.Tryz.f83 zdx=true:=by kernel_rfl
theorem zcl:aO Go.Proofs.Tryz.prog Go.Proofs.Tryz.f84 tP=true:=by kernel_rfl
theorem Hf:aO Go.Proofs.Tryz.prog Go.Proofs.Tryz.f85 zdr=true:=by kernel_rfl
theorem Md:aO Go.Proofs.Tryz.prog Go.Proofs.Tryz.f86 zdt=true:=by kernel_rfl
theorem Tj:aO Go.Proofs.Tryz.prog Go.Proofs.Tryz.f87 zdy=true:=by kernel_rfl
theorem Ha:aO Go.Proofs.Tryz.prog Go.Proofs.Tryz.f88 Re=true:=by kernel_rfl
theorem Pm:aO Go.Proofs.Tryz.prog Go.Proofs.Tryz.f89 zdc=true:=by kernel_rfl
theorem wJ:aO Go.Proofs.Tryz.prog Go.Proofs.Tryz.f90 zd8=true:=by kernel_rfl
theorem My:aO Go.Proofs.Tryz.prog Go.Proofs.Tryz.f91 zdz=true:=by kernel_rfl
theorem Tm:aO Go.Proofs.Tryz.prog Go.Proofs.Tryz.f92 zd0=true:=by kernel_rfl
theorem Tn:aO Go.Proofs.Tryz.prog Go.Proofs.Tryz.f93 zd1=true:=by kernel_rfl
theorem Na:aO Go.Proofs.Tryz.prog Go.Proofs.Tryz.f94 Ys=true:=by kernel_rfl
theorem To:aO Go.Proofs.Tryz.prog Go.Proofs.Tryz.f95 Ek=true:=by kernel_rfl
theorem Nb:aO Go.Proofs.Tryz.prog Go.Proofs.Tryz.f96 Yt=true:=by kernel_rfl
theorem Ww:aO Go.Proofs.Tryz.prog Go.Proofs.Tryz.f97 rJ=true:=by kernel_rfl
theorem zM:aO Go.Proofs.Tryz.prog Go.Proofs.Tryz.f98 zw5=true:=by kernel_rfl
theorem He:aO Go.Proofs.Tryz.prog Go.Proofs.Tryz.f99 zdq=true:=by kernel_rfl
theorem Mc:aO Go.Proofs.Tryz.prog Go.Proofs.Tryz.f100 zdn=true:=by kernel_rfl
theorem Gz:aO Go.Proofs.Tryz.prog Go.Proofs.Tryz.f101 zwq=true:=by kernel_rfl
theorem yX:aO Go.Proofs.Tryz.prog Go.Proofs.Tryz.f102 Zg=true:=by kernel_rfl
theorem Ir:aO Go.Proofs.Tryz.prog Go.Proofs.Tryz.f103 zdl=true:=by kernel_rfl
theorem Wu:aO Go.Proofs.Tryz.prog Go.Proofs.Tryz.f104 zdd=true:=by kernel_rfl
theorem Iq:aO Go.Proofs.Tryz.prog Go.Proofs.Tryz.f105 vX=true:=by kernel_rfl
theorem yU:aO Go.Proofs.Tryz.prog Go.Proofs.Tryz.f119 zd7=true:=by kernel_rfl
theorem Dp:aO Go.Proofs.Tryz.prog Go.Proofs.Tryz.f120 zw8=true:=by kernel_rfl
theorem xC:aO Go.Proofs.Tryz.prog Go.Proofs.Tryz.f121 zee=true:=by kernel_rfl
theorem xB:aO Go.Proofs.Tryz.prog Go.Proofs.Tryz.f122 zeb=true:=by kernel_rfl
theorem zN:aO Go.Proofs.Tryz.prog Go.Proofs.Tryz.f123 zea=true:=by kernel_rfl
theorem zhj:aO Go.Proofs.Tryz.prog Go.Proofs.Tryz.f124 Yo=true:=by kernel_rfl
theorem Po:aO Go.Proofs.Tryz.prog Go.Proofs.Tryz.f125 Yp=true:=by kernel_rfl
theorem Do:aO Go.Proofs.Tryz.prog Go.Proofs.Tryz.f126 Uu=true:=by kernel_rfl
theorem zcn:aO Go.Proofs.Tryz.prog Go.Proofs.Tryz.f127 zdp=true:=by kernel_rfl
theorem zjr:aO Go.Proofs.Tryz.prog Go.Proofs.Tryz.f128 zc7=true:=by kernel_rfl
theorem zjs:aO Go.Proofs.Tryz.prog Go.Proofs.Tryz.f129 zc8=true:=by kernel_rfl
theorem zcp:aO Go.Proofs.Tryz.prog Go.Proofs.Tryz.f130 zdu=true:=by kernel_rfl
theorem Dn:aO Go.Proofs.Tryz.prog Go.Proofs.Tryz.f131 zw1=true:=by kernel_rfl
theorem Hg:aO Go.Proofs.Tryz.prog Go.Proofs.Tryz.f132 zw2=true:=by kernel_rfl
theorem Iu:aO Go.Proofs.Tryz.prog Go.Proofs.Tryz.f133 zw0=true:=by kernel_rfl
theorem Pq:aO Go.Proofs.Tryz.prog Go.Proofs.Tryz.f134 zd2=true:=by kernel_rfl
theorem Dm:aO Go.Proofs.Tryz.prog Go.Proofs.Tryz.f135 zdm=true:=by kernel_rfl
theorem Lx:aO Go.Proofs.Tryz.prog Go.Proofs.Tryz.f136 zdg=true:=by kernel_rfl
theorem Gx:aO Go.Proofs.Tryz.prog Go.Proofs.Tryz.f137 Yj=true:=by kernel_rfl
theorem Dk:aO Go.Proofs.Tryz.prog Go.Proofs.Tryz.f138 zdj=true:=by kernel_rfl
theorem Dl:aO Go.Proofs.Tryz.prog Go.Proofs.Tryz.f139 zdk=true:=by kernel_rfl
theorem Dj:aO Go.Proofs.Tryz.prog Go.Proofs.Tryz.f140 vW=true:=by kernel_rfl
theorem Ip:aO Go.Proofs.Tryz.prog Go.Proofs.Tryz.f141 zwn=true:=by kernel_rfl
theorem wI:aO Go.Proofs.Tryz.prog Go.Proofs.Tryz.f147 zwz=true:=by kernel_rfl
theorem sN:aO Go.Proofs.Tryz.prog Go.Proofs.Tryz.f148 zxa=true:=by kernel_rfl
theorem Tt:aO Go.Proofs.Tryz.prog Go.Proofs.Tryz.f149 zwx=true:=by kernel_rfl
theorem Wv:aO Go.Proofs.Tryz.prog Go.Proofs.Tryz.f150 Jh=true:=by kernel_rfl
theorem zjt:aO Go.Proofs.Tryz.prog Go.Proofs.Tryz.f151 zc9=true:=by kernel_rfl
theorem Gy:aO Go.Proofs.Tryz.prog Go.Proofs.Tryz.f153 zdh=true:=by kernel_rfl
theorem Bl:aO Go.Proofs.Tryz.prog Go.Proofs.Tryz.f154 zde=true:=by kernel_rfl
theorem Bm:aO Go.Proofs.Tryz.prog Go.Proofs.Tryz.f156 zdf=true:=by kernel_rfl
theorem zL:aO Go.Proofs.Tryz.prog Go.Proofs.Tryz.f158 zdi=true:=by kernel_rfl
theorem Nc:aO Go.Proofs.Tryz.prog Go.Proofs.Tryz.f160 zwy=true:=by kernel_rfl
theorem pM:aO Go.Proofs.Tryz.prog Go.Proofs.Tryz.f164 zw9=true:=by kernel_rfl
theorem zju:aO Go.Proofs.Tryz.prog Go.Proofs.Tryz.f174 zda=true:=by kernel_rfl
theorem Di:aO Go.Proofs.Tryz.prog Go.Proofs.Tryz.f176 zmp=true:=by kernel_rfl
theorem zap:aO Go.Proofs.Tryz.prog Go.Proofs.Tryz.f185 zeh=true:=by kernel_rfl
theorem zhm:aO Go.Proofs.Tryz.prog Go.Proofs.Tryz.f187 zei=true:=by kernel_rfl
end Go.Fu
