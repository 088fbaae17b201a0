/-
 The program's functions as the machine's code (printed by gen2.py).
-/
import Derived.Test.YtldfbnbckiifeaaGreatDoorFgCode2
import Derived.Recover
import Derived.Test.YtldfbnbckiifeaaGreatDoorMyFrame
import Derived.Test.YtldfbnbckiifeaaGreatDoorProg
import Derived.WalkKit
import Derived.Lib.Builder
import Derived.Laws.Externs
import Derived.Lib.MakeNoZero
import Derived.Laws.IdiomCopy
import Derived.Shelf.Strings.Builder1
set_option maxHeartbeats 4000000
set_option linter.unusedSimpArgs false
set_option linter.unusedVariables false
set_option linter.unusedSectionVars false
namespace Go.Fu
open Go Go.Mx
def zbh:ACode:=(sq [mo 9 (.bin .lss (.tmp 8) (.tmp 7))] [] (.seq (.cond (.tmp 9) .skip (.exit 0)) (.seq (.block 1 (sq [mo 10 (.indexAddr 1 (.tmp 6) (.tmp 8)),ml 11 10,mw 5 11] [9,10,11] (rg [mw 12 3,mt 13 5,mo 14 (.call Jp [.tmp 13]),
 mo 15 (.buildSlice k_2 [.tmp 14]),mo 16 (.append k_2 160 (.mv 12) (.tmp 15)),mw 3 16] [5,12,13,14,15,16]))) (rg [mo 17 (.bin .add (.tmp 8) (ci 1)),mw 8 17] [17]))))
def zga:AFun:={nargs:=1,ntmps:=19,res:=[.tmp 2],gc:=false,body:=(sq [mo 2 (.mov (.const .nils))] [2] (sq [mo 3 (.mov (.const .nils))] [] (.seq (sq [mt 6 0,mo 7 (.len (.tmp 6)),mo 8 (.mov (ci 0))] [0] (.block 0 (.loop zbh))) (sq [mw 18 3,
 mw 2 18] [3,6,7,8,9,18] .ret))))}
def zadb:AFun:={nargs:=1,ntmps:=8,res:=[.tmp 2],gc:=false,body:=(sq [mo 2 (.mov (.const .nils))] [2] (.seq (sq [mt 3 0,mo 4 (.isNilS .eql (.tmp 3))] [3] (.cond (.tmp 4) (sq [mo 2 (.mov (.const .nils))] [0,4] .ret) .skip)) (sq [
 mo 5 (.buildSlice k_3 []),mw 6 0,mo 7 (.append k_3 232 (.mv 5) (.tmp 6)),mw 2 7] [0,4,5,6,7] .ret)))}
def zaeb:AFun:={nargs:=1,ntmps:=8,res:=[.tmp 2],gc:=false,body:=(sq [mo 2 (.mov (.const .nils))] [2] (.seq (sq [mt 3 0,mo 4 (.isNilS .eql (.tmp 3))] [3] (.cond (.tmp 4) (sq [mo 2 (.mov (.const .nils))] [0,4] .ret) .skip)) (sq [mo 5 (.buildSlice k_2 []),
 mw 6 0,mo 7 (.append k_2 160 (.mv 5) (.tmp 6)),mw 2 7] [0,4,5,6,7] .ret)))}
def zacb:AFun:={nargs:=1,ntmps:=8,res:=[.tmp 2],gc:=false,body:=(sq [mo 2 (.mov (.const .nils))] [2] (.seq (sq [mt 3 0,mo 4 (.isNilS .eql (.tmp 3))] [3] (.cond (.tmp 4) (sq [mo 2 (.mov (.const .nils))] [0,4] .ret) .skip)) (sq [mo 5 (.buildSlice k_4 []),
 mw 6 0,mo 7 (.append k_4 216 (.mv 5) (.tmp 6)),mw 2 7] [0,4,5,6,7] .ret)))}
def zgj:AFun:={nargs:=1,ntmps:=9,res:=[.tmp 2],gc:=false,body:=(sq [mo 2 (.mov (.const (.nilmap)))] [2] (.seq (sq [mt 3 0,mo 4 (.isNilM .eql (.tmp 3))] [3] (.cond (.tmp 4) (sq [mo 2 (.mov (.const (.nilmap)))] [0,4] .ret) .skip)) (sq [mw 5 0,
 mo 6 (.mkIface za3 (.tmp 5)),mo 7 (.cloneM (.tmp 6)),mo 8 (.assertP za3 (.tmp 7)),mw 2 8] [0,4,5,6,7,8] .ret)))}
def zf3:AFun:={nargs:=2,ntmps:=6,res:=[],gc:=false,body:=(rg [ml 2 1,ml 3 0,mo 4 (.nilCheck (.tmp 2)),mf 5 1 4,⟨none,.store 1 (.tmp 5) (.mv 3),none⟩] [0,1,2,3,4,5])}
def zfx:AFun:={nargs:=4,ntmps:=22,res:=[],gc:=false,body:=(sq [mo 4 (.gbox xG (.tmp 0)),mo 5 (.gbox zh2 (.tmp 1)),mo 6 (.gbox wB (.tmp 2)),mo 7 (.gbox zh3 (.tmp 3))] [0,1,2,3] (sq [mf 9 8 5,ml 10 9,
 mo 11 (.len (.tmp 10)),mo 8 (.galloc wB [.int .i64 0]),⟨none,.store 1 (.tmp 8) (.mv 11),none⟩] [9,10,11] (sq [ml 12 4,ml 13 8,mo 14 (.call n_6 [.tmp 12,(.const (.str [65,76,76,79,67])),.tmp 13])] [12,13,14] (.region [mo 15 (.loadP none (.tmp 4)),mf 16 8 5,
 mo 17 (.loadP none (.tmp 16)),mo 19 (.loadP none (.tmp 6)),mo 20 (.mkFunc (.func zhc) [] [.tmp 5,.tmp 4,.tmp 6,.tmp 8,.tmp 7]),mo 18 (.callW [4,6] uL [.tmp 17,(.const (.fn (.func qF) [] []))]),
 mo 21 (.call Sv [.tmp 15,.tmp 18,.tmp 19,.tmp 20])] (some [0,1,2,4,5,3,6]) [4,5,6,7,8,15,16,17,18,19,20,21]))))}
def yP:ACode:=(sq [mo 27 (.bin .lss (.tmp 26) (.tmp 25))] [] (.seq (.cond (.tmp 27) .skip (.exit 0)) (.seq (.block 1 (sq [mo 28 (.indexAddr 14 (.tmp 24) (.tmp 26)),mo 29 (.load (some 14) false (.tmp 28)),
 mo 13 (.galloc zsq [.int .i64 0,.int .i64 0,.str [],.nils,.int .i64 0,.int .i64 0,.str [],.int .i64 0,.int .i64 0,.str [],.nils,.nils,.nils,.nils]),⟨none,.store 14 (.tmp 13) (.mv 29),none⟩] [27,28,29] (sq [mo 14 (.mov (.const (.fn (.func zha) [] [])))] []
 (.seq (sq [mf 30 0 13,ml 31 30] [30] (.block 2 (sq [mo 35 (.bin .eql (.tmp 31) (ci 1)),mw 34 35] [35] (.cond (.tmp 34) (sq [mt 36 0,mf 37 2 13,ml 38 37,mo 39 (.build [.str [],.int .i64 0,.int .i64 0,.str []] [(0,1,(.const (.str [84,69,83,84]))),(3,1,(.tmp 38))]),
 mo 40 (.call Px [.tmp 36,.tmp 39]),mw 14 40] [31,34,36,37,38,39,40] (rg [mt 41 0,mf 42 3 13,ml 43 42,mo 44 (.len (.tmp 43)),mo 45 (.call n_6 [.tmp 41,(.const (.str [83,80,76,73,84])),.tmp 44])] [41,42,43,44,45])) (sq [
 mo 47 (.bin .eql (.tmp 31) (ci 2)),mw 46 47] [31,34,47] (.cond (.tmp 46) (sq [mt 48 0,mf 49 1 13,ml 50 49,mo 51 (.build [.str [],.int .i64 0,.int .i64 0,.str []] [(0,1,(.const (.str [84,69,83,84,73]))),(2,1,(.tmp 50))]),mo 52 (.call Px [.tmp 48,.tmp 51]),
 mw 14 52] [46,48,49,50,51,52] (rg [mt 53 0,mo 54 (.call n_6 [.tmp 53,(.const (.str [80,79,80])),(ci 1)])] [53,54])) (rg [mt 32 0,mo 33 (.call n_6 [.tmp 32,(.const (.str [80,79,80])),(ci 1)])] [32,33,46]))))))) (sq [mf 55 3 13,ml 56 55,
 mo 57 (.call yZ [.tmp 56]),mo 15 (.galloc t_8 [.nils]),⟨none,.store 1 (.tmp 15) (.mv 57),none⟩] [55,56,57] (sq [ml 58 15,mo 59 (.call Ti [.tmp 58])] [58,59] (sq [mt 60 0,ml 61 15,ml 62 8,
 mo 63 (.mkFunc (.func zhb) [] [.tmp 9,.tmp 13,.tmp 8,.tmp 15]),mo 64 (.call Sv [.tmp 60,.tmp 61,.tmp 62,.tmp 63])] [15,60,61,62,63,64] (sq [mt 65 4,mo 66 (.load (some 14) false (.tmp 13)),mo 67 (.callv (.tmp 65) [.tmp 66])] [65,66,67] (sq [
 mt 68 14,mo 69 (.callv (.tmp 68) [])] [14,68,69] (sq [mf 70 0 13,ml 71 70,mo 72 (.bin .eql (.tmp 71) (ci 3))] [13,70,71] (.cond (.tmp 72) .ret .skip))))))))))) (rg [mo 73 (.bin .add (.tmp 26) (ci 1)),mw 26 73] [72,73]))))
def za9:AFun:={nargs:=6,ntmps:=76,res:=[],gc:=false,body:=(sq [mo 7 (.box (.tmp 1)),mo 8 (.gbox wB (.tmp 2)),mo 9 (.gbox zh3 (.tmp 3))] [1,2,3] (.seq (.region [mt 16 0,mf 17 7 7,mo 18 (.loadB 7 none (.tmp 17)),
 mo 19 (.indexAddr 10 (.tmp 18) (ci 0)),mo 20 (.loadG (some 10) (.tmp 19)),mo 21 (.loadP none (.tmp 8)),mo 22 (.call Bo [.tmp 16,.tmp 20,.tmp 21])] (some [0,1,2,3,4,5,6]) [16,17,18,19,20,21,22]) (.seq (sq [mf 23 9 7,ml 24 23,mo 25 (.len (.tmp 24)),
 mo 26 (.mov (ci 0))] [7,23] (.block 0 (.loop yP))) (rg [mt 74 5,mo 75 (.callv (.tmp 74) [])] [0,4,5,8,9,24,25,26,27,74,75]))))}
def zf0:AFun:={nargs:=1,ntmps:=2,res:=[],gc:=false,body:=(rg [mo 1 (.box (.tmp 0))] [0,1])}
def zf1:AFun:={nargs:=1,ntmps:=3,res:=[],gc:=false,body:=(rg [ml 1 0,mo 2 (.call n_6 [.tmp 1,(.const (.str [70,65,73,76])),(ci 0)])] [0,1,2])}
def Yb:ACode:=(sq [mo 70 (.bin .lss (.tmp 69) (.tmp 68))] [] (.seq (.cond (.tmp 70) .skip (.exit 1)) (.seq (.block 2 (sq [mo 71 (.indexAddr 1 (.tmp 67) (.tmp 69)),ml 72 71,mw 8 72] [70,71,72] (rg [mt 73 8,mo 74 (.callv (.tmp 73) [])] [8,73,74]))) (rg [
 mo 75 (.bin .add (.tmp 69) (ci 1)),mw 69 75] [75]))))
def yQ:AFun:={nargs:=3,ntmps:=76,res:=[],gc:=false,body:=(sq [mo 3 (.gbox xG (.tmp 0)),mo 4 (.box (.tmp 1))] [0,1] (sq [mf 9 0 4,ml 10 9] [9] (.block 0 (sq [mo 18 (.bin .eql (.tmp 10) (ci 8)),mw 17 18] [18] (.cond (.tmp 17) (sq [ml 19 3,
 mo 20 (.load (some 10) false (.tmp 4)),mt 21 2,ml 22 3,mo 23 (.mkFunc (.func Bo) [.tmp 22] []),mo 24 (.call Ze [.tmp 19,.tmp 20,.tmp 21,.tmp 23])] [2,10,17,19,20,21,22,23,24] (rg [ml 25 3,mf 26 8 4,ml 27 26,mo 28 (.len (.tmp 27)),
 mo 29 (.call n_6 [.tmp 25,(.const (.str [83,76,73,68,69])),.tmp 28])] [3,4,25,26,27,28,29])) (sq [mo 31 (.bin .eql (.tmp 10) (ci 10)),mw 30 31] [17,31] (.cond (.tmp 30) (.seq (.region [mo 32 (.loadP none (.tmp 3)),mf 33 7 4,mo 34 (.loadB 4 none (.tmp 33)),
 mo 35 (.indexAddr 10 (.tmp 34) (ci 0)),mo 36 (.loadG (some 10) (.tmp 35)),mt 37 2,mo 38 (.call Bo [.tmp 32,.tmp 36,.tmp 37])] (some [0,1,2,3,4,5,6]) [10,30,32,33,34,35,36,37,38]) (.seq (.region [mo 39 (.loadP none (.tmp 3)),mf 40 7 4,
 mo 41 (.loadB 4 none (.tmp 40)),mo 42 (.indexAddr 10 (.tmp 41) (ci 1)),mo 43 (.loadG (some 10) (.tmp 42)),mt 44 2,mo 45 (.bin .add (.tmp 44) (ci 1)),mo 46 (.call Bo [.tmp 39,.tmp 43,.tmp 45])] (some [0,1,2,3,4,5,6,7]) [2,39,40,41,42,43,44,45,46]) (.region [
 mo 47 (.loadP none (.tmp 3)),mf 49 2 4,mo 50 (.loadB 4 none (.tmp 49)),mo 48 (.callW [3] Zj []),mo 51 (.lookup true (.str []) false (.tmp 48) (.tmp 50)),mo 52 (.call n_6 [.tmp 47,.tmp 51,(ci 0)])] (some [0,2,3,1,4,5]) [3,4,47,48,49,50,51,52]))) (sq [
 mo 54 (.bin .eql (.tmp 10) (ci 11)),mw 53 54] [30,54] (.cond (.tmp 53) (rg [ml 55 3,mo 56 (.call n_6 [.tmp 55,(.const (.str [70,65,73,76])),(ci 0)])] [2,3,4,10,53,55,56]) (sq [mo 58 (.bin .eql (.tmp 10) (ci 9)),mw 57 58] [10,53,58] (.cond (.tmp 57) (sq [
 mo 6 (.galloc zbbb [.nils])] [57] (sq [ml 59 3,mo 60 (.load (some 10) false (.tmp 4)),mt 61 2,ml 62 3,mo 63 (.mkFunc (.func Bo) [.tmp 62] []),mo 64 (.mkFunc (.func Ss) [] [.tmp 3,.tmp 6]),mo 65 (.mkFunc (.func Zf) [] [.tmp 3]),
 mo 66 (.call zrh [.tmp 59,.tmp 60,.tmp 61,.tmp 63,.tmp 64,.tmp 65])] [2,3,4,59,60,61,62,63,64,65,66] (sq [ml 67 6,mo 68 (.len (.tmp 67)),mo 69 (.mov (ci 0))] [6] (.block 1 (.loop Yb))))) (sq [ml 11 3,mo 12 (.load (some 10) false (.tmp 4)),
 mt 13 2,mo 14 (.call sT [.tmp 11,.tmp 12,.tmp 13])] [2,4,11,12,13,14,57] (rg [ml 15 3,mo 16 (.call n_6 [.tmp 15,(.const (.str [69,86,65,76])),(ci 0)])] [3,15,16])))))))))))))}
def zzy:AFun:={nargs:=3,ntmps:=90,res:=[],gc:=false,body:=(sq [mo 4 (.box (.tmp 1))] [1] (.seq (.region [mt 9 0,mo 10 (.nilCheck (.tmp 9)),mf 11 1 10,mo 12 (.loadP none (.tmp 11)),mf 13 2 4,mo 14 (.loadB 4 none (.tmp 13)),
 mo 15 (.lookup true (.int .i64 0) true (.tmp 12) (.tmp 14)),mw 8 15,mo 16 (.extract (.tmp 8) 0),mo 17 (.extract (.tmp 8) 1),mw 6 16,mw 7 17] (some [0,1,2,3,4,5,6,7,8,9,10,11]) [8,9,10,11,12,13,14,15,16,17]) (.block 0 (sq [mf 30 0 4,ml 31 30,
 mo 32 (.bin .eql (.tmp 31) (ci 1)),mw 33 32,⟨some 34,.mov (.tmp 7),(some (33,true))⟩,mo 35 (.pick (.tmp 33) (.tmp 34) (.const (.bool false))),mw 29 35] [7,30,31,32,33,34,35] (.cond (.tmp 29) (rg [mt 36 0,mt 37 2,mo 38 (.bin .sub (.tmp 37) (ci 1)),mt 39 6,
 mo 40 (.bin .sub (.tmp 38) (.tmp 39)),mo 41 (.call n_6 [.tmp 36,(.const (.str [80,85,83,72,65])),.tmp 40])] [0,2,4,6,29,36,37,38,39,40,41]) (.seq (sq [mf 43 0 4,ml 44 43,mo 45 (.bin .eql (.tmp 44) (ci 1)),mw 42 45] [6,29,43,44,45] (.cond (.tmp 42) .skip (rg [
 mf 46 0 4,ml 47 46,mo 48 (.bin .eql (.tmp 47) (ci 2)),mw 42 48] [46,47,48]))) (.cond (.tmp 42) (.region [mt 49 0,mt 50 0,mo 51 (.nilCheck (.tmp 50)),mf 52 0 51,mo 53 (.loadP none (.tmp 52)),mf 54 2 4,mo 55 (.loadB 4 none (.tmp 54)),
 mo 56 (.build [.str [],.int .i64 0,.int .i64 0,.str []] [(0,1,(.const (.str [80,85,83,72,71]))),(3,1,(.tmp 55))]),mo 57 (.buildSlice k_1 [.tmp 56]),mo 58 (.append k_1 48 (.mv 53) (.tmp 57)),mo 59 (.nilCheck (.tmp 49)),mf 60 0 59,
 ⟨none,.storeP 1 (.tmp 60) (.tmp 58),none⟩] (some [0,1,2,3,4,5,6,7,8,9,10,11,12]) [0,2,4,42,49,50,51,52,53,54,55,56,57,58,59,60]) (sq [mf 62 0 4,ml 63 62,mo 64 (.bin .eql (.tmp 63) (ci 3)),mw 61 64] [42,62,63,64] (.cond (.tmp 61) (rg [mt 65 0,mf 66 1 4,ml 67 66,
 mo 68 (.call n_6 [.tmp 65,(.const (.str [80,85,83,72,73])),.tmp 67])] [0,2,4,61,65,66,67,68]) (sq [mf 70 0 4,ml 71 70,mo 72 (.bin .eql (.tmp 71) (ci 4)),mw 69 72] [61,70,71,72] (.cond (.tmp 69) (sq [mt 73 0,mf 74 7 4,ml 75 74,
 mo 76 (.indexAddr 10 (.tmp 75) (ci 1)),mo 77 (.load (some 10) false (.tmp 76)),mt 78 2,mo 79 (.call sT [.tmp 73,.tmp 77,.tmp 78])] [69,73,74,75,76,77,78,79] (sq [mt 80 0,mf 81 7 4,ml 82 81,mo 83 (.indexAddr 10 (.tmp 82) (ci 0)),
 mo 84 (.load (some 10) false (.tmp 83)),mt 85 2,mo 86 (.bin .add (.tmp 85) (ci 1)),mo 87 (.call sT [.tmp 80,.tmp 84,.tmp 86])] [2,4,80,81,82,83,84,85,86,87] (rg [mt 88 0,
 mo 89 (.call n_6 [.tmp 88,(.const (.str [77,75,65,80])),(ci 0)])] [0,88,89]))) (sq [mt 18 0,mo 19 (.load (some 10) false (.tmp 4)),mt 20 2,mt 21 0,mo 22 (.mkFunc (.func sT) [.tmp 21] []),
 mo 23 (.call Ze [.tmp 18,.tmp 19,.tmp 20,.tmp 22])] [2,18,19,20,21,22,23,69] (rg [mt 24 0,mf 25 8 4,ml 26 25,mo 27 (.len (.tmp 26)),mo 28 (.call n_6 [.tmp 24,(.const (.str [83,76,73,68,69])),.tmp 27])] [0,4,24,25,26,27,28])))))))))))))}
def zhib:ACode:=(.block 1 (rg [mo 8 (.load none true (.tmp 2)),mt 9 5,mo 10 (.buildSlice k_0 [.tmp 9]),mo 11 (.append k_0 16 (.mv 8) (.tmp 10)),⟨none,.store 1 (.tmp 2) (.mv 11),none⟩] [2,5,8,9,10,11]))
def zabb:AFun:={nargs:=2,ntmps:=13,res:=[.tmp 4],gc:=false,body:=(sq [mo 2 (.gbox t_8 (.tmp 0)),mo 4 (.mov (.const .nils))] [0,4] (.seq (sq [mt 6 1] [1] (.block 0 (.rangeF (.tmp 6) [7] (rg [mt 5 7] [6,7]) zhib))) (sq [
 mo 12 (.load none true (.tmp 2)),mw 4 12] [2,6,12] .ret)))}
def zhqb:ACode:=(.block 1 (sq [mt 19 2,mt 20 1,mo 21 (.bin .sub (.tmp 19) (.tmp 20)),mw 10 21] [19,20,21] (.seq (sq [mt 22 10,mo 23 (.bin .leq (.tmp 22) (ci 12))] [22] (.cond (.tmp 23) (sq [mw 24 0,mw 25 1,mw 26 2,
 mo 27 (.call zikb [.tmp 24,.tmp 25,.tmp 26])] [0,1,2,3,8,9,10,23,24,25,26,27] .ret) .skip)) (.seq (sq [mt 28 3,mo 29 (.bin .eql (.tmp 28) (ci 0))] [23,28] (.cond (.tmp 29) (sq [mw 30 0,mw 31 1,mw 32 2,
 mo 33 (.call zijb [.tmp 30,.tmp 31,.tmp 32])] [0,1,2,3,8,9,10,29,30,31,32,33] .ret) .skip)) (.seq (sq [mt 34 8,mo 35 (.un .not (.tmp 34))] [29,34] (.cond (.tmp 35) (sq [mt 36 0,mt 37 1,mt 38 2,
 mo 39 (.call zihb [.tmp 36,.tmp 37,.tmp 38])] [35,36,37,38,39] (rg [mt 40 3,mo 41 (.bin .sub (.tmp 40) (ci 1)),mw 3 41] [40,41])) .skip)) (sq [mt 43 0,mt 44 1,mt 45 2,mo 46 (.call ziib [.tmp 43,.tmp 44,.tmp 45]),mw 42 46,
 mo 47 (.extract (.tmp 42) 0),mo 48 (.extract (.tmp 42) 1),mw 11 47,mw 12 48] [35,42,43,44,45,46,47,48] (.seq (sq [mt 49 12,mo 50 (.bin .eql (.tmp 49) (ci 2))] [49] (.cond (.tmp 50) (sq [mt 51 0,mt 52 1,mt 53 2,
 mo 54 (.call ziob [.tmp 51,.tmp 52,.tmp 53])] [12,50,51,52,53,54] (sq [mt 55 2,mo 56 (.bin .sub (.tmp 55) (ci 1)),mt 57 11,mt 58 1,mo 59 (.bin .sub (.tmp 57) (.tmp 58)),mo 60 (.bin .sub (.tmp 56) (.tmp 59)),mw 11 60] [55,56,57,58,59,60] (rg [
 mo 12 (.mov (ci 1))] []))) .skip)) (.seq (sq [mt 61 8,mw 62 61,⟨some 63,.mov (.tmp 9),(some (62,true))⟩,mo 64 (.pick (.tmp 62) (.tmp 63) (.const (.bool false))),mw 65 64,⟨some 66,.mov (.tmp 12),(some (65,true))⟩,⟨some 67,.bin .eql (.tmp 66) (ci 1),(some (65,true))⟩,
 mo 68 (.pick (.tmp 65) (.tmp 67) (.const (.bool false)))] [12,50,61,62,63,64,65,66,67] (.cond (.tmp 68) (sq [mt 69 0,mt 70 1,mt 71 2,mo 72 (.call zilb [.tmp 69,.tmp 70,.tmp 71])] [68,69,70,71] (.cond (.tmp 72) .ret .skip)) .skip)) (.seq (.seq
 (.region [mt 73 1,mo 74 (.bin .gtr (.tmp 73) (ci 0)),mw 75 74,⟨some 76,.mov (.tmp 0),(some (75,true))⟩,⟨some 77,.mov (.tmp 1),(some (75,true))⟩,⟨some 78,.bin .sub (.tmp 77) (ci 1),(some (75,true))⟩,⟨some 79,.indexAddr 1 (.tmp 76) (.tmp 78),(some (75,true))⟩,
 ⟨some 80,.loadG none (.tmp 79),(some (75,true))⟩,⟨some 81,.mov (.tmp 0),(some (75,true))⟩,⟨some 82,.mov (.tmp 11),(some (75,true))⟩,⟨some 83,.indexAddr 1 (.tmp 81) (.tmp 82),(some (75,true))⟩,⟨some 84,.loadG none (.tmp 83),(some (75,true))⟩,
 ⟨some 85,.call zayb [.tmp 80,.tmp 84],(some (75,true))⟩,⟨some 86,.un .not (.tmp 85),(some (75,true))⟩,
 mo 87 (.pick (.tmp 75) (.tmp 86) (.const (.bool false)))] (some [0,1,2,3,4,5,6,7,8,9,10,11,12,13,14]) [68,72,73,74,75,76,77,78,79,80,81,82,83,84,85,86]) (.cond (.tmp 87) (sq [mt 88 0,mt 89 1,mt 90 2,mt 91 11,
 mo 92 (.call zimb [.tmp 88,.tmp 89,.tmp 90,.tmp 91]),mw 13 92] [1,10,11,87,88,89,90,91,92] (sq [mt 93 13,mw 1 93] [13,93] (.exit 1))) .skip)) (sq [mt 95 0,mt 96 1,mt 97 2,mt 98 11,
 mo 99 (.call zinb [.tmp 95,.tmp 96,.tmp 97,.tmp 98]),mw 94 99,mo 100 (.extract (.tmp 94) 0),mo 101 (.extract (.tmp 94) 1),mw 14 100,mw 15 101] [8,9,11,87,94,95,96,97,98,99,100,101] (sq [mt 102 15,mw 9 102] [15,102] (sq [mt 103 14,mt 104 1,
 mo 105 (.bin .sub (.tmp 103) (.tmp 104)),mt 106 2,mt 107 14,mo 108 (.bin .sub (.tmp 106) (.tmp 107)),mw 16 105,mw 17 108] [103,104,105,106,107,108] (sq [mt 109 10,mo 110 (.bin .quo (.tmp 109) (ci 8)),mw 18 110] [10,109,110] (sq [mt 111 16,mt 112 17,
 mo 113 (.bin .lss (.tmp 111) (.tmp 112))] [111,112] (.cond (.tmp 113) (sq [mt 114 16,mt 115 18,mo 116 (.bin .geq (.tmp 114) (.tmp 115)),mw 8 116] [16,17,18,113,114,115,116] (sq [mt 117 0,mt 118 1,mt 119 14,mt 120 3,
 mo 121 (.call zrn [.tmp 117,.tmp 118,.tmp 119,.tmp 120])] [1,117,118,119,120,121] (rg [mt 122 14,mo 123 (.bin .add (.tmp 122) (ci 1)),mw 1 123] [14,122,123]))) (sq [mt 124 17,mt 125 18,mo 126 (.bin .geq (.tmp 124) (.tmp 125)),
 mw 8 126] [16,17,18,113,124,125,126] (sq [mt 127 0,mt 128 14,mo 129 (.bin .add (.tmp 128) (ci 1)),mt 130 2,mt 131 3,mo 132 (.call zrn [.tmp 127,.tmp 129,.tmp 130,.tmp 131])] [2,127,128,129,130,131,132] (rg [mt 133 14,
 mw 2 133] [14,133]))))))))))))))))))
def zamb:AFun:={nargs:=4,ntmps:=134,res:=[],gc:=false,body:=(sq [mo 8 (.mov (.const (.bool true)))] [] (sq [mo 9 (.mov (.const (.bool true)))] [] (.block 0 (.loop zhqb))))}
def zz9:AFun:={nargs:=1,ntmps:=8,res:=[.tmp 2],gc:=false,body:=(sq [mo 2 (.mov (ci 0))] [2] (.seq (.cond (.const (.bool false)) (sq [mw 3 0,mo 4 (.toInt .u32 (.tmp 3)),mo 5 (.call zidb [.tmp 4]),mw 2 5] [0,3,4,5] .ret) .skip) (sq [mw 6 0,
 mo 7 (.call zieb [.tmp 6]),mw 2 7] [0,6,7] .ret)))}
def Nu:AFun:={nargs:=4,ntmps:=35,res:=[.tmp 6],gc:=false,body:=(sq [mo 4 (.box (.tmp 0)),mo 6 (.mov (.const (.bool false)))] [0,6] (.seq (sq [mf 7 0 4,ml 8 7,mo 9 (.bin .eql (.tmp 8) (ci 1)),mw 10 9,⟨some 11,.mov (.tmp 1),(some (10,true))⟩,
 ⟨some 12,.fieldAddr 2 none (.tmp 4),(some (10,true))⟩,⟨some 13,.load none false (.tmp 12),(some (10,true))⟩,⟨some 14,.call wV [.tmp 11,.tmp 13],(some (10,true))⟩,⟨some 15,.un .not (.tmp 14),(some (10,true))⟩,
 mo 16 (.pick (.tmp 10) (.tmp 15) (.const (.bool false))),mw 17 16,⟨some 18,.load none false (.tmp 2),(some (17,true))⟩,⟨some 19,.fieldAddr 2 none (.tmp 4),(some (17,true))⟩,⟨some 20,.load none false (.tmp 19),(some (17,true))⟩,
 ⟨some 21,.call wV [.tmp 18,.tmp 20],(some (17,true))⟩,mo 22 (.pick (.tmp 17) (.tmp 21) (.const (.bool false))),mw 23 22,⟨some 24,.load none false (.tmp 3),(some (23,true))⟩,⟨some 25,.fieldAddr 2 none (.tmp 4),(some (23,true))⟩,
 ⟨some 26,.load none false (.tmp 25),(some (23,true))⟩,⟨some 27,.call wV [.tmp 24,.tmp 26],(some (23,true))⟩,⟨some 28,.un .not (.tmp 27),(some (23,true))⟩,
 mo 29 (.pick (.tmp 23) (.tmp 28) (.const (.bool false)))] [1,2,7,8,9,10,11,12,13,14,15,16,17,18,19,20,21,22,23,24,25,26,27,28] (.cond (.tmp 29) (rg [mo 30 (.load none true (.tmp 3)),mf 31 2 4,ml 32 31,mo 33 (.buildSlice k_0 [.tmp 32]),
 mo 34 (.append k_0 16 (.mv 30) (.tmp 33)),⟨none,.store 1 (.tmp 3) (.mv 34),none⟩] [3,4,29,30,31,32,33,34]) .skip)) (sq [mo 6 (.mov (.const (.bool true)))] [3,4,29] .ret)))}
def zzn:ACode:=(sq [mo 29 (.bin .lss (.tmp 28) (.tmp 27))] [] (.seq (.cond (.tmp 29) .skip (.exit 0)) (.seq (.block 1 (sq [mt 30 28,mw 3 30] [29,30] (.region [mf 31 8 1,mo 32 (.loadP none (.tmp 31)),mt 33 3,mf 34 8 1,mo 35 (.loadP none (.tmp 34)),mt 36 3,
 mo 37 (.indexAddr 15 (.tmp 35) (.tmp 36)),mo 38 (.fieldAddr 1 (some 4) (.tmp 37)),mo 39 (.loadG (some 4) (.tmp 38)),mo 40 (.callW [31] zrg [.tmp 39]),mo 41 (.indexAddr 15 (.tmp 32) (.tmp 33)),mo 42 (.fieldAddr 1 (some 4) (.tmp 41)),
 ⟨none,.storeP 4 (.tmp 42) (.tmp 40),none⟩] (some [0,1,2,3,4,5,6,7,8,9,10,11,12]) [3,31,32,33,34,35,36,37,38,39,40,41,42]))) (rg [mo 43 (.bin .add (.tmp 28) (ci 1)),mw 28 43] [43]))))
def zzo:ACode:=(sq [mo 48 (.bin .lss (.tmp 47) (.tmp 46))] [] (.seq (.cond (.tmp 48) .skip (.exit 2)) (.seq (.block 3 (sq [mt 49 47,mw 4 49] [48,49] (.region [mf 50 9 1,mo 51 (.loadP none (.tmp 50)),mt 52 4,mf 53 9 1,mo 54 (.loadP none (.tmp 53)),mt 55 4,
 mo 56 (.indexAddr 14 (.tmp 54) (.tmp 55)),mf 57 3 56,mo 58 (.loadG none (.tmp 57)),mo 59 (.callW [50] yZ [.tmp 58]),mo 60 (.indexAddr 14 (.tmp 51) (.tmp 52)),mf 61 3 60,
 ⟨none,.storeP 1 (.tmp 61) (.tmp 59),none⟩] (some [0,1,2,3,4,5,6,7,8,9,10,11,12]) [4,50,51,52,53,54,55,56,57,58,59,60,61]))) (rg [mo 62 (.bin .add (.tmp 47) (ci 1)),mw 47 62] [62]))))
def zzp:ACode:=(sq [mo 73 (.bin .lss (.tmp 72) (.tmp 71))] [] (.seq (.cond (.tmp 73) .skip (.exit 6)) (.seq (.block 7 (sq [mo 74 (.indexAddr 1 (.tmp 70) (.tmp 72)),ml 75 74,mw 8 75] [73,74,75] (rg [mt 76 8,mt 77 8,mo 78 (.nilCheck (.tmp 77)),
 mo 79 (.load (some 10) false (.tmp 78)),mo 80 (.call Pq [.tmp 79]),mo 81 (.nilCheck (.tmp 76)),⟨none,.store 10 (.tmp 81) (.mv 80),none⟩] [8,76,77,78,79,80,81]))) (rg [mo 82 (.bin .add (.tmp 72) (ci 1)),mw 72 82] [82]))))
def zzq:ACode:=(sq [mo 66 (.bin .lss (.tmp 65) (.tmp 64))] [] (.seq (.cond (.tmp 66) .skip (.exit 4)) (.seq (.block 5 (sq [mo 67 (.indexAddr 2 (.tmp 63) (.tmp 65)),mo 68 (.load (some 2) false (.tmp 67)),mo 6 (.alloc [.nils,.nils]),
 ⟨none,.store 2 (.tmp 6) (.mv 68),none⟩] [66,67,68] (sq [mf 69 1 6,ml 70 69,mo 71 (.len (.tmp 70)),mo 72 (.mov (ci 0))] [6,69] (.block 6 (.loop zzp))))) (rg [mo 83 (.bin .add (.tmp 65) (ci 1)),mw 65 83] [70,71,72,73,83]))))
def zfr:AFun:={nargs:=1,ntmps:=85,res:=[.cell 2 (some 10)],gc:=false,body:=(sq [mo 1 (.gbox zh2 (.tmp 0)),mo 2 (.alloc [.int .i64 0,.int .i64 0,.str [],.int .i64 0,.int .i64 0,.str [],.nils,.nils,.nils,.nils])] [0] (sq [
 mo 9 (.fieldAddr 3 (some 4) (.tmp 1)),mo 10 (.load (some 4) false (.tmp 9)),mo 11 (.call zrg [.tmp 10]),mo 12 (.fieldAddr 3 (some 4) (.tmp 1)),⟨none,.store 4 (.tmp 12) (.mv 11),none⟩] [9,10,11,12] (.seq (.region [mf 13 7 1,mo 14 (.loadP none (.tmp 13)),mf 16 8 1,
 mo 17 (.loadP none (.tmp 16)),mf 19 9 1,mo 20 (.loadP none (.tmp 19)),mo 15 (.callW [16,19] Jt [.tmp 14]),mo 18 (.callW [19] Js [.tmp 17]),mo 21 (.call Jr [.tmp 20]),mf 22 7 1,⟨none,.storeP 1 (.tmp 22) (.tmp 15),none⟩,mf 23 8 1,
 ⟨none,.storeP 1 (.tmp 23) (.tmp 18),none⟩,mf 24 9 1,⟨none,.storeP 1 (.tmp 24) (.tmp 21),none⟩] (some [0,1,3,4,6,7,2,5,8,9,10,11,12,13,14]) [13,14,15,16,17,18,19,20,21,22,23,24]) (.seq (sq [mf 25 8 1,ml 26 25,mo 27 (.len (.tmp 26)),mo 28 (.mov (ci 0))] [25,26]
 (.block 0 (.loop zzn))) (.seq (sq [mf 44 9 1,ml 45 44,mo 46 (.len (.tmp 45)),mo 47 (.mov (ci 0))] [27,28,29,44,45] (.block 2 (.loop zzo))) (.seq (sq [mo 63 (.call zg9 [.tmp 1]),mo 64 (.len (.tmp 63)),mo 65 (.mov (ci 0))] [46,47,48] (.block 4
 (.loop zzq))) (sq [mo 84 (.load (some 10) true (.tmp 1)),⟨none,.store 10 (.tmp 2) (.mv 84),none⟩] [1,63,64,65,66,84] .ret)))))))}
def zba:ACode:=(sq [mo 11 (.bin .lss (.tmp 10) (.tmp 9))] [] (.seq (.cond (.tmp 11) .skip (.exit 0)) (.seq (.block 1 (sq [mt 12 10,mo 13 (.indexAddr 15 (.tmp 8) (.tmp 10)),mo 14 (.load (some 15) false (.tmp 13)),
 mo 6 (.alloc [.str [],.int .i64 0,.int .i64 0,.str [],.nils,.int .i64 0,.int .i64 0,.str [],.int .i64 0,.int .i64 0,.str [],.nils,.nils,.nils,.nils]),mw 5 12,⟨none,.store 15 (.tmp 6) (.mv 14),none⟩] [11,12,13,14] (sq [ml 15 1,mo 16 (.fieldAddr 5 (some 10) (.tmp 6)),
 mo 17 (.load (some 10) false (.tmp 16)),ml 18 2,ml 19 3,mo 20 (.bin .add (.tmp 18) (.tmp 19)),mo 21 (.call sT [.tmp 15,.tmp 17,.tmp 20])] [6,15,16,17,18,19,20,21] (rg [ml 22 1,ml 23 3,mo 24 (.bin .sub (.tmp 23) (ci 1)),mt 25 5,mo 26 (.bin .sub (.tmp 24) (.tmp 25)),
 mo 27 (.call n_6 [.tmp 22,(.const (.str [85,80,68,65,84,69])),.tmp 26])] [5,22,23,24,25,26,27])))) (rg [mo 28 (.bin .add (.tmp 10) (ci 1)),mw 10 28] [28]))))
def zfy:AFun:={nargs:=5,ntmps:=38,res:=[],gc:=false,body:=(.seq (sq [mf 7 8 0,ml 8 7,mo 9 (.len (.tmp 8)),mo 10 (.mov (ci 0))] [7] (.block 0 (.loop zba))) (.region [mo 29 (.loadP none (.tmp 4)),mf 30 7 0,mo 31 (.loadP none (.tmp 30)),
 mo 32 (.indexAddr 10 (.tmp 31) (ci 0)),mo 33 (.loadG (some 10) (.tmp 32)),mo 34 (.loadP none (.tmp 2)),mo 35 (.loadP none (.tmp 3)),mo 36 (.bin .add (.tmp 34) (.tmp 35)),
 mo 37 (.callv (.tmp 29) [.tmp 33,.tmp 36])] (some [0,1,2,3,4,5,6,7,8]) [0,1,2,3,4,8,9,10,11,29,30,31,32,33,34,35,36,37]))}
def zfv:AFun:={nargs:=0,ntmps:=0,res:=[],gc:=false,body:=.skip}
def zfw:AFun:={nargs:=4,ntmps:=12,res:=[],gc:=false,body:=(rg [ml 4 0,mo 5 (.fieldAddr 4 (some 10) (.tmp 1)),mo 6 (.load (some 10) false (.tmp 5)),ml 7 2,ml 8 3,mo 9 (.len (.tmp 8)),mo 10 (.bin .add (.tmp 7) (.tmp 9)),
 mo 11 (.callv (.tmp 4) [.tmp 6,.tmp 10])] [0,1,2,3,4,5,6,7,8,9,10,11])}
def zfz:AFun:={nargs:=1,ntmps:=5,res:=[],gc:=false,body:=(sq [ml 1 0,mo 2 (.call n_6 [.tmp 1,(.const (.str [80,79,80])),(ci 1)])] [1,2] (rg [ml 3 0,
 mo 4 (.call n_6 [.tmp 3,(.const (.str [70,65,73,76])),(ci 0)])] [0,3,4]))}
def zaab:AFun:={nargs:=1,ntmps:=25,res:=[.tmp 2],gc:=false,body:=(sq [mo 2 (.mov (ci 0))] [] (.seq (sq [mt 3 0,mo 4 (.bin .geq (.tmp 3) (.const (.int .u64 4294967296)))] [3] (.cond (.tmp 4) (sq [mt 5 0,mo 6 (.bin .shr (.tmp 5) (.const (.int .u64 32))),
 mw 0 6] [2,4,5,6] (rg [mo 2 (.mov (ci 32))] [])) .skip)) (.seq (sq [mt 7 0,mo 8 (.bin .geq (.tmp 7) (.const (.int .u64 65536)))] [4,7] (.cond (.tmp 8) (sq [mt 9 0,mo 10 (.bin .shr (.tmp 9) (.const (.int .u64 16))),mw 0 10] [8,9,10] (rg [mt 11 2,mo 12 (.bin .add (.tmp 11) (ci 16)),
 mw 2 12] [11,12])) .skip)) (.seq (sq [mt 13 0,mo 14 (.bin .geq (.tmp 13) (.const (.int .u64 256)))] [8,13] (.cond (.tmp 14) (sq [mt 15 0,mo 16 (.bin .shr (.tmp 15) (.const (.int .u64 8))),mw 0 16] [14,15,16] (rg [mt 17 2,mo 18 (.bin .add (.tmp 17) (ci 8)),mw 2 18] [17,18])) .skip))
 (sq [mt 19 2,mw 20 0,mo 21 (.toInt .u8 (.tmp 20)),
 mo 22 (.index (.const (.str [0,1,2,2,3,3,3,3,4,4,4,4,4,4,4,4,5,5,5,5,5,5,5,5,5,5,5,5,5,5,5,5,6,6,6,6,6,6,6,6,6,6,6,6,6,6,6,6,6,6,6,6,6,6,6,6,6,6,6,6,6,6,6,6,7,7,7,7,7,7,7,7,7,7,7,7,7,7,7,7,7,7,7,7,7,7,7,7,7,7,7,7,7,7,7,7,7,7,7,7,7,7,7,7,7,7,7,7,7,7,7,7,7,7,7,7,7,7,7,7,7,7,7,7,7,7,7,7,8,8,8,8,8,8,8,8,8,8,8,8,8,8,8,8,8,8,8,8,8,8,8,8,8,8,8,8,8,8,8,8,8,8,8,8,8,8,8,8,8,8,8,8,8,8,8,8,8,8,8,8,8,8,8,8,8,8,8,8,8,8,8,8,8,8,8,8,8,8,8,8,8,8,8,8,8,8,8,8,8,8,8,8,8,8,8,8,8,8,8,8,8,8,8,8,8,8,8,8,8,8,8,8,8,8,8,8,8,8,8,8,8,8,8,8,8,8,8,8,8,8,8,8,8,8,8,8])) (.tmp 21)),
 mo 23 (.toInt .i64 (.tmp 22)),mo 24 (.bin .add (.tmp 19) (.tmp 23)),mw 2 24] [0,14,19,20,21,22,23,24] .ret)))))}
def zhob:ACode:=(.seq (.seq (.region [mt 16 7,mt 17 1,mo 18 (.bin .gtr (.tmp 16) (.tmp 17)),mw 19 18,⟨some 20,.mov (.tmp 0),(some (19,true))⟩,⟨some 21,.mov (.tmp 7),(some (19,true))⟩,⟨some 22,.indexAddr 1 (.tmp 20) (.tmp 21),(some (19,true))⟩,
 ⟨some 23,.loadG none (.tmp 22),(some (19,true))⟩,⟨some 24,.mov (.tmp 0),(some (19,true))⟩,⟨some 25,.mov (.tmp 7),(some (19,true))⟩,⟨some 26,.bin .sub (.tmp 25) (ci 1),(some (19,true))⟩,⟨some 27,.indexAddr 1 (.tmp 24) (.tmp 26),(some (19,true))⟩,
 ⟨some 28,.loadG none (.tmp 27),(some (19,true))⟩,⟨some 29,.call zayb [.tmp 23,.tmp 28],(some (19,true))⟩,mo 30 (.pick (.tmp 19) (.tmp 29) (.const (.bool false)))] (some [0,1,2,3,4,5,6,7,8,9,10,11,12,13,14]) [16,17,18,19,20,21,22,23,24,25,26,27,28,29])
 (.cond (.tmp 30) .skip (.exit 2))) (.seq (.block 3 (.region [mt 33 0,mt 34 7,mt 35 0,mt 36 7,mo 37 (.bin .sub (.tmp 36) (ci 1)),mt 38 0,mt 39 7,mo 40 (.bin .sub (.tmp 39) (ci 1)),mo 41 (.indexAddr 1 (.tmp 38) (.tmp 40)),mo 42 (.loadG none (.tmp 41)),mt 43 0,mt 44 7,
 mo 45 (.indexAddr 1 (.tmp 43) (.tmp 44)),mo 46 (.loadG none (.tmp 45)),mo 47 (.indexAddr 1 (.tmp 33) (.tmp 34)),⟨none,.storeP 1 (.tmp 47) (.tmp 42),none⟩,mo 48 (.indexAddr 1 (.tmp 35) (.tmp 37)),
 ⟨none,.storeP 1 (.tmp 48) (.tmp 46),none⟩] (some [0,1,2,3,4,5,6,7,8,9,10,11,12,13,14,15,16,17]) [30,33,34,35,36,37,38,39,40,41,42,43,44,45,46,47,48])) (rg [mt 31 7,mo 32 (.bin .sub (.tmp 31) (ci 1)),mw 7 32] [31,32])))
def zhpb:ACode:=(.seq (sq [mt 10 6,mt 11 2,mo 12 (.bin .lss (.tmp 10) (.tmp 11))] [10,11] (.cond (.tmp 12) .skip (.exit 0))) (.seq (.block 1 (sq [mt 15 6,mw 7 15] [12,15] (.block 2 (.loop zhob)))) (rg [mt 13 6,
 mo 14 (.bin .add (.tmp 13) (ci 1)),mw 6 14] [7,13,14,30])))
def zalb:AFun:={nargs:=3,ntmps:=49,res:=[],gc:=false,body:=(sq [mt 8 1,mo 9 (.bin .add (.tmp 8) (ci 1)),mw 6 9] [8,9] (.block 0 (.loop zhpb)))}
def zfs:AFun:={nargs:=1,ntmps:=5,res:=[.cell 2 (some 4)],gc:=false,body:=(sq [mo 1 (.box (.tmp 0)),mo 2 (.alloc [.int .i64 0,.int .i64 0,.str [],.nils])] [0] (sq [mo 3 (.load (some 4) false (.tmp 1)),mo 4 (.call zht [.tmp 3,(.const .nils),(.const .nils)]),
 ⟨none,.store 4 (.tmp 2) (.mv 4),none⟩] [1,3,4] .ret))}
def zpq:AFun:={nargs:=2,ntmps:=14,res:=[],gc:=false,body:=(.region [mo 2 (.loadP none (.tmp 0)),mo 3 (.nilCheck (.tmp 2)),mf 4 0 3,mo 5 (.loadP none (.tmp 4)),mo 6 (.loadP none (.tmp 1)),mo 7 (.loadP none (.tmp 0)),mo 8 (.nilCheck (.tmp 7)),mf 9 0 8,
 mo 10 (.loadP none (.tmp 9)),mo 11 (.len (.tmp 10)),mo 12 (.indexAddr 4 (.tmp 5) (.tmp 6)),mf 13 1 12,⟨none,.storeP 1 (.tmp 13) (.tmp 11),none⟩] (some [0,1,2,3,4,5,6,7,8,9,10,11,12]) [0,1,2,3,4,5,6,7,8,9,10,11,12,13])}
def zgy:AFun:={nargs:=3,ntmps:=48,res:=[.cell 6 (some 4)],gc:=false,body:=(sq [mo 3 (.box (.tmp 0)),mo 6 (.alloc [.int .i64 0,.int .i64 0,.str [],.nils])] [0] (.seq (sq [mf 8 0 3,ml 9 8] [8] (.block 0 (sq [mo 11 (.bin .eql (.tmp 9) (ci 2)),mw 10 11] [11]
 (.cond (.tmp 10) (sq [mt 12 1,mf 13 2 3,ml 14 13,mo 15 (.call Wl [.tmp 12,.tmp 14]),mw 7 15] [1,9,10,12,13,14,15] (sq [mt 16 7,mo 17 (.bin .geq (.tmp 16) (ci 0))] [16] (.cond (.tmp 17) (sq [mw 18 2,mw 19 7,mo 20 (.indexAddr 4 (.tmp 18) (.tmp 19)),
 mo 21 (.load (some 4) false (.tmp 20)),mo 22 (.call zhu [.tmp 21]),⟨none,.store 4 (.tmp 6) (.mv 22),none⟩] [2,3,7,17,18,19,20,21,22] .ret) .skip))) (sq [mo 24 (.bin .eql (.tmp 9) (ci 4)),mw 23 24] [10,24] (.cond (.tmp 23) (.seq (.region [mf 25 3 3,
 mo 26 (.loadB 3 none (.tmp 25)),mo 27 (.indexAddr 4 (.tmp 26) (ci 0)),mo 28 (.loadG (some 4) (.tmp 27)),mt 29 1,mt 30 2,mf 32 3 3,mo 33 (.loadB 3 none (.tmp 32)),mo 34 (.indexAddr 4 (.tmp 33) (ci 1)),mo 35 (.loadG (some 4) (.tmp 34)),mt 36 1,mt 37 2,
 mo 31 (.callW [34] zht [.tmp 28,.tmp 29,.tmp 30]),mo 38 (.call zht [.tmp 35,.tmp 36,.tmp 37]),mo 39 (.call ziqb [.tmp 31,.tmp 38]),
 ⟨none,.storeB 6 4 (.tmp 6) (.mv 39),none⟩] (some [0,1,2,3,4,5,7,8,9,10,11,12,6,13,14,15]) [1,2,3,9,23,25,26,27,28,29,30,31,32,33,34,35,36,37,38,39]) .ret) (sq [mo 41 (.bin .eql (.tmp 9) (ci 5)),mw 40 41] [9,23,41] (.cond (.tmp 40) (sq [
 mo 42 (.load (some 4) false (.tmp 3)),mw 43 1,mw 44 2,mo 45 (.call zirb [.tmp 42,.tmp 43,.tmp 44]),⟨none,.store 4 (.tmp 6) (.mv 45),none⟩] [1,2,3,40,42,43,44,45] .ret) .skip)))))))) (sq [mo 46 (.load (some 4) false (.tmp 3)),mo 47 (.call zhu [.tmp 46]),
 ⟨none,.store 4 (.tmp 6) (.mv 47),none⟩] [1,2,3,7,17,40,46,47] .ret)))}
def zapb:ACode:=(sq [mo 10 (.bin .lss (.tmp 9) (.tmp 8))] [] (.seq (.cond (.tmp 10) .skip (.exit 0)) (.seq (.block 1 (sq [mo 11 (.indexAddr 4 (.tmp 7) (.tmp 9)),mo 12 (.load (some 4) false (.tmp 11)),mo 5 (.alloc [.int .i64 0,.int .i64 0,.str [],.nils]),
 ⟨none,.store 4 (.tmp 5) (.mv 12),none⟩] [10,11,12] (rg [mw 13 3,mo 14 (.load (some 4) false (.tmp 5)),mo 15 (.call zhu [.tmp 14]),mo 16 (.buildSlice Sj [.tmp 15]),mo 17 (.append Sj 56 (.mv 13) (.tmp 16)),mw 3 17] [5,13,14,15,16,17]))) (rg [
 mo 18 (.bin .add (.tmp 9) (ci 1)),mw 9 18] [18]))))
def zgz:AFun:={nargs:=1,ntmps:=22,res:=[.cell 2 (some 4)],gc:=false,body:=(sq [mo 1 (.box (.tmp 0)),mo 2 (.alloc [.int .i64 0,.int .i64 0,.str [],.nils])] [0] (sq [mo 3 (.mov (.const .nils))] [] (.seq (sq [mf 6 3 1,ml 7 6,mo 8 (.len (.tmp 7)),
 mo 9 (.mov (ci 0))] [6] (.block 0 (.loop zapb))) (sq [mt 19 3,mf 20 3 1,⟨none,.store 1 (.tmp 20) (.mv 19),none⟩] [3,7,8,9,10,19,20] (sq [mo 21 (.load (some 4) true (.tmp 1)),⟨none,.store 4 (.tmp 2) (.mv 21),none⟩] [1,21] .ret)))))}
end Go.Fu
namespace Go.Mx
open Go
theorem Evo.toShared {ι0 ι:Imm} {j0 j:Lay} {own0 own:Own} {w0 w:World} (hE:Evo ι0 j0 own0 w0 ι j own w (fun _=>True)):Evo ι0 j0 own0 w0 ι j (shared own) w (fun _=>True):=by
 refine ⟨hE.os,hE.tape,hE.output,hE.size,hE.imm,hE.lay,fun b hb ht=>?_⟩
 have hn:own0 b=none:=by
  cases h:own0 b with
  | none=>rfl
  | some t=>exact absurd trivial (ht t h)
 obtain ⟨k1,k2,k3⟩:=hE.block b hb ht
 refine ⟨k1,?_,k3⟩
 unfold shared
 rw [k2,hn]
end Go.Mx
namespace Go.Fu
open Go Go.Mx
def Im:Nat→Nat→List UInt8→List UInt8
 | 0,_,acc=>acc
 | k + 1,n,acc=>ifB (decide (n < 10)) (UInt8.ofNat (48 + n) :: acc) (Im k (n / 10) (UInt8.ofNat (48 + n % 10) :: acc))
def zce (n:Nat):List UInt8:=Im 20 n []
def tB (n:Int):List UInt8:=match n with
 | .ofNat m=>zce m
 | .negSucc m=>45 :: zce (m + 1)
def Ry (n:Int):Bool:=decide (-9223372036854775808≤n) && decide (n≤9223372036854775807)
def za6:List D→Option D
 | [.int .i64 n]=>ifB (Ry n) (some (.str (tB n))) none
 | _=>none
def zs8 (ds:List D) (σ:Store):Option (Out × Store):=match ds with
 | [.ptr id 0]=>dG (dE σ.tys id) fun t=>ifB (t.t == wA) (dG (dE σ.objs id) fun cs=>match cs with
  | [c0,c1]=>(match c0.d with
   | .nilp=>some (.ret ⟨false,.tup []⟩,{σ with objs:=dZ σ.objs id [⟨false,.ptr id 0⟩,c1]})
   | .ptr id' 0=>ifB (id' == id) (some (.ret ⟨false,.tup []⟩,σ)) none
   | _=>none)
  | _=>none) none
 | _=>none
def zdx (k:RowK):Bool:=k.el == Jh.el && k.sz == 1
def zdh (ds:List D) (σ:Store):Option (Out × Store):=match ds with
 | [.ptr id 0]=>dG (dE σ.tys id) fun t=>ifB (t.t == wA) (dG (dE σ.objs id) fun cs=>match cs with
  | [c0,c1]=>(match c1.d with
   | .list k es=>ifB (c1.own && zdx k && !es.isEmpty) (dG (wI es) fun s=>some (.ret ⟨false,.str s⟩,{σ with objs:=dZ σ.objs id [c0,⟨false,c1.d⟩]})) none
   | _=>none)
  | _=>none) none
 | _=>none
def Xa:dQ:=fun f ds σ=>ifB (f == Bq) (dG (za6 ds) fun d=>some (.ret ⟨false,d⟩,σ)) (ifB (f == Wm) (zs8 ds σ) (ifB (f == Zs) (zdh ds σ) none))
end Go.Fu
namespace Go.Fu
open Go Go.RowKit
theorem zu3 {P:Program} {T:TypeId} {n:Nat} (hd:(P.depth == 0)=false) (hc:P.cellsOf T=2) (hs:sameLayout P P.depth T T=true) (hn:2≤n):liesAt P P.depth T (n / P.cellsOf T) 0 T 1=true:=by
 have h0:P.depth≠0:=by simpa using hd
 obtain ⟨d,hd⟩:∃ d,P.depth=d + 1:=⟨P.depth - 1,by omega⟩
 have hk:1≤n / 2:=by omega
 rw [hd] at hs ⊢
 unfold liesAt
 rw [hd]
 unfold rowAt
 simp only [hc,hs,Nat.zero_div,Nat.zero_mod]
 simp [hk]
set_option maxHeartbeats 1000000 in
set_option maxRecDepth 100000 in
theorem zt4 (b:Nat) (w:World) (h0:w.cell? ⟨b,0,none⟩=some (.pointer (some ⟨b,0,none⟩))) :
  Calls Go.Proofs.Tryz.prog Wm #[.pointer (some ⟨b,0,none⟩)] w fun e w'=>e=.returned (.tuple #[])∧w'=w:=by
 obtain ⟨j,hj,_⟩:=Option.map_eq_some_iff.1 (show (Go.Proofs.Tryz.prog.info? wA).map (·.size)=some 2 by kernel_rfl)
 go_enter Go.Proofs.Tryz.func66,Go.Proofs.Tryz.ntmps66
 go_wp2
 rw [Lib.run_neq_ptr_same w _ Go.Proofs.Tryz.underlying67 hj]
 go_wp2
 go_end0
 exact ⟨rfl,rfl⟩
set_option maxHeartbeats 1000000 in
set_option maxRecDepth 100000 in
theorem zqh (b:Nat) (w:World) (h0:w.cell? ⟨b,0,none⟩=some (.pointer none)) {n:Nat} (hn:2≤n) (hsh:w.shape? b=some (wA,n)) (hfz:w.frozen? ⟨b,0,none⟩=false) :
  Calls Go.Proofs.Tryz.prog Wm #[.pointer (some ⟨b,0,none⟩)] w fun e w'=>e=.returned (.tuple #[])∧w'=w.setCell ⟨b,0,none⟩ (.pointer (some ⟨b,0,none⟩)):=by
 obtain ⟨j,hj,hjs⟩:=Option.map_eq_some_iff.1 (show (Go.Proofs.Tryz.prog.info? wA).map (·.size)=some 2 by kernel_rfl)
 go_enter Go.Proofs.Tryz.func66,Go.Proofs.Tryz.ntmps66
 go_wp2
 rw [Lib.run_to_unsafe w ⟨b,0,none⟩ Go.Proofs.Tryz.underlying67 Go.Proofs.Tryz.underlying163 hj (by rw [hjs]; decide) hsh (by show 0 < n; omega)]
 simp only [Result.andThen]
 rw [Oper.upon_value]
 go_wp2
 rw [run_callFunc_extern Go.Proofs.Tryz.func117 (by kernel_rfl) (by kernel_rfl) (by kernel_rfl) (e:=Extern.AbiNoEscape.same) (by kernel_rfl)]
 rw [Lib.run_noEscape]
 simp only [Result.andThen]
 rw [Oper.upon_value]
 go_wp2
 rw [Lib.run_from_unsafe w ⟨b,0,none⟩ Go.Proofs.Tryz.underlying163 Go.Proofs.Tryz.underlying67 hj hsh (zu3 (by kernel_rfl) (by kernel_rfl) (by kernel_rfl) hn)]
 simp only [Result.andThen]
 rw [Oper.upon_value]
 go_wp2
 go_end0
 exact ⟨rfl,rfl⟩
end Go.Fu
namespace Go.Fu
open Go Go.RowKit
set_option maxHeartbeats 2000000 in
set_option maxRecDepth 100000 in
theorem zng (b g cap:Nat) (p:Value) (rest:List Value) (cur:Array Value) (l:List UInt8) (w:World) (h0:l≠[]) (hbk:w.heap[b]?=some (.cells ⟨p :: .slice (some ⟨g,0,none⟩) l.length cap :: rest⟩ wA (0,0))) (hg:w.heap[g]?=some (.cells cur 5 (0,0)))
  (hnc:l.length≤cap) (hcm:cap≤maxLen) (hcs:cur.size=cap * 1) (hcells:∀ (j:Nat) (x:UInt8),l[j]?=some x→w.cell? ⟨g,j,none⟩=some (.int .u8 x.toNat)) :
  Calls Go.Proofs.Tryz.prog Zs #[.pointer (some ⟨b,0,none⟩)] w fun e w'=>e=.returned (.string ⟨l.toArray⟩)∧w'=w.drew.freeze ⟨g,0,none⟩ l.length:=by
 have hl0:l.length≠0:=by simpa using h0
 have c1:w.drew.cell? ⟨b,1,none⟩=some (.slice (some ⟨g,0,none⟩) l.length cap):=by
  have:w.drew.heap[b]?=some (.cells ⟨p :: .slice (some ⟨g,0,none⟩) l.length cap :: rest⟩ wA (0,0)):=hbk
  rw [Lib.cell_of_heap this]; rfl
 have hSD:(Builtin.unsafeSliceData_ #[68] 114 #[.slice (some ⟨g,0,none⟩) l.length cap]).run Go.Proofs.Tryz.prog w.drew=.ok (.pointer (some ⟨g,0,none⟩)) w.drew :=
  Lib.run_unsafeSliceData_row _ _ _ _ _ _ (by omega)
 have hUS:(Builtin.unsafeString_ #[114,3] 9 #[.pointer (some ⟨g,0,none⟩),.int .i64 l.length]).run Go.Proofs.Tryz.prog w.drew=.ok (.string ⟨l.toArray⟩) (w.drew.freeze ⟨g,0,none⟩ l.length):=by
  refine Lib.run_unsafeString_row w.drew 114 3 9 5 Go.Proofs.Tryz.underlying114 (by kernel_rfl) g cur.size (by have hg':w.drew.heap[g]?=some (.cells cur 5 (0,0)):=hg; simp [World.shape?,hg']) l h0 (by omega) (by unfold maxLen at hcm; omega) ?_
  intro j x hx
  have:=hcells j x hx
  simpa [Addr.add_lit] using this
 clear hcells
 go_enter Go.Proofs.Tryz.func33,Go.Proofs.Tryz.ntmps33
 go_wp2
 go_region
 all_goals (go_wp2; go_ret; exact ⟨rfl,rfl⟩)
end Go.Fu
