/-
 The program's functions as the machine's code (printed by gen2.py).
-/
import Derived.Test.YtieacpoabejcoaaGreatDoorFsCode1
import Derived.Recover
import Derived.Test.YtieacpoabejcoaaGreatDoorMyFrame
import Derived.Test.YtieacpoabejcoaaGreatDoorProg
import Derived.WalkKit
import Derived.Lib.Builder
import Derived.Laws.Externs
set_option maxHeartbeats 4000000
set_option linter.unusedSimpArgs false
set_option linter.unusedVariables false
set_option linter.unusedSectionVars false
namespace Go.Fu
open Go Go.Mx
def a_235:ACode:=(.seq (.region [mo 42 (.bin .lss (.tmp 41) (.tmp 40))] none []) (.seq (.cond (.tmp 42) .skip (.exit 1)) (.seq (.block 2 (.seq (.region [mo 43 (.indexAddr 1 (.tmp 39) (.tmp 41)),mo 44 (.load none false (.tmp 43)),mw 7 44] none [42,43,44]) (.seq (.seq (.region [
 mt 45 7,mo 46 (.lenS (.tmp 45)),mt 47 5,mo 48 (.bin .sub (.const (.int .i64 9223372036854775807)) (.tmp 47)),mo 49 (.bin .gtr (.tmp 46) (.tmp 48))] none [45,46,47,48]) (.cond (.tmp 49) (.region [
 mo 50 (.mkIface t_227 (.const (.str [115,116,114,105,110,103,115,58,32,74,111,105,110,32,111,117,116,112,117,116,32,108,101,110,103,116,104,32,111,118,101,114,102,108,111,119]))),⟨none,.panic (.tmp 50),none⟩] none [49,50]) .skip)) (.region [mt 51 5,
 mt 52 7,mo 53 (.lenS (.tmp 52)),mo 54 (.bin .add (.tmp 51) (.tmp 53)),mw 5 54] none [7,49,51,52,53,54])))) (.region [mo 55 (.bin .add (.tmp 41) (.const (.int .i64 1))),mw 41 55] none [55]))))
def a_236:ACode:=(.seq (.region [mo 66 (.bin .lss (.tmp 65) (.tmp 64))] none []) (.seq (.cond (.tmp 66) .skip (.exit 3)) (.seq (.block 4 (.seq (.region [mo 67 (.indexAddr 1 (.tmp 63) (.tmp 65)),mo 68 (.load none false (.tmp 67)),mw 10 68] none [66,67,68]) (.seq (.region [
 mt 69 1,mo 70 (.call n_197 [.tmp 8,.tmp 69])] none [69,70]) (.region [mt 71 10,mo 72 (.call n_197 [.tmp 8,.tmp 71])] none [10,71,72])))) (.region [mo 73 (.bin .add (.tmp 65) (.const (.int .i64 1))),mw 65 73] none [73]))))
def a_213:AFun:={nargs:=2,ntmps:=75,res:=[.tmp 4],gc:=false,body:=(.seq (.region [mo 4 (.mov (.const (.str [])))] none [4]) (.seq (.seq (.region [mt 11 0,mo 12 (.len (.tmp 11))] none [11]) (.block 0 (.seq (.region [mo 14 (.bin .eql (.tmp 12) (.const (.int .i64 0))),
 mw 13 14] none [14]) (.cond (.tmp 13) (.seq (.region [mo 4 (.mov (.const (.str [])))] none [0,1,12,13]) .ret) (.seq (.region [mo 16 (.bin .eql (.tmp 12) (.const (.int .i64 1))),mw 15 16] none [12,13,16]) (.cond (.tmp 15) (.seq (.region [mw 17 0,
 mo 18 (.indexAddr 1 (.tmp 17) (.const (.int .i64 0))),mo 19 (.load none true (.tmp 18)),mw 4 19] none [0,1,15,17,18,19]) .ret) .skip)))))) (.seq (.region [mo 5 (.mov (.const (.int .i64 0)))] none [15]) (.seq (.seq (.region [mt 20 1,mo 21 (.lenS (.tmp 20)),
 mo 22 (.bin .gtr (.tmp 21) (.const (.int .i64 0)))] none [20,21]) (.cond (.tmp 22) (.seq (.seq (.region [mt 23 1,mo 24 (.lenS (.tmp 23)),mt 25 0,mo 26 (.len (.tmp 25)),mo 27 (.bin .sub (.tmp 26) (.const (.int .i64 1))),mo 28 (.bin .quo (.const (.int .i64 9223372036854775807)) (.tmp 27)),
 mo 29 (.bin .geq (.tmp 24) (.tmp 28))] none [22,23,24,25,26,27,28]) (.cond (.tmp 29) (.region [
 mo 30 (.mkIface t_227 (.const (.str [115,116,114,105,110,103,115,58,32,74,111,105,110,32,111,117,116,112,117,116,32,108,101,110,103,116,104,32,111,118,101,114,102,108,111,119]))),⟨none,.panic (.tmp 30),none⟩] none [29,30]) .skip)) (.region [mt 31 5,
 mt 32 1,mo 33 (.lenS (.tmp 32)),mt 34 0,mo 35 (.len (.tmp 34)),mo 36 (.bin .sub (.tmp 35) (.const (.int .i64 1))),mo 37 (.bin .mul (.tmp 33) (.tmp 36)),mo 38 (.bin .add (.tmp 31) (.tmp 37)),mw 5 38] none [29,31,32,33,34,35,36,37,38])) .skip)) (.seq (.seq (.region [mt 39 0,
 mo 40 (.len (.tmp 39)),mo 41 (.mov (.const (.int .i64 0)))] none [22]) (.block 1 (.loop a_235))) (.seq (.region [mo 8 (.galloc t_12 [.nilp,.nils])] none [39,40,41,42]) (.seq (.region [mt 56 5,mo 57 (.call n_180 [.tmp 8,.tmp 56])] none [5,56,57])
 (.seq (.region [mt 58 0,mo 59 (.indexAddr 1 (.tmp 58) (.const (.int .i64 0))),mo 60 (.load none false (.tmp 59)),mo 61 (.call n_197 [.tmp 8,.tmp 60])] none [58,59,60,61]) (.seq (.seq (.region [mt 62 0,mo 63 (.slice 1 (.tmp 62) (some (.const (.int .i64 1))) none),
 mo 64 (.len (.tmp 63)),mo 65 (.mov (.const (.int .i64 0)))] none [0,62]) (.block 3 (.loop a_236))) (.seq (.region [mo 74 (.call n_124 [.tmp 8]),mw 4 74] none [1,8,63,64,65,66,74]) .ret))))))))))}
def a_140:AFun:={nargs:=2,ntmps:=9,res:=[.cell 4 (some 4)],gc:=false,body:=(.seq (.region [mo 2 (.box (.tmp 0)),mo 3 (.box (.tmp 1)),mo 4 (.alloc [.int .i64 0,.int .i64 0,.str [],.nils])] none [0,1]) (.seq (.region [mo 5 (.load (some 4) false (.tmp 2)),
 mo 6 (.load (some 4) false (.tmp 3)),mo 7 (.buildSlice k_2 [.tmp 5,.tmp 6]),mo 8 (.build [.int .i64 0,.int .i64 0,.str [],.nils] [(0,1,(.const (.int .i64 4))),(3,1,(.tmp 7))]),⟨none,.store 4 (.tmp 4) (.mv 8),none⟩] none [2,3,5,6,7,8]) .ret))}
def a_237:ACode:=(.seq (.region [mo 25 (.bin .lss (.tmp 24) (.tmp 23))] none []) (.seq (.cond (.tmp 25) .skip (.exit 2)) (.seq (.block 3 (.seq (.region [mo 26 (.indexAddr 1 (.tmp 22) (.tmp 24)),mo 27 (.load none false (.tmp 26)),mw 7 27] none [25,26,27]) (.seq (.region [mt 28 3,
 mt 29 7,mo 30 (.call n_9 [.tmp 28,.tmp 29]),mo 31 (.un .not (.tmp 30)),mw 32 31,⟨some 33,.fieldAddr 0 none (.tmp 1),(some (32,true))⟩,⟨some 34,.load none false (.tmp 33),(some (32,true))⟩,⟨some 35,.bin .neq (.tmp 34) (.const (.int .i64 5)),(some (32,true))⟩,
 ⟨some 36,.mov (.mv 35),(some (32,true))⟩,⟨some 37,.mov (.tmp 7),(some (36,false))⟩,⟨some 38,.fieldAddr 2 none (.tmp 1),(some (36,false))⟩,⟨some 39,.load none false (.tmp 38),(some (36,false))⟩,⟨some 40,.bin .neq (.tmp 37) (.tmp 39),(some (36,false))⟩,
 ⟨some 41,.pick (.tmp 36) (.const (.bool true)) (.tmp 40),(some (32,true))⟩,mo 42 (.pick (.tmp 32) (.tmp 41) (.const (.bool false)))] none [28,29,30,31,32,33,34,35,36,37,38,39,40,41]) (.cond (.tmp 42) (.region [mw 43 3,mt 44 7,mo 45 (.buildA k_0 [.tmp 44]),
 mo 46 (.appendA k_0 16 (.mv 43) (.tmp 45)),mw 3 46] none [7,42,43,44,45,46]) .skip)))) (.region [mo 47 (.bin .add (.tmp 24) (.const (.int .i64 1))),mw 24 47] none [7,42,47]))))
def a_238:ACode:=(.seq (.region [mo 18 (.bin .lss (.tmp 17) (.tmp 16))] none []) (.seq (.cond (.tmp 18) .skip (.exit 0)) (.seq (.block 1 (.seq (.region [mo 19 (.indexAddr 4 (.tmp 15) (.tmp 17)),mo 20 (.load (some 4) false (.tmp 19)),
 mo 5 (.alloc [.int .i64 0,.int .i64 0,.str [],.nils]),⟨none,.store 4 (.tmp 5) (.mv 20),none⟩] none [18,19,20]) (.seq (.region [mo 21 (.load (some 4) false (.tmp 5)),mo 22 (.call n_24 [.tmp 21]),mo 23 (.len (.tmp 22)),mo 24 (.mov (.const (.int .i64 0)))] none [5,21]) (.block 2
 (.loop a_237))))) (.region [mo 48 (.bin .add (.tmp 17) (.const (.int .i64 1))),mw 17 48] none [22,23,24,25,48]))))
def a_215:AFun:={nargs:=1,ntmps:=50,res:=[.tmp 2],gc:=false,body:=(.seq (.region [mo 1 (.box (.tmp 0)),mo 2 (.mov (.const .nils))] none [0,2]) (.seq (.seq (.region [mo 8 (.fieldAddr 0 none (.tmp 1)),mo 9 (.load none false (.tmp 8)),
 mo 10 (.bin .eql (.tmp 9) (.const (.int .i64 2)))] none [8,9]) (.cond (.tmp 10) (.seq (.region [mo 11 (.fieldAddr 2 none (.tmp 1)),mo 12 (.load none false (.tmp 11)),mo 13 (.buildA k_0 [.tmp 12]),mw 2 13] none [1,10,11,12,13]) .ret) .skip)) (.seq (.region [
 mo 3 (.mov (.const .nils))] none [10]) (.seq (.seq (.region [mo 14 (.fieldAddr 3 none (.tmp 1)),mo 15 (.load none false (.tmp 14)),mo 16 (.len (.tmp 15)),mo 17 (.mov (.const (.int .i64 0)))] none [14]) (.block 0 (.loop a_238))) (.seq (.region [mw 49 3,
 mw 2 49] none [1,3,15,16,17,18,49]) .ret)))))}
def a_43:ACode:=(.seq (.seq (.region [mt 16 6,mt 17 0,mo 18 (.len (.tmp 17)),mo 19 (.bin .lss (.tmp 16) (.tmp 18))] none [16,17,18]) (.cond (.tmp 19) .skip (.exit 0))) (.seq (.block 1 (.seq (.region [mt 22 0,mt 23 6,mo 24 (.indexAddr 1 (.tmp 22) (.tmp 23)),
 mo 25 (.load none false (.tmp 24)),mw 7 25] none [19,22,23,24,25]) (.seq (.region [mt 26 1,mt 27 7,mo 28 (.callv (.tmp 26) [.tmp 27]),mo 29 (.un .not (.tmp 28))] none [26,27,28]) (.cond (.tmp 29) (.seq (.region [mt 30 0,mt 31 5,mt 32 7,mo 33 (.indexAddr 1 (.tmp 30) (.tmp 31)),
 ⟨none,.store 1 (.tmp 33) (.mv 32),none⟩] none [7,29,30,31,32,33]) (.region [mt 34 5,mo 35 (.bin .add (.tmp 34) (.const (.int .i64 1))),mw 5 35] none [34,35])) .skip)))) (.region [mt 20 6,mo 21 (.bin .add (.tmp 20) (.const (.int .i64 1))),mw 6 21] none [7,20,21,29])))
def a_70:AFun:={nargs:=2,ntmps:=42,res:=[.tmp 4],gc:=false,body:=(.seq (.region [mo 4 (.mov (.const .nils))] none [4]) (.seq (.region [mt 8 0,mt 9 1,mo 10 (.call n_179 [.tmp 8,.tmp 9]),mw 5 10] none [8,9,10]) (.seq (.seq (.region [
 mt 11 5,mo 12 (.bin .eql (.tmp 11) (.const (.int .i64 (-1))))] none [11]) (.cond (.tmp 12) (.seq (.region [mw 13 0,mw 4 13] none [0,1,5,12,13]) .ret) .skip)) (.seq (.seq (.region [mt 14 5,mo 15 (.bin .add (.tmp 14) (.const (.int .i64 1))),mw 6 15] none [12,14,15]) (.block 0
 (.loop a_43))) (.seq (.region [mt 36 0,mt 37 5,mo 38 (.slice 1 (.tmp 36) (some (.tmp 37)) none),⟨none,.clearA 1 [.str []] (.tmp 38),none⟩] none [1,6,19,36,37,38]) (.seq (.region [mw 39 0,mw 40 5,mo 41 (.slice 1 (.tmp 39) none (some (.tmp 40))),
 mw 4 41] none [0,5,39,40,41]) .ret))))))}
def a_151:AFun:={nargs:=2,ntmps:=8,res:=[.tmp 3],gc:=false,body:=(.seq (.region [mo 3 (.mov (.const (.bool false)))] none [3]) (.seq (.region [mo 4 (.fieldAddr 0 none (.tmp 1)),mo 5 (.load none false (.tmp 4)),mw 6 0,
 mo 7 (.call n_9 [.tmp 5,.tmp 6]),mw 3 7] none [0,1,4,5,6,7]) .ret))}
def a_69:AFun:={nargs:=2,ntmps:=9,res:=[.tmp 4],gc:=false,body:=(.seq (.region [mo 4 (.mov (.const (.bool false)))] none [4]) (.seq (.region [mw 5 0,mw 6 1,mo 7 (.call n_66 [.tmp 5,.tmp 6]),mo 8 (.bin .geq (.tmp 7) (.const (.int .i64 0))),
 mw 4 8] none [0,1,5,6,7,8]) .ret))}
def a_54:ACode:=(.block 1 (.seq (.region [mo 3 (.load none false (.tmp 0)),mo 4 (.nilCheck (.tmp 3)),mo 5 (.fieldAddr 3 none (.tmp 4)),mo 6 (.load none false (.tmp 5)),mo 7 (.call n_116 [.tmp 6]),mw 2 7] none [3,4,5,6,7,21]) (.seq (.region [
 mo 8 (.load none false (.tmp 0)),mo 9 (.nilCheck (.tmp 8)),mo 10 (.fieldAddr 3 none (.tmp 9)),mo 11 (.load none false (.tmp 10)),mo 12 (.bin .add (.tmp 11) (.const (.int .i64 1))),mo 13 (.nilCheck (.tmp 8)),mo 14 (.fieldAddr 3 none (.tmp 13)),
 ⟨none,.store 1 (.tmp 14) (.mv 12),none⟩] none [8,9,10,11,12,13,14]) (.seq (.region [mo 15 (.load none false (.tmp 0)),mo 16 (.nilCheck (.tmp 15)),mo 17 (.fieldAddr 1 none (.tmp 16)),mo 18 (.load none false (.tmp 17)),mt 19 2,mo 20 (.call n_9 [.tmp 18,.tmp 19]),
 mo 21 (.un .not (.tmp 20))] none [15,16,17,18,19,20]) (.cond (.tmp 21) (.seq (.region [mw 22 2,mw 1 22] none [0,2,21,22]) .ret) .skip)))))
def a_150:AFun:={nargs:=1,ntmps:=23,res:=[.tmp 1],gc:=false,body:=(.seq (.region [mo 1 (.mov (.const (.str [])))] none [1]) (.block 0 (.loop a_54)))}
def a_130:AFun:={nargs:=1,ntmps:=17,res:=[.tmp 2],gc:=false,body:=(.seq (.region [mo 2 (.mov (.const (.str [])))] none [2]) (.seq (.region [mt 4 0,mo 5 (.bin .rem (.tmp 4) (.const (.int .i64 26))),mo 6 (.bin .add (.const (.int .i64 97)) (.tmp 5)),
 mo 7 (.toInt .i32 (.tmp 6)),mo 8 (.runeStr (.tmp 7)),mw 3 8] none [4,5,6,7,8]) (.seq (.seq (.region [mt 9 0,mo 10 (.bin .lss (.tmp 9) (.const (.int .i64 26)))] none [9]) (.cond (.tmp 10) (.seq (.region [mw 11 3,mw 2 11] none [0,3,10,11]) .ret) .skip)) (.seq (.region [mw 12 3,mw 13 0,
 mo 14 (.bin .quo (.tmp 13) (.const (.int .i64 26))),mo 15 (.call n_23 [.tmp 14]),mo 16 (.bin .add (.tmp 12) (.tmp 15)),mw 2 16] none [0,3,10,12,13,14,15,16]) .ret))))}
def a_185:ACode:=(.seq (.seq (.region [mt 11 8,mt 12 1,mo 13 (.bin .leq (.tmp 11) (.tmp 12))] none [11,12]) (.cond (.tmp 13) .skip (.exit 0))) (.block 1 (.seq (.region [mt 14 0,mt 15 7,mt 16 8,mt 17 2,
 mo 18 (.call n_123 [.tmp 14,.tmp 15,.tmp 16,.tmp 17])] none [7,13,14,15,16,17,18]) (.seq (.region [mt 19 8,mw 7 19] none [19]) (.region [mt 20 8,mt 21 6,mo 22 (.bin .add (.tmp 20) (.tmp 21)),mw 8 22] none [20,21,22])))))
def a_234:ACode:=(.seq (.seq (.region [mt 33 8,mt 34 1,mo 35 (.bin .leq (.tmp 33) (.tmp 34))] none [33,34]) (.cond (.tmp 35) .skip (.exit 4))) (.block 5 (.seq (.region [mt 36 0,mt 37 7,mt 38 7,mt 39 6,mo 40 (.bin .add (.tmp 38) (.tmp 39)),mt 41 8,mt 42 2,
 mo 43 (.call n_225 [.tmp 36,.tmp 37,.tmp 40,.tmp 41,.tmp 42])] none [7,35,36,37,38,39,40,41,42,43]) (.seq (.region [mt 44 8,mw 7 44] none [44]) (.region [mt 45 8,mt 46 6,mo 47 (.bin .mul (.const (.int .i64 2)) (.tmp 46)),
 mo 48 (.bin .add (.tmp 45) (.tmp 47)),mw 8 48] none [45,46,47,48])))))
def a_186:ACode:=(.seq (.seq (.region [mt 28 6,mt 29 1,mo 30 (.bin .lss (.tmp 28) (.tmp 29))] none [28,29]) (.cond (.tmp 30) .skip (.exit 2))) (.block 3 (.seq (.region [mt 31 6,mo 32 (.bin .mul (.const (.int .i64 2)) (.tmp 31)),mo 7 (.mov (.const (.int .i64 0))),
 mw 8 32] none [30,31,32]) (.seq (.block 4 (.loop a_234)) (.seq (.seq (.region [mt 49 7,mt 50 6,mo 51 (.bin .add (.tmp 49) (.tmp 50)),mw 9 51] none [8,35,49,50,51]) (.seq (.region [mt 52 9,mt 53 1,mo 54 (.bin .lss (.tmp 52) (.tmp 53))] none [52,53])
 (.cond (.tmp 54) (.region [mt 55 0,mt 56 7,mt 57 9,mt 58 1,mt 59 2,mo 60 (.call n_225 [.tmp 55,.tmp 56,.tmp 57,.tmp 58,.tmp 59])] none [7,9,54,55,56,57,58,59,60]) .skip))) (.region [mt 61 6,mo 62 (.bin .mul (.tmp 61) (.const (.int .i64 2))),
 mw 6 62] none [7,9,54,61,62]))))))
def a_156:AFun:={nargs:=3,ntmps:=63,res:=[],gc:=false,body:=(.seq (.region [mo 6 (.mov (.const (.int .i64 20)))] none []) (.seq (.region [mt 10 6,mo 7 (.mov (.const (.int .i64 0))),mw 8 10] none [10]) (.seq (.block 0 (.loop a_185))
 (.seq (.region [mt 23 0,mt 24 7,mt 25 1,mt 26 2,mo 27 (.call n_123 [.tmp 23,.tmp 24,.tmp 25,.tmp 26])] none [7,8,13,23,24,25,26,27]) (.block 2 (.loop a_186))))))}
def a_138:AFun:={nargs:=1,ntmps:=8,res:=[.tmp 2],gc:=false,body:=(.seq (.region [mo 2 (.mov (.const (.str [])))] none [2]) (.seq (.region [mo 3 (.buildSlice k_0 [(.const (.str [97])),(.const (.str [98])),(.const (.str [99])),(.const (.str [120]))]),mw 4 0,
 mo 5 (.call n_4 [.tmp 4,(.const (.int .i64 4))]),mo 6 (.indexAddr 1 (.tmp 3) (.tmp 5)),mo 7 (.load none true (.tmp 6)),mw 2 7] none [0,3,4,5,6,7]) .ret))}
def a_135:AFun:={nargs:=1,ntmps:=8,res:=[.tmp 2],gc:=false,body:=(.seq (.region [mo 2 (.mov (.const (.str [])))] none [2]) (.seq (.region [
 mo 3 (.buildSlice k_0 [(.const (.str [73,110,116])),(.const (.str [66,111,111,108])),(.const (.str [76])),(.const (.str [80])),(.const (.str [70])),(.const (.str [45,62]))]),mw 4 0,mo 5 (.call n_4 [.tmp 4,(.const (.int .i64 6))]),mo 6 (.indexAddr 1 (.tmp 3) (.tmp 5)),
 mo 7 (.load none true (.tmp 6)),mw 2 7] none [0,3,4,5,6,7]) .ret))}
def a_137:AFun:={nargs:=2,ntmps:=10,res:=[.cell 4 (some 4)],gc:=false,body:=(.seq (.region [mo 2 (.box (.tmp 0)),mo 3 (.box (.tmp 1)),mo 4 (.alloc [.int .i64 0,.int .i64 0,.str [],.nils])] none [0,1]) (.seq (.region [
 mo 5 (.build [.int .i64 0,.int .i64 0,.str [],.nils] [(0,1,(.const (.int .i64 3))),(2,1,(.const (.str [45,62])))]),mo 6 (.loadB 2 (some 4) (.tmp 2)),mo 8 (.loadB 3 (some 4) (.tmp 3)),mo 7 (.call n_101 [.tmp 5,.tmp 6]),mo 9 (.call n_101 [.tmp 7,.tmp 8]),
 ⟨none,.storeB 4 4 (.tmp 4) (.mv 9),none⟩] (some [0,1,3,2,4,5]) [2,3,5,6,7,8,9]) .ret))}
def a_131:AFun:={nargs:=1,ntmps:=6,res:=[.tmp 2],gc:=false,body:=(.seq (.region [mo 2 (.mov (.const (.bool false)))] none [2]) (.seq (.region [mt 3 0,mt 4 0,mo 5 (.bin .neq (.tmp 3) (.tmp 4)),mw 2 5] none [0,3,4,5]) .ret))}
def a_18:AFun:={nargs:=2,ntmps:=89,res:=[.tmp 4],gc:=false,body:=(.seq (.region [mo 2 (.box (.tmp 0)),mo 4 (.mov (.const (.str [])))] none [0,4]) (.seq (.region [mo 10 (.fieldAddr 2 none (.tmp 2)),mo 11 (.load none false (.tmp 10)),mw 5 11,
 mo 6 (.mov (.const (.bool false)))] none [10,11]) (.seq (.seq (.region [mo 13 (.load (some 4) false (.tmp 2)),mo 14 (.call n_105 [.tmp 13]),mw 12 14,mo 15 (.extract (.tmp 12) 0),mo 16 (.extract (.tmp 12) 1),mo 17 (.extract (.tmp 12) 2),
 mo 7 (.alloc [.int .i64 0,.int .i64 0,.str [],.nils]),mo 8 (.alloc [.int .i64 0,.int .i64 0,.str [],.nils]),⟨none,.store 4 (.tmp 7) (.mv 15),none⟩,⟨none,.store 4 (.tmp 8) (.mv 16),none⟩,mw 9 17] none [12,13,14,15,16,17]) (.block 0 (.seq (.region [mt 19 9,mw 18 19] none [9,19])
 (.cond (.tmp 18) (.region [mo 20 (.loadB 7 (some 4) (.tmp 7)),mo 23 (.loadB 8 (some 4) (.tmp 8)),mo 24 (.fieldAddr 0 none (.tmp 8)),mo 25 (.loadB 8 none (.tmp 24)),mo 26 (.bin .eql (.tmp 25) (.const (.int .i64 5))),mt 31 1,mo 32 (.bin .neq (.tmp 31) (.const (.int .i64 0))),
 mo 21 (.call n_17 [.tmp 20,(.const (.int .i64 1))]),mo 22 (.bin .add (.tmp 21) (.const (.str [32,45,62,32]))),mo 27 (.call n_200 [.tmp 26]),mo 28 (.bin .add (.const (.int .i64 0)) (.tmp 27)),mo 29 (.call n_17 [.tmp 23,.tmp 28]),
 mo 30 (.bin .add (.tmp 22) (.tmp 29)),mw 5 30,mw 6 32] (some [0,3,4,5,6,11,12,1,2,7,8,9,10,13,14]) [1,2,7,8,18,20,21,22,23,24,25,26,27,28,29,30,31,32]) (.seq (.region [mo 34 (.fieldAddr 0 none (.tmp 2)),mo 35 (.load none false (.tmp 34)),
 mo 36 (.bin .eql (.tmp 35) (.const (.int .i64 1))),mw 33 36] none [7,8,18,34,35,36]) (.cond (.tmp 33) (.region [mo 37 (.fieldAddr 1 none (.tmp 2)),mo 38 (.load none false (.tmp 37)),mo 39 (.call n_23 [.tmp 38]),mo 40 (.bin .add (.const (.str [63])) (.tmp 39)),
 mw 5 40] none [1,2,33,37,38,39,40]) (.seq (.region [mo 42 (.fieldAddr 0 none (.tmp 2)),mo 43 (.load none false (.tmp 42)),mo 44 (.bin .eql (.tmp 43) (.const (.int .i64 3))),mw 45 44,⟨some 46,.fieldAddr 2 none (.tmp 2),(some (45,true))⟩,
 ⟨some 47,.load none false (.tmp 46),(some (45,true))⟩,⟨some 48,.bin .eql (.tmp 47) (.const (.str [45,62])),(some (45,true))⟩,mo 49 (.pick (.tmp 45) (.tmp 48) (.const (.bool false))),mw 41 49] none [33,42,43,44,45,46,47,48,49]) (.cond (.tmp 41) (.region [
 mo 6 (.mov (.const (.bool true)))] none [1,2,41]) (.seq (.region [mo 51 (.fieldAddr 0 none (.tmp 2)),mo 52 (.load none false (.tmp 51)),mo 53 (.bin .eql (.tmp 52) (.const (.int .i64 5))),mw 50 53] none [41,51,52,53]) (.cond (.tmp 50) (.region [mo 54 (.fieldAddr 2 none (.tmp 2)),
 mo 55 (.loadB 2 none (.tmp 54)),mo 56 (.bin .add (.const (.str [102,111,114,97,108,108,32])) (.tmp 55)),mo 57 (.bin .add (.tmp 56) (.const (.str [46,32]))),mo 58 (.fieldAddr 3 none (.tmp 2)),mo 59 (.loadB 2 none (.tmp 58)),mo 60 (.indexAddr 4 (.tmp 59) (.const (.int .i64 0))),
 mo 61 (.loadE (some 4) (.tmp 60)),mt 64 1,mo 65 (.bin .neq (.tmp 64) (.const (.int .i64 0))),mo 62 (.call n_17 [.tmp 61,(.const (.int .i64 0))]),mo 63 (.bin .add (.tmp 57) (.tmp 62)),mw 5 63,
 mw 6 65] (some [0,1,2,3,4,5,6,7,10,11,8,9,12,13]) [1,2,50,54,55,56,57,58,59,60,61,62,63,64,65]) (.seq (.region [mo 67 (.fieldAddr 0 none (.tmp 2)),mo 68 (.load none false (.tmp 67)),mo 69 (.bin .eql (.tmp 68) (.const (.int .i64 4))),mw 66 69] none [50,67,68,69])
 (.cond (.tmp 66) (.region [mo 70 (.fieldAddr 3 none (.tmp 2)),mo 71 (.loadB 2 none (.tmp 70)),mo 72 (.indexAddr 4 (.tmp 71) (.const (.int .i64 0))),mo 73 (.loadE (some 4) (.tmp 72)),mo 76 (.fieldAddr 3 none (.tmp 2)),mo 77 (.loadB 2 none (.tmp 76)),
 mo 78 (.indexAddr 4 (.tmp 77) (.const (.int .i64 1))),mo 79 (.loadE (some 4) (.tmp 78)),mt 82 1,mo 83 (.bin .eql (.tmp 82) (.const (.int .i64 3))),mo 74 (.call n_17 [.tmp 73,(.const (.int .i64 2))]),mo 75 (.bin .add (.tmp 74) (.const (.str [32]))),
 mo 80 (.call n_17 [.tmp 79,(.const (.int .i64 3))]),mo 81 (.bin .add (.tmp 75) (.tmp 80)),mw 5 81,mw 6 83] (some [0,1,2,3,6,7,8,9,12,13,4,5,10,11,14,15]) [1,2,66,70,71,72,73,74,75,76,77,78,79,80,81,82,83]) .skip)))))))))))) (.seq (.seq (.region [
 mt 84 6] none [1,2,6,66]) (.cond (.tmp 84) (.seq (.region [mw 85 5,mo 86 (.bin .add (.const (.str [40])) (.tmp 85)),mo 87 (.bin .add (.tmp 86) (.const (.str [41]))),mw 4 87] none [5,84,85,86,87]) .ret) .skip)) (.seq (.region [mw 88 5,mw 4 88] none [5,84,88]) .ret)))))}
def a_187:ACode:=(.seq (.region [mo 10 (.bin .lss (.tmp 9) (.tmp 8))] none []) (.seq (.cond (.tmp 10) .skip (.exit 0)) (.seq (.block 1 (.seq (.region [mt 11 9,mw 5 11] none [10,11]) (.seq (.region [mt 12 0,mo 13 (.len (.tmp 12)),
 mo 14 (.bin .sub (.tmp 13) (.const (.int .i64 1))),mt 15 5,mo 16 (.bin .sub (.tmp 14) (.tmp 15)),mw 6 16] none [5,12,13,14,15,16]) (.seq (.region [mt 17 0,mt 18 6,mo 19 (.indexAddr 1 (.tmp 17) (.tmp 18)),mo 20 (.load none false (.tmp 19)),mt 21 1,
 mo 22 (.bin .eql (.tmp 20) (.tmp 21))] none [17,18,19,20,21]) (.cond (.tmp 22) (.seq (.region [mw 23 6,mw 4 23] none [0,1,6,8,9,22,23]) .ret) .skip))))) (.region [mo 24 (.bin .add (.tmp 9) (.const (.int .i64 1))),mw 9 24] none [6,22,24]))))
def a_162:AFun:={nargs:=2,ntmps:=25,res:=[.tmp 4],gc:=false,body:=(.seq (.region [mo 4 (.mov (.const (.int .i64 0)))] none [4]) (.seq (.seq (.region [mt 7 0,mo 8 (.len (.tmp 7)),mo 9 (.mov (.const (.int .i64 0)))] none [7]) (.block 0 (.loop a_187))) (.seq
 (.region [mo 4 (.mov (.const (.int .i64 (-1))))] none [0,1,8,9,10]) .ret)))}
def a_72:AFun:={nargs:=3,ntmps:=25,res:=[.tmp 6],gc:=false,body:=(.seq (.region [mo 3 (.gbox t_129 (.tmp 0)),mo 4 (.gbox t_int (.tmp 1)),mo 5 (.box (.tmp 2)),mo 6 (.mov (.const (.bool false)))] none [0,1,2,6]) (.seq (.region [
 mo 7 (.load none false (.tmp 3)),mo 8 (.load (some 4) false (.tmp 5)),mo 9 (.call n_68 [.tmp 7,.tmp 8]),⟨none,.store 4 (.tmp 5) (.mv 9),none⟩] none [7,8,9]) (.seq (.region [mo 10 (.fieldAddr 0 none (.tmp 5)),mo 11 (.load none false (.tmp 10)),
 mo 12 (.bin .eql (.tmp 11) (.const (.int .i64 1))),mw 13 12,⟨some 14,.fieldAddr 1 none (.tmp 5),(some (13,true))⟩,⟨some 15,.load none false (.tmp 14),(some (13,true))⟩,⟨some 16,.load none false (.tmp 4),(some (13,true))⟩,⟨some 17,.bin .eql (.tmp 15) (.tmp 16),(some (13,true))⟩,
 mo 18 (.pick (.tmp 13) (.tmp 17) (.const (.bool false))),mw 19 18,⟨some 20,.fieldAddr 3 none (.tmp 5),(some (19,false))⟩,⟨some 21,.load none false (.tmp 20),(some (19,false))⟩,⟨some 22,.mkFunc (.func n_183) [] [.tmp 3,.tmp 4],(some (19,false))⟩,
 ⟨some 23,.call n_195 [.tmp 21,.tmp 22],(some (19,false))⟩,mo 24 (.pick (.tmp 19) (.const (.bool true)) (.tmp 23)),mw 6 24] none [3,4,5,10,11,12,13,14,15,16,17,18,19,20,21,22,23,24]) .ret)))}
def a_95:ACode:=(.block 1 (.seq (.region [mo 13 (.entryM (.tmp 10)),mo 14 (.extract (.tmp 13) 0),mw 4 14] none [12,13,14]) (.seq (.region [mt 15 0,mt 16 4,mo 17 (.call n_25 [.tmp 16]),mt 18 3,mo 19 (.call n_77 [.tmp 15,.tmp 17,.tmp 18]),
 mo 20 (.bin .gtr (.tmp 19) (.const (.int .i64 500)))] none [4,15,16,17,18,19]) (.cond (.tmp 20) (.seq (.region [mo 2 (.mov (.const (.bool true)))] none [0,3,10,20]) .ret) .skip))))
def a_165:AFun:={nargs:=1,ntmps:=21,res:=[.tmp 2],gc:=false,body:=(.seq (.region [mo 2 (.mov (.const (.bool false)))] none [2]) (.seq (.region [mo 5 (.makeMap),mw 3 5] none [5]) (.seq (.seq (.region [mt 6 0,mo 7 (.nilCheck (.tmp 6)),
 mo 8 (.fieldAddr 1 none (.tmp 7)),mo 9 (.load none false (.tmp 8)),mo 10 (.rangeM (.tmp 9))] none [6,7,8,9]) (.rangeM 10 11 12 0 [10,3] [4,10,11,12,13,14,15,16,17,18,19,20] a_95)) (.seq (.region [mo 2 (.mov (.const (.bool false)))] none [0,3,10,12,20])
 .ret))))}
def a_212:AFun:={nargs:=2,ntmps:=19,res:=[.tmp 4,.tmp 5],gc:=false,body:=(.seq (.region [mo 4 (.mov (.const (.int .i64 0))),mo 5 (.mov (.const .niliface))] none [4,5]) (.seq (.region [mt 6 0,
 mo 7 (.call n_104 [.tmp 6])] none [6,7]) (.seq (.region [mt 8 0,mt 9 0,mo 10 (.nilCheck (.tmp 9)),mo 11 (.fieldAddr 1 none (.tmp 10)),mo 12 (.load none true (.tmp 11)),mt 13 1,mo 14 (.appendS k_37 1 (.mv 12) (.tmp 13)),mo 15 (.nilCheck (.tmp 8)),
 mo 16 (.fieldAddr 1 none (.tmp 15)),⟨none,.store 1 (.tmp 16) (.mv 14),none⟩] none [0,8,9,10,11,12,13,14,15,16]) (.seq (.region [mw 17 1,mo 18 (.lenS (.tmp 17)),mw 4 18,mo 5 (.mov (.const .niliface))] none [1,17,18]) .ret))))}
def a_35:ACode:=(.seq (.region [mo 9 (.bin .lss (.tmp 8) (.tmp 7))] none []) (.seq (.cond (.tmp 9) .skip (.exit 0)) (.seq (.block 1 (.seq (.region [mt 10 8,mw 5 10] none [9,10]) (.seq (.region [mt 11 1,mt 12 0,mt 13 5,mo 14 (.indexAddr 1 (.tmp 12) (.tmp 13)),
 mo 15 (.load none false (.tmp 14)),mo 16 (.callv (.tmp 11) [.tmp 15])] none [11,12,13,14,15]) (.cond (.tmp 16) (.seq (.region [mw 17 5,mw 4 17] none [0,1,5,7,8,16,17]) .ret) .skip)))) (.region [mo 18 (.bin .add (.tmp 8) (.const (.int .i64 1))),mw 8 18] none [5,16,18]))))
def a_71:AFun:={nargs:=2,ntmps:=19,res:=[.tmp 4],gc:=false,body:=(.seq (.region [mo 4 (.mov (.const (.int .i64 0)))] none [4]) (.seq (.seq (.region [mt 6 0,mo 7 (.len (.tmp 6)),mo 8 (.mov (.const (.int .i64 0)))] none [6]) (.block 0
 (.loop a_35))) (.seq (.region [mo 4 (.mov (.const (.int .i64 (-1))))] none [0,1,7,8,9]) .ret)))}
def a_58:ACode:=(.seq (.seq (.region [mt 18 9,mt 19 1,mo 20 (.bin .gtr (.tmp 18) (.tmp 19)),mw 21 20,⟨some 22,.mov (.tmp 3),(some (21,true))⟩,⟨some 23,.mov (.tmp 0),(some (21,true))⟩,⟨some 24,.mov (.tmp 9),(some (21,true))⟩,
 ⟨some 25,.indexAddr 5 (.tmp 23) (.tmp 24),(some (21,true))⟩,⟨some 26,.loadG (some 5) (.tmp 25),(some (21,true))⟩,⟨some 27,.mov (.tmp 0),(some (21,true))⟩,⟨some 28,.mov (.tmp 9),(some (21,true))⟩,⟨some 29,.bin .sub (.tmp 28) (.const (.int .i64 1)),(some (21,true))⟩,
 ⟨some 30,.indexAddr 5 (.tmp 27) (.tmp 29),(some (21,true))⟩,⟨some 31,.loadG (some 5) (.tmp 30),(some (21,true))⟩,⟨some 32,.callv (.tmp 22) [.tmp 26,.tmp 31],(some (21,true))⟩,⟨some 33,.bin .lss (.tmp 32) (.const (.int .i64 0)),(some (21,true))⟩,
 mo 34 (.pick (.tmp 21) (.tmp 33) (.const (.bool false)))] (some [0,1,2,3,4,5,6,7,8,9,10,11,12,13,14,15,16]) [18,19,20,21,22,23,24,25,26,27,28,29,30,31,32,33]) (.cond (.tmp 34) .skip (.exit 2))) (.seq (.block 3 (.region [mt 37 0,mt 38 9,mt 39 0,mt 40 9,
 mo 41 (.bin .sub (.tmp 40) (.const (.int .i64 1))),mt 42 0,mt 43 9,mo 44 (.bin .sub (.tmp 43) (.const (.int .i64 1))),mo 45 (.indexAddr 5 (.tmp 42) (.tmp 44)),mo 46 (.loadG (some 5) (.tmp 45)),mt 47 0,mt 48 9,mo 49 (.indexAddr 5 (.tmp 47) (.tmp 48)),mo 50 (.loadG (some 5) (.tmp 49)),
 mo 51 (.indexAddr 5 (.tmp 37) (.tmp 38)),⟨none,.storeP 5 (.tmp 51) (.tmp 46),none⟩,mo 52 (.indexAddr 5 (.tmp 39) (.tmp 41)),
 ⟨none,.storeP 5 (.tmp 52) (.tmp 50),none⟩] (some [0,1,2,3,4,5,6,7,8,9,10,11,12,13,14,15,16,17]) [34,37,38,39,40,41,42,43,44,45,46,47,48,49,50,51,52])) (.region [mt 35 9,mo 36 (.bin .sub (.tmp 35) (.const (.int .i64 1))),mw 9 36] none [35,36])))
def a_59:ACode:=(.seq (.seq (.region [mt 12 8,mt 13 2,mo 14 (.bin .lss (.tmp 12) (.tmp 13))] none [12,13]) (.cond (.tmp 14) .skip (.exit 0))) (.seq (.block 1 (.seq (.region [mt 17 8,mw 9 17] none [14,17]) (.block 2
 (.loop a_58)))) (.region [mt 15 8,mo 16 (.bin .add (.tmp 15) (.const (.int .i64 1))),mw 8 16] none [9,15,16,34])))
def a_89:AFun:={nargs:=4,ntmps:=53,res:=[],gc:=false,body:=(.seq (.region [mt 10 1,mo 11 (.bin .add (.tmp 10) (.const (.int .i64 1))),mw 8 11] none [10,11]) (.block 0 (.loop a_59)))}
def a_15:AFun:={nargs:=1,ntmps:=47,res:=[.cell 2 (some 4),.cell 3 (some 4),.tmp 4],gc:=false,body:=(.seq (.region [mo 1 (.box (.tmp 0)),mo 2 (.alloc [.int .i64 0,.int .i64 0,.str [],.nils]),mo 3 (.alloc [.int .i64 0,.int .i64 0,.str [],.nils]),
 mo 4 (.mov (.const (.bool false)))] none [0,4]) (.seq (.seq (.region [mo 6 (.fieldAddr 0 none (.tmp 1)),mo 7 (.load none false (.tmp 6)),mo 8 (.bin .neq (.tmp 7) (.const (.int .i64 4))),mw 9 8,⟨some 10,.fieldAddr 3 none (.tmp 1),(some (9,false))⟩,
 ⟨some 11,.load none false (.tmp 10),(some (9,false))⟩,⟨some 12,.indexAddr 4 (.tmp 11) (.const (.int .i64 0)),(some (9,false))⟩,⟨some 13,.fieldAddr 0 none (.tmp 12),(some (9,false))⟩,⟨some 14,.load none false (.tmp 13),(some (9,false))⟩,
 ⟨some 15,.bin .neq (.tmp 14) (.const (.int .i64 4)),(some (9,false))⟩,mo 16 (.pick (.tmp 9) (.const (.bool true)) (.tmp 15))] none [6,7,8,9,10,11,12,13,14,15]) (.cond (.tmp 16) (.seq (.region [mo 17 (.build [.int .i64 0,.int .i64 0,.str [],.nils] []),
 mo 18 (.build [.int .i64 0,.int .i64 0,.str [],.nils] []),⟨none,.store 4 (.tmp 2) (.mv 17),none⟩,⟨none,.store 4 (.tmp 3) (.mv 18),none⟩,mo 4 (.mov (.const (.bool false)))] none [1,16,17,18]) .ret) .skip)) (.seq (.region [mo 19 (.fieldAddr 3 none (.tmp 1)),
 mo 20 (.load none false (.tmp 19)),mo 21 (.indexAddr 4 (.tmp 20) (.const (.int .i64 0))),mo 22 (.fieldAddr 3 none (.tmp 21)),mo 23 (.load none false (.tmp 22)),mo 24 (.indexAddr 4 (.tmp 23) (.const (.int .i64 0))),mo 25 (.load (some 4) false (.tmp 24)),
 mo 5 (.alloc [.int .i64 0,.int .i64 0,.str [],.nils]),⟨none,.store 4 (.tmp 5) (.mv 25),none⟩] none [16,19,20,21,22,23,24,25]) (.seq (.seq (.region [mo 26 (.fieldAddr 0 none (.tmp 5)),mo 27 (.load none false (.tmp 26)),mo 28 (.bin .neq (.tmp 27) (.const (.int .i64 3))),mw 29 28,
 ⟨some 30,.fieldAddr 2 none (.tmp 5),(some (29,false))⟩,⟨some 31,.load none false (.tmp 30),(some (29,false))⟩,⟨some 32,.bin .neq (.tmp 31) (.const (.str [45,62])),(some (29,false))⟩,mo 33 (.pick (.tmp 29) (.const (.bool true)) (.tmp 32))] none [5,26,27,28,29,30,31,32])
 (.cond (.tmp 33) (.seq (.region [mo 34 (.build [.int .i64 0,.int .i64 0,.str [],.nils] []),mo 35 (.build [.int .i64 0,.int .i64 0,.str [],.nils] []),⟨none,.store 4 (.tmp 2) (.mv 34),none⟩,⟨none,.store 4 (.tmp 3) (.mv 35),none⟩,mo 4 (.mov (.const (.bool false)))] none [1,33,34,35])
 .ret) .skip)) (.seq (.region [mo 36 (.fieldAddr 3 none (.tmp 1)),mo 37 (.loadB 1 none (.tmp 36)),mo 38 (.indexAddr 4 (.tmp 37) (.const (.int .i64 0))),mo 39 (.fieldAddr 3 none (.tmp 38)),mo 40 (.loadE none (.tmp 39)),mo 41 (.indexAddr 4 (.tmp 40) (.const (.int .i64 1))),
 mo 42 (.loadE (some 4) (.tmp 41)),mo 43 (.fieldAddr 3 none (.tmp 1)),mo 44 (.loadB 1 none (.tmp 43)),mo 45 (.indexAddr 4 (.tmp 44) (.const (.int .i64 1))),mo 46 (.loadE (some 4) (.tmp 45)),⟨none,.storeB 2 4 (.tmp 2) (.mv 42),none⟩,⟨none,.storeB 3 4 (.tmp 3) (.mv 46),none⟩,
 mo 4 (.mov (.const (.bool true)))] (some [0,1,2,3,4,5,6,7,8,9,10,11,12,13]) [1,33,36,37,38,39,40,41,42,43,44,45,46]) .ret)))))}
def a_161:AFun:={nargs:=1,ntmps:=4,res:=[.tmp 2],gc:=false,body:=(.seq (.region [mo 2 (.mov (.const (.int .i64 0)))] none [2]) (.seq (.seq (.region [mt 3 0] none [0]) (.cond (.tmp 3) (.seq (.region [mo 2 (.mov (.const (.int .i64 1)))] none [3]) .ret) .skip)) (.seq
 (.region [mo 2 (.mov (.const (.int .i64 0)))] none [3]) .ret)))}
def a_112:AFun:={nargs:=2,ntmps:=9,res:=[.tmp 4],gc:=false,body:=(.seq (.region [mo 4 (.mov (.const (.bool false)))] none [4]) (.seq (.region [mw 5 0,mw 6 1,mo 7 (.call n_178 [.tmp 5,.tmp 6]),
 mo 8 (.bin .geq (.tmp 7) (.const (.int .i64 0))),mw 4 8] none [0,1,5,6,7,8]) .ret))}
def a_166:AFun:={nargs:=3,ntmps:=9,res:=[.tmp 4],gc:=false,body:=(.seq (.region [mo 3 (.box (.tmp 0)),mo 4 (.mov (.const (.bool false)))] none [0,4]) (.seq (.region [mo 5 (.load none false (.tmp 1)),mo 6 (.load none false (.tmp 2)),
 mo 7 (.load (some 4) false (.tmp 3)),mo 8 (.call n_127 [.tmp 5,.tmp 6,.tmp 7]),mw 4 8] none [1,2,3,5,6,7,8]) .ret))}
def a_96:ACode:=(.seq (.region [mo 57 (.bin .lss (.tmp 56) (.tmp 55))] none []) (.seq (.cond (.tmp 57) .skip (.exit 0)) (.seq (.block 1 (.seq (.region [mo 58 (.indexAddr 4 (.tmp 54) (.tmp 56)),mo 59 (.load (some 4) false (.tmp 58)),
 mo 13 (.alloc [.int .i64 0,.int .i64 0,.str [],.nils]),⟨none,.store 4 (.tmp 13) (.mv 59),none⟩] none [57,58,59]) (.region [mt 60 11,mt 61 0,mo 62 (.load (some 4) false (.tmp 13)),mt 63 2,mo 64 (.call n_77 [.tmp 61,.tmp 62,.tmp 63]),mo 65 (.bin .add (.tmp 60) (.tmp 64)),
 mo 66 (.mm false (.tmp 65) (.const (.int .i64 501))),mw 11 66] none [13,60,61,62,63,64,65,66]))) (.region [mo 67 (.bin .add (.tmp 56) (.const (.int .i64 1))),mw 56 67] none [67]))))
def a_20:AFun:={nargs:=3,ntmps:=69,res:=[.tmp 6],gc:=false,body:=(.seq (.region [mo 4 (.box (.tmp 1)),mo 6 (.mov (.const (.int .i64 0)))] none [1,6]) (.seq (.seq (.region [mo 7 (.allocN 7 [.int .i64 0,.int .i64 0,.str [],.nils]),mt 15 0,
 mo 16 (.nilCheck (.tmp 15)),mo 17 (.fieldAddr 1 none (.tmp 16)),mo 18 (.loadP none (.tmp 17)),mo 19 (.fieldAddr 1 none (.tmp 4)),mo 20 (.loadB 4 none (.tmp 19)),mo 21 (.lookup false (.agg [.int .i64 0,.int .i64 0,.str [],.nils]) true (.tmp 18) (.tmp 20)),mw 14 21,
 mo 22 (.extract (.tmp 14) 0),mo 23 (.extract (.tmp 14) 1),⟨none,.storeB 7 4 (.tmp 7) (.mv 22),none⟩,mw 8 23] (some [10,0,1,2,3,4,5,6,7,8,9,11,12]) [14,15,16,17,18,19,20,21,22,23]) (.seq (.region [mt 24 8,mw 25 24,⟨some 26,.fieldAddr 0 none (.tmp 4),(some (25,true))⟩,
 ⟨some 27,.load none false (.tmp 26),(some (25,true))⟩,⟨some 28,.bin .eql (.tmp 27) (.const (.int .i64 1)),(some (25,true))⟩,mo 29 (.pick (.tmp 25) (.tmp 28) (.const (.bool false)))] none [8,24,25,26,27,28]) (.cond (.tmp 29) (.seq (.seq (.region [mt 31 2,
 mo 32 (.fieldAddr 1 none (.tmp 4)),mo 33 (.load none false (.tmp 32)),mo 34 (.lookup false (.int .i64 0) true (.tmp 31) (.tmp 33)),mw 30 34,mo 35 (.extract (.tmp 30) 0),mo 36 (.extract (.tmp 30) 1),mw 9 35,mw 10 36] none [9,29,30,31,32,33,34,35,36]) (.seq (.region [mt 37 10,
 mo 38 (.un .not (.tmp 37))] none [10,37]) (.cond (.tmp 38) (.region [mt 39 2,mo 40 (.fieldAddr 1 none (.tmp 4)),mo 41 (.loadB 4 none (.tmp 40)),mt 42 0,mo 43 (.loadB 7 (some 4) (.tmp 7)),mt 44 2,mo 45 (.call n_77 [.tmp 42,.tmp 43,.tmp 44]),
 ⟨none,.update false (.tmp 39) (.tmp 41) (.tmp 45),none⟩] (some [0,1,2,3,4,5,6,7]) [0,7,38,39,40,41,42,43,44,45]) .skip))) (.seq (.region [mw 46 2,mo 47 (.fieldAddr 1 none (.tmp 4)),mo 48 (.load none false (.tmp 47)),mo 49 (.lookup false (.int .i64 0) false (.tmp 46) (.tmp 48)),
 mw 6 49] none [0,2,4,7,38,46,47,48,49]) .ret)) .skip))) (.seq (.region [mo 11 (.mov (.const (.int .i64 1)))] none [7,29]) (.seq (.seq (.region [mo 50 (.fieldAddr 0 none (.tmp 4)),mo 51 (.load none false (.tmp 50)),mo 52 (.bin .eql (.tmp 51) (.const (.int .i64 4)))] none [50,51])
 (.cond (.tmp 52) (.region [mo 11 (.mov (.const (.int .i64 0)))] none [52]) .skip)) (.seq (.seq (.region [mo 53 (.fieldAddr 3 none (.tmp 4)),mo 54 (.load none false (.tmp 53)),mo 55 (.len (.tmp 54)),mo 56 (.mov (.const (.int .i64 0)))] none [4,52,53]) (.block 0 (.loop a_96)))
 (.seq (.region [mw 68 11,mw 6 68] none [0,2,11,54,55,56,57,68]) .ret))))))}
def a_56:ACode:=(.seq (.region [mo 9 (.bin .lss (.tmp 8) (.tmp 7))] none []) (.seq (.cond (.tmp 9) .skip (.exit 0)) (.seq (.block 1 (.seq (.region [mt 10 8,mw 5 10] none [9,10]) (.seq (.region [mt 11 1,mt 12 0,mt 13 5,mo 14 (.indexAddr 4 (.tmp 12) (.tmp 13)),
 mo 15 (.load (some 4) false (.tmp 14)),mo 16 (.callv (.tmp 11) [.tmp 15])] none [11,12,13,14,15]) (.cond (.tmp 16) (.seq (.region [mw 17 5,mw 4 17] none [0,1,5,7,8,16,17]) .ret) .skip)))) (.region [mo 18 (.bin .add (.tmp 8) (.const (.int .i64 1))),mw 8 18] none [5,16,18]))))
def a_88:AFun:={nargs:=2,ntmps:=19,res:=[.tmp 4],gc:=false,body:=(.seq (.region [mo 4 (.mov (.const (.int .i64 0)))] none [4]) (.seq (.seq (.region [mt 6 0,mo 7 (.len (.tmp 6)),mo 8 (.mov (.const (.int .i64 0)))] none [6]) (.block 0
 (.loop a_56))) (.seq (.region [mo 4 (.mov (.const (.int .i64 (-1))))] none [0,1,7,8,9]) .ret)))}
end Go.Fu
namespace Go.Mx
open Go
theorem Evo.toShared {ι0 ι:Imm} {j0 j:Lay} {own0 own:Own} {w0 w:World} (hE:Evo ι0 j0 own0 w0 ι j own w (fun _=>True)):Evo ι0 j0 own0 w0 ι j (shared own) w (fun _=>True):=by
 refine ⟨hE.os,hE.tape,hE.output,hE.size,hE.imm,hE.lay,fun b hb ht=>?_⟩
 have hn:own0 b=none:=by
  cases h:own0 b with
  | none=>rfl
  | some t=>exact absurd trivial (ht t h)
 obtain ⟨k1,k2,k3⟩:=hE.block b hb ht
 refine ⟨k1,?_,k3⟩
 unfold shared
 rw [k2,hn]
end Go.Mx
namespace Go.Fu
open Go Go.Mx
def digF:Nat→Nat→List UInt8→List UInt8
 | 0,_,acc=>acc
 | k + 1,n,acc=>ifB (decide (n < 10)) (UInt8.ofNat (48 + n) :: acc) (digF k (n / 10) (UInt8.ofNat (48 + n % 10) :: acc))
def digN (n:Nat):List UInt8:=digF 20 n []
def itoaN (n:Int):List UInt8:=match n with
 | .ofNat m=>digN m
 | .negSucc m=>45 :: digN (m + 1)
def inI64 (n:Int):Bool:=decide (-9223372036854775808≤n) && decide (n≤9223372036854775807)
def xItoa:List D→Option D
 | [.int .i64 n]=>ifB (inI64 n) (some (.str (itoaN n))) none
 | _=>none
def xCopy (ds:List D) (σ:Store):Option (Out × Store):=match ds with
 | [.ptr id 0]=>bindO (aget σ.tys id) fun t=>ifB (t.t == t_12) (bindO (aget σ.objs id) fun cs=>match cs with
  | [c0,c1]=>(match c0.d with
   | .nilp=>some (.ret ⟨false,.tup []⟩,{σ with objs:=aset σ.objs id [⟨false,.ptr id 0⟩,c1]})
   | .ptr id' 0=>ifB (id' == id) (some (.ret ⟨false,.tup []⟩,σ)) none
   | _=>none)
  | _=>none) none
 | _=>none
def zty (k:RowK):Bool:=k.el == k_37.el && k.sz == 1
def ztp (ds:List D) (σ:Store):Option (Out × Store):=match ds with
 | [.ptr id 0]=>bindO (aget σ.tys id) fun t=>ifB (t.t == t_12) (bindO (aget σ.objs id) fun cs=>match cs with
  | [c0,c1]=>(match c1.d with
   | .list k es=>ifB (c1.own && zty k && !es.isEmpty) (bindO (zg1 es) fun s=>some (.ret ⟨false,.str s⟩,{σ with objs:=aset σ.objs id [c0,⟨false,c1.d⟩]})) none
   | _=>none)
  | _=>none) none
 | _=>none
def xGrow (ds:List D) (σ:Store):Option (Out × Store):=match ds with
 | [.ptr id 0,.int .i64 (.ofNat n)]=>bindO (aget σ.tys id) fun t=>ifB (t.t == t_12 && decide (0 < n) && decide (n≤1099511627776)) (bindO (aget σ.objs id) fun cs=>match cs with
  | [c0,c1]=>(match c0.d,c1.d with
   | .nilp,.nils=>some (.ret ⟨false,.tup []⟩,{σ with objs:=aset σ.objs id [⟨false,.ptr id 0⟩,⟨true,.list k_37 []⟩]})
   | _,_=>none)
  | _=>none) none
 | _=>none
def Xa:CallF:=fun f ds σ=>ifB (f == n_23) (bindO (xItoa ds) fun d=>some (.ret ⟨false,d⟩,σ)) (ifB (f == n_104) (xCopy ds σ) (ifB (f == n_124) (ztp ds σ) (ifB (f == n_180) (xGrow ds σ) none)))
end Go.Fu
namespace Go.Fu
open Go Go.RowKit
theorem zgsb {P:Program} {T:TypeId} {n:Nat} (hd:(P.depth == 0)=false) (hc:P.cellsOf T=2) (hs:sameLayout P P.depth T T=true) (hn:2≤n):liesAt P P.depth T (n / P.cellsOf T) 0 T 1=true:=by
 have h0:P.depth≠0:=by simpa using hd
 obtain ⟨d,hd⟩:∃ d,P.depth=d + 1:=⟨P.depth - 1,by omega⟩
 have hk:1≤n / 2:=by omega
 rw [hd] at hs ⊢
 unfold liesAt
 rw [hd]
 unfold rowAt
 simp only [hc,hs,Nat.zero_div,Nat.zero_mod]
 simp [hk]
set_option maxHeartbeats 1000000 in
set_option maxRecDepth 100000 in
theorem zfrb (b:Nat) (w:World) (h0:w.cell? ⟨b,0,none⟩=some (.pointer (some ⟨b,0,none⟩))) :
  Calls Go.Proofs.Tryz.prog n_104 #[.pointer (some ⟨b,0,none⟩)] w fun e w'=>e=.returned (.tuple #[])∧w'=w:=by
 obtain ⟨j,hj,_⟩:=Option.map_eq_some_iff.1 (show (Go.Proofs.Tryz.prog.info? t_12).map (·.size)=some 2 by kernel_rfl)
 go_enter Go.Proofs.Tryz.func160,Go.Proofs.Tryz.ntmps160
 go_wp2
 rw [Lib.run_neq_ptr_same w _ Go.Proofs.Tryz.underlying187 hj]
 go_wp2
 go_end0
 exact ⟨rfl,rfl⟩
set_option maxHeartbeats 1000000 in
set_option maxRecDepth 100000 in
theorem zq1 (b:Nat) (w:World) (h0:w.cell? ⟨b,0,none⟩=some (.pointer none)) {n:Nat} (hn:2≤n) (hsh:w.shape? b=some (t_12,n)) (hfz:w.frozen? ⟨b,0,none⟩=false) :
  Calls Go.Proofs.Tryz.prog n_104 #[.pointer (some ⟨b,0,none⟩)] w fun e w'=>e=.returned (.tuple #[])∧w'=w.setCell ⟨b,0,none⟩ (.pointer (some ⟨b,0,none⟩)):=by
 obtain ⟨j,hj,hjs⟩:=Option.map_eq_some_iff.1 (show (Go.Proofs.Tryz.prog.info? t_12).map (·.size)=some 2 by kernel_rfl)
 go_enter Go.Proofs.Tryz.func160,Go.Proofs.Tryz.ntmps160
 go_wp2
 rw [Lib.run_to_unsafe w ⟨b,0,none⟩ Go.Proofs.Tryz.underlying187 Go.Proofs.Tryz.underlying250 hj (by rw [hjs]; decide) hsh (by show 0 < n; omega)]
 simp only [Result.andThen]
 rw [Oper.upon_value]
 go_wp2
 rw [run_callFunc_extern Go.Proofs.Tryz.func179 (by kernel_rfl) (by kernel_rfl) (by kernel_rfl) (e:=Extern.AbiNoEscape.same) (by kernel_rfl)]
 rw [Lib.run_noEscape]
 simp only [Result.andThen]
 rw [Oper.upon_value]
 go_wp2
 rw [Lib.run_from_unsafe w ⟨b,0,none⟩ Go.Proofs.Tryz.underlying250 Go.Proofs.Tryz.underlying187 hj hsh (zgsb (by kernel_rfl) (by kernel_rfl) (by kernel_rfl) hn)]
 simp only [Result.andThen]
 rw [Oper.upon_value]
 go_wp2
 go_end0
 exact ⟨rfl,rfl⟩
end Go.Fu
