/-
 The program's functions as the machine's code (printed by gen2.py).
-/
import Derived.Test.YtldfbnbckiifeaaGreatDoorFgCode1
set_option linter.unusedSimpArgs false
set_option linter.unusedVariables false
set_option linter.unusedSectionVars false
namespace Go.Fu
open Go Go.Mx
def Nz:ACode:=(sq [mo 9 (.bin .lss (.tmp 8) (.tmp 7))] [] (.seq (.cond (.tmp 9) .skip (.exit 0)) (.seq (.block 1 (sq [mt 10 8,mw 5 10] [9,10] (sq [mt 11 1,mt 12 0,mt 13 5,mo 14 (.indexAddr 8 (.tmp 12) (.tmp 13)),mo 15 (.load (some 8) false (.tmp 14)),
 mo 16 (.callv (.tmp 11) [.tmp 15])] [11,12,13,14,15] (.cond (.tmp 16) (sq [mw 17 5,mw 4 17] [0,1,5,7,8,16,17] .ret) .skip)))) (rg [mo 18 (.bin .add (.tmp 8) (ci 1)),mw 8 18] [5,16,18]))))
def zb0:AFun:={nargs:=2,ntmps:=19,res:=[.tmp 4],gc:=false,body:=(sq [mo 4 (.mov (ci 0))] [4] (.seq (sq [mt 6 0,mo 7 (.len (.tmp 6)),mo 8 (.mov (ci 0))] [6] (.block 0 (.loop Nz))) (sq [mo 4 (.mov (ci (-1)))] [0,1,7,8,9]
 .ret)))}
def zhnb:ACode:=(sq [mo 9 (.bin .lss (.tmp 8) (.tmp 7))] [] (.seq (.cond (.tmp 9) .skip (.exit 0)) (.seq (.block 1 (sq [mt 10 8,mw 5 10] [9,10] (sq [mt 11 1,mt 12 0,mt 13 5,mo 14 (.indexAddr 3 (.tmp 12) (.tmp 13)),mo 15 (.load (some 3) false (.tmp 14)),
 mo 16 (.callv (.tmp 11) [.tmp 15])] [11,12,13,14,15] (.cond (.tmp 16) (sq [mw 17 5,mw 4 17] [0,1,5,7,8,16,17] .ret) .skip)))) (rg [mo 18 (.bin .add (.tmp 8) (ci 1)),mw 8 18] [5,16,18]))))
def zajb:AFun:={nargs:=2,ntmps:=19,res:=[.tmp 4],gc:=false,body:=(sq [mo 4 (.mov (ci 0))] [4] (.seq (sq [mt 6 0,mo 7 (.len (.tmp 6)),mo 8 (.mov (ci 0))] [6] (.block 0 (.loop zhnb))) (sq [mo 4 (.mov (ci (-1)))] [0,1,7,8,9] .ret)))}
def zgc:AFun:={nargs:=2,ntmps:=8,res:=[.tmp 3],gc:=false,body:=(sq [mo 2 (.gbox zbcb (.tmp 0)),mo 3 (.mov (.const (.bool false)))] [0,3] (sq [ml 4 1,mo 5 (.mkFunc (.func zhi) [] [.tmp 2]),
 mo 6 (.call zhr [.tmp 4,.tmp 5]),mo 7 (.un .not (.tmp 6)),mw 3 7] [1,2,4,5,6,7] .ret))}
def zgs:AFun:={nargs:=2,ntmps:=9,res:=[.tmp 4],gc:=false,body:=(sq [mo 4 (.mov (.const (.bool false)))] [4] (sq [mw 5 0,mw 6 1,mo 7 (.call zrm [.tmp 5,.tmp 6]),mo 8 (.bin .geq (.tmp 7) (ci 0)),mw 4 8] [0,1,5,6,7,8] .ret))}
def zgd:AFun:={nargs:=2,ntmps:=11,res:=[.tmp 3],gc:=false,body:=(sq [mo 2 (.box (.tmp 0)),mo 3 (.mov (.const (.bool false)))] [0,3] (sq [mo 4 (.fieldAddr 2 (some 10) (.tmp 2)),mo 5 (.load (some 10) false (.tmp 4)),mf 6 1 2,ml 7 6,ml 8 1,
 mo 9 (.call uK [.tmp 5,.tmp 7,.tmp 8]),mo 10 (.un .not (.tmp 9)),mw 3 10] [1,2,4,5,6,7,8,9,10] .ret))}
def Vf:ACode:=(sq [mo 31 (.bin .lss (.tmp 30) (.tmp 29))] [] (.seq (.cond (.tmp 31) .skip (.exit 0)) (.seq (.block 1 (sq [mo 32 (.indexAddr 15 (.tmp 28) (.tmp 30)),mo 33 (.load (some 15) false (.tmp 32)),
 mo 8 (.alloc [.str [],.int .i64 0,.int .i64 0,.str [],.nils,.int .i64 0,.int .i64 0,.str [],.int .i64 0,.int .i64 0,.str [],.nils,.nils,.nils,.nils]),⟨none,.store 15 (.tmp 8) (.mv 33),none⟩] [31,32,33] (sq [mo 34 (.fieldAddr 5 (some 10) (.tmp 8)),
 mo 35 (.load (some 10) false (.tmp 34)),mt 36 1,mt 37 2,mo 38 (.call uK [.tmp 35,.tmp 36,.tmp 37]),mo 39 (.un .not (.tmp 38))] [8,34,35,36,37,38] (.cond (.tmp 39) (sq [mo 6 (.mov (.const (.bool false)))] [1,2,3,28,29,30,39] .ret) .skip)))) (rg [
 mo 40 (.bin .add (.tmp 30) (ci 1)),mw 30 40] [39,40]))))
def Vg:ACode:=(sq [mo 45 (.bin .lss (.tmp 44) (.tmp 43))] [] (.seq (.cond (.tmp 45) .skip (.exit 2)) (.seq (.block 3 (sq [mo 46 (.indexAddr 10 (.tmp 42) (.tmp 44)),mo 47 (.load (some 10) false (.tmp 46)),
 mo 10 (.alloc [.int .i64 0,.int .i64 0,.str [],.int .i64 0,.int .i64 0,.str [],.nils,.nils,.nils,.nils]),⟨none,.store 10 (.tmp 10) (.mv 47),none⟩] [45,46,47] (sq [mo 48 (.load (some 10) false (.tmp 10)),mt 49 1,mt 50 2,mo 51 (.call uK [.tmp 48,.tmp 49,.tmp 50]),
 mo 52 (.un .not (.tmp 51))] [10,48,49,50,51] (.cond (.tmp 52) (sq [mo 6 (.mov (.const (.bool false)))] [1,2,3,42,43,44,52] .ret) .skip)))) (rg [mo 53 (.bin .add (.tmp 44) (ci 1)),mw 44 53] [52,53]))))
def Vh:ACode:=(sq [mo 58 (.bin .lss (.tmp 57) (.tmp 56))] [] (.seq (.cond (.tmp 58) .skip (.exit 4)) (.seq (.block 5 (sq [mo 59 (.indexAddr 14 (.tmp 55) (.tmp 57)),mo 60 (.load (some 14) false (.tmp 59)),
 mo 12 (.alloc [.int .i64 0,.int .i64 0,.str [],.nils,.int .i64 0,.int .i64 0,.str [],.int .i64 0,.int .i64 0,.str [],.nils,.nils,.nils,.nils]),⟨none,.store 14 (.tmp 12) (.mv 60),none⟩] [58,59,60] (.seq (.region [mo 61 (.fieldAddr 4 (some 10) (.tmp 12)),
 mo 62 (.loadB 12 (some 10) (.tmp 61)),mt 63 1,mf 64 3 12,mo 65 (.loadB 12 none (.tmp 64)),mo 66 (.buildSlice yX [.tmp 63,.tmp 65]),mt 68 2,mo 67 (.call qY [.tmp 66]),mo 69 (.call uK [.tmp 62,.tmp 67,.tmp 68]),
 mo 70 (.un .not (.tmp 69))] (some [0,1,2,3,4,5,7,6,8,9]) [12,61,62,63,64,65,66,67,68,69]) (.cond (.tmp 70) (sq [mo 6 (.mov (.const (.bool false)))] [1,2,55,56,57,70] .ret) .skip)))) (rg [mo 71 (.bin .add (.tmp 57) (ci 1)),mw 57 71] [70,71]))))
def wF:AFun:={nargs:=3,ntmps:=72,res:=[.tmp 6],gc:=false,body:=(sq [mo 3 (.box (.tmp 0)),mo 6 (.mov (.const (.bool false)))] [0,6] (.seq (sq [mf 13 0 3,ml 14 13,mo 15 (.bin .eql (.tmp 14) (ci 8))] [13,14] (.cond (.tmp 15) (rg [mt 16 1,mf 17 8 3,ml 18 17,
 mo 19 (.call uL [.tmp 18,(.const (.fn (.func qF) [] []))]),mo 20 (.buildSlice yX [.tmp 16,.tmp 19]),mo 21 (.call qY [.tmp 20]),mw 1 21] [15,16,17,18,19,20,21]) .skip)) (.seq (sq [mt 22 2,mo 23 (.load (some 10) false (.tmp 3)),
 mt 24 1,mo 25 (.callv (.tmp 22) [.tmp 23,.tmp 24]),mo 26 (.un .not (.tmp 25))] [15,22,23,24,25] (.cond (.tmp 26) (sq [mo 6 (.mov (.const (.bool false)))] [1,2,3,26] .ret) .skip)) (.seq (sq [mf 27 8 3,ml 28 27,mo 29 (.len (.tmp 28)),mo 30 (.mov (ci 0))] [26,27] (.block 0
 (.loop Vf))) (.seq (sq [mf 41 7 3,ml 42 41,mo 43 (.len (.tmp 42)),mo 44 (.mov (ci 0))] [28,29,30,31,41] (.block 2 (.loop Vg))) (.seq (sq [mf 54 9 3,ml 55 54,mo 56 (.len (.tmp 55)),mo 57 (.mov (ci 0))] [3,42,43,44,45,54] (.block 4 (.loop Vh)))
 (sq [mo 6 (.mov (.const (.bool true)))] [1,2,55,56,57,58] .ret)))))))}
def zbd:ACode:=(sq [mo 11 (.bin .lss (.tmp 10) (.tmp 9))] [] (.seq (.cond (.tmp 11) .skip (.exit 0)) (.seq (.block 1 (sq [mo 12 (.indexAddr 12 (.tmp 8) (.tmp 10)),mo 13 (.load (some 12) false (.tmp 12)),
 mo 7 (.alloc [.str [],.nils,.int .i64 0,.int .i64 0,.str [],.int .i64 0,.int .i64 0,.str [],.nils,.nils,.nils,.nils]),⟨none,.store 12 (.tmp 7) (.mv 13),none⟩] [11,12,13] (rg [mw 14 5,mt 15 1,mo 16 (.load (some 12) false (.tmp 7)),mo 17 (.callv (.tmp 15) [.tmp 16]),
 mo 18 (.buildSlice k_0 [.tmp 17]),mo 19 (.append k_0 16 (.mv 14) (.tmp 18)),mw 5 19] [7,14,15,16,17,18,19]))) (rg [mo 20 (.bin .add (.tmp 10) (ci 1)),mw 10 20] [20]))))
def zf8:AFun:={nargs:=2,ntmps:=22,res:=[.tmp 4],gc:=false,body:=(sq [mo 4 (.mov (.const .nils))] [4] (sq [mo 5 (.mov (.const .nils))] [] (.seq (sq [mt 8 0,mo 9 (.len (.tmp 8)),mo 10 (.mov (ci 0))] [0] (.block 0 (.loop zbd))) (sq [mw 21 5,
 mw 4 21] [1,5,8,9,10,11,21] .ret))))}
def zf9:AFun:={nargs:=1,ntmps:=5,res:=[.tmp 2],gc:=false,body:=(sq [mo 1 (.box (.tmp 0)),mo 2 (.mov (.const (.str [])))] [0,2] (sq [mf 3 0 1,mo 4 (.load none true (.tmp 3)),mw 2 4] [1,3,4] .ret))}
def zge:AFun:={nargs:=2,ntmps:=16,res:=[.tmp 4],gc:=false,body:=(sq [mo 2 (.box (.tmp 0)),mo 4 (.mov (.const (.bool false)))] [0,1,4] (sq [mf 5 8 2,ml 6 5,mo 7 (.call uL [.tmp 6,(.const (.fn (.func qF) [] []))]),
 mo 8 (.call vR [.tmp 7]),mo 9 (.un .not (.tmp 8)),mw 10 9,⟨some 11,.fieldAddr 9 none (.tmp 2),(some (10,true))⟩,⟨some 12,.load none false (.tmp 11),(some (10,true))⟩,
 ⟨some 13,.call Tf [.tmp 12,(.const (.fn (.func zhk) [] []))],(some (10,true))⟩,⟨some 14,.un .not (.tmp 13),(some (10,true))⟩,mo 15 (.pick (.tmp 10) (.tmp 14) (.const (.bool false))),mw 4 15] [2,5,6,7,8,9,10,11,12,13,14,15] .ret))}
def yS:ACode:=(sq [mo 11 (.bin .lss (.tmp 10) (.tmp 9))] [] (.seq (.cond (.tmp 11) .skip (.exit 0)) (.seq (.block 1 (sq [mo 12 (.indexAddr 15 (.tmp 8) (.tmp 10)),mo 13 (.load (some 15) false (.tmp 12)),
 mo 7 (.alloc [.str [],.int .i64 0,.int .i64 0,.str [],.nils,.int .i64 0,.int .i64 0,.str [],.int .i64 0,.int .i64 0,.str [],.nils,.nils,.nils,.nils]),⟨none,.store 15 (.tmp 7) (.mv 13),none⟩] [11,12,13] (rg [mw 14 5,mt 15 1,mo 16 (.load (some 15) false (.tmp 7)),
 mo 17 (.callv (.tmp 15) [.tmp 16]),mo 18 (.buildSlice k_0 [.tmp 17]),mo 19 (.append k_0 16 (.mv 14) (.tmp 18)),mw 5 19] [7,14,15,16,17,18,19]))) (rg [mo 20 (.bin .add (.tmp 10) (ci 1)),mw 10 20] [20]))))
def Vi:AFun:={nargs:=2,ntmps:=22,res:=[.tmp 4],gc:=false,body:=(sq [mo 4 (.mov (.const .nils))] [4] (sq [mo 5 (.mov (.const .nils))] [] (.seq (sq [mt 8 0,mo 9 (.len (.tmp 8)),mo 10 (.mov (ci 0))] [0] (.block 0 (.loop yS))) (sq [mw 21 5,
 mw 4 21] [1,5,8,9,10,11,21] .ret))))}
def zft:AFun:={nargs:=1,ntmps:=5,res:=[.tmp 2],gc:=false,body:=(sq [mo 1 (.box (.tmp 0)),mo 2 (.mov (.const (.str [])))] [0,2] (sq [mf 3 0 1,mo 4 (.load none true (.tmp 3)),mw 2 4] [1,3,4] .ret))}
def zgr:AFun:={nargs:=2,ntmps:=9,res:=[.tmp 4],gc:=false,body:=(sq [mo 4 (.mov (.const (.bool false)))] [4] (sq [mw 5 0,mw 6 1,mo 7 (.call zrk [.tmp 5,.tmp 6]),mo 8 (.bin .geq (.tmp 7) (ci 0)),mw 4 8] [0,1,5,6,7,8] .ret))}
def zgf:AFun:={nargs:=1,ntmps:=6,res:=[.tmp 2],gc:=false,body:=(sq [mo 1 (.box (.tmp 0)),mo 2 (.mov (.const (.bool false)))] [0,2] (sq [mf 3 3 1,ml 4 3,mo 5 (.call vR [.tmp 4]),mw 2 5] [1,3,4,5] .ret))}
def zgg:AFun:={nargs:=1,ntmps:=6,res:=[.tmp 2],gc:=false,body:=(sq [mo 1 (.box (.tmp 0)),mo 2 (.mov (.const (.bool false)))] [0,2] (sq [mf 3 1 1,ml 4 3,mo 5 (.call vR [.tmp 4]),mw 2 5] [1,3,4,5] .ret))}
def zgh:AFun:={nargs:=3,ntmps:=9,res:=[.tmp 5],gc:=false,body:=(sq [mo 3 (.gbox za4 (.tmp 0)),mo 4 (.gbox wB (.tmp 1)),mo 5 (.mov (.const (.bool false)))] [0,1,5] (sq [ml 6 2,mo 7 (.mkFunc (.func zhm) [] [.tmp 3,.tmp 4]),
 mo 8 (.call Zr [.tmp 6,.tmp 7]),mw 5 8] [2,3,4,6,7,8] .ret))}
def zbi:AFun:={nargs:=3,ntmps:=19,res:=[.tmp 4],gc:=false,body:=(sq [mo 3 (.box (.tmp 0)),mo 4 (.mov (.const (.bool false)))] [0,4] (sq [mf 5 0 3,ml 6 5,ml 7 1,mo 8 (.bin .eql (.tmp 6) (.tmp 7)),mw 9 8,⟨some 10,.load none false (.tmp 2),(some (9,true))⟩,
 ⟨some 11,.bin .lss (.tmp 10) (ci 0),(some (9,true))⟩,⟨some 12,.mov (.mv 11),(some (9,true))⟩,⟨some 13,.fieldAddr 3 none (.tmp 3),(some (12,false))⟩,⟨some 14,.load none false (.tmp 13),(some (12,false))⟩,⟨some 15,.load none false (.tmp 2),(some (12,false))⟩,
 ⟨some 16,.bin .eql (.tmp 14) (.tmp 15),(some (12,false))⟩,⟨some 17,.pick (.tmp 12) (.const (.bool true)) (.tmp 16),(some (9,true))⟩,mo 18 (.pick (.tmp 9) (.tmp 17) (.const (.bool false))),mw 4 18] [1,2,3,5,6,7,8,9,10,11,12,13,14,15,16,17,18] .ret))}
def Ib:AFun:={nargs:=4,ntmps:=41,res:=[.tmp 6],gc:=false,body:=(sq [mo 4 (.box (.tmp 0)),mo 6 (.mov (.const (.bool false)))] [0,6] (.seq (sq [mf 7 0 4,ml 8 7,mo 9 (.bin .eql (.tmp 8) (ci 1)),mw 10 9,⟨some 11,.mov (.tmp 1),(some (10,true))⟩,
 ⟨some 12,.fieldAddr 2 none (.tmp 4),(some (10,true))⟩,⟨some 13,.load none false (.tmp 12),(some (10,true))⟩,⟨some 14,.call wV [.tmp 11,.tmp 13],(some (10,true))⟩,⟨some 15,.un .not (.tmp 14),(some (10,true))⟩,
 mo 16 (.pick (.tmp 10) (.tmp 15) (.const (.bool false))),mw 17 16,⟨some 18,.load none false (.tmp 2),(some (17,true))⟩,⟨some 19,.fieldAddr 2 none (.tmp 4),(some (17,true))⟩,⟨some 20,.load none false (.tmp 19),(some (17,true))⟩,
 ⟨some 21,.call wV [.tmp 18,.tmp 20],(some (17,true))⟩,⟨some 22,.un .not (.tmp 21),(some (17,true))⟩,mo 23 (.pick (.tmp 17) (.tmp 22) (.const (.bool false))),mw 24 23,⟨some 25,.fieldAddr 0 none (.tmp 4),(some (24,false))⟩,
 ⟨some 26,.load none false (.tmp 25),(some (24,false))⟩,⟨some 27,.bin .eql (.tmp 26) (ci 2),(some (24,false))⟩,⟨some 28,.mov (.mv 27),(some (24,false))⟩,⟨some 29,.load none false (.tmp 3),(some (28,true))⟩,⟨some 30,.fieldAddr 2 none (.tmp 4),(some (28,true))⟩,
 ⟨some 31,.load none false (.tmp 30),(some (28,true))⟩,⟨some 32,.callv (.tmp 29) [.tmp 31,(ci (-1))],(some (28,true))⟩,⟨some 33,.un .not (.tmp 32),(some (28,true))⟩,⟨some 34,.pick (.tmp 28) (.tmp 33) (.const (.bool false)),(some (24,false))⟩,
 mo 35 (.pick (.tmp 24) (.const (.bool true)) (.tmp 34))] [1,2,7,8,9,10,11,12,13,14,15,16,17,18,19,20,21,22,23,24,25,26,27,28,29,30,31,32,33,34] (.cond (.tmp 35) (sq [mo 6 (.mov (.const (.bool false)))] [3,4,35] .ret) .skip)) (sq [mf 36 9 4,ml 37 36,
 mo 38 (.mkFunc (.func Zl) [] [.tmp 3]),mo 39 (.call Tf [.tmp 37,.tmp 38]),mo 40 (.un .not (.tmp 39)),mw 6 40] [3,4,35,36,37,38,39,40] .ret)))}
def zbj:AFun:={nargs:=2,ntmps:=17,res:=[.tmp 3],gc:=false,body:=(sq [mo 2 (.box (.tmp 0)),mo 3 (.mov (.const (.bool false)))] [0,3] (sq [mf 4 0 2,ml 5 4,mo 6 (.bin .eql (.tmp 5) (ci 1)),mw 7 6,⟨some 8,.load none false (.tmp 1),(some (7,true))⟩,
 ⟨some 9,.fieldAddr 2 none (.tmp 2),(some (7,true))⟩,⟨some 10,.load none false (.tmp 9),(some (7,true))⟩,⟨some 11,.fieldAddr 3 none (.tmp 2),(some (7,true))⟩,⟨some 12,.load none false (.tmp 11),(some (7,true))⟩,⟨some 13,.len (.tmp 12),(some (7,true))⟩,
 ⟨some 14,.callv (.tmp 8) [.tmp 10,.tmp 13],(some (7,true))⟩,⟨some 15,.un .not (.tmp 14),(some (7,true))⟩,mo 16 (.pick (.tmp 7) (.tmp 15) (.const (.bool false))),mw 3 16] [1,2,4,5,6,7,8,9,10,11,12,13,14,15,16] .ret))}
def uF:AFun:={nargs:=2,ntmps:=81,res:=[.tmp 4],gc:=false,body:=(sq [mo 2 (.box (.tmp 0)),mo 4 (.mov (.const (.bool false)))] [0,1,4] (.seq (.region [mf 9 7 2,mo 10 (.loadB 2 none (.tmp 9)),mo 11 (.len (.tmp 10)),mf 12 8 2,mo 13 (.loadB 2 none (.tmp 12)),
 mo 14 (.len (.tmp 13)),mf 15 9 2,mo 16 (.loadB 2 none (.tmp 15)),mo 17 (.len (.tmp 16)),mw 5 11,mw 6 14,mw 7 17] (some [0,1,2,3,4,5,6,7,8,9,10,11]) [9,10,11,12,13,14,15,16,17]) (.seq (sq [mf 18 0 2,ml 19 18] [18] (.block 0 (.seq (sq [mo 21 (.bin .eql (.tmp 19) (ci 1)),
 mw 20 21] [21] (.cond (.tmp 20) .skip (sq [mo 22 (.bin .eql (.tmp 19) (ci 2)),mw 20 22] [22] (.cond (.tmp 20) .skip (sq [mo 23 (.bin .eql (.tmp 19) (ci 3)),mw 20 23] [23] (.cond (.tmp 20) .skip (rg [mo 24 (.bin .eql (.tmp 19) (ci 11)),mw 20 24] [24]))))))) (.cond (.tmp 20) (sq [mw 25 5,
 mw 26 6,mo 27 (.bin .add (.tmp 25) (.tmp 26)),mw 28 7,mo 29 (.bin .add (.tmp 27) (.tmp 28)),mo 30 (.bin .eql (.tmp 29) (ci 0)),mw 4 30] [2,5,6,7,19,20,25,26,27,28,29,30] .ret) (sq [mo 32 (.bin .eql (.tmp 19) (ci 4)),mw 31 32] [20,32] (.cond (.tmp 31) (sq [mw 33 5,
 mo 34 (.bin .eql (.tmp 33) (ci 2)),mw 35 34,⟨some 36,.mov (.mv 6),(some (35,true))⟩,⟨some 37,.mov (.mv 7),(some (35,true))⟩,⟨some 38,.bin .add (.tmp 36) (.tmp 37),(some (35,true))⟩,⟨some 39,.bin .eql (.tmp 38) (ci 0),(some (35,true))⟩,
 mo 40 (.pick (.tmp 35) (.tmp 39) (.const (.bool false))),mw 4 40] [2,5,6,7,19,31,33,34,35,36,37,38,39,40] .ret) (sq [mo 42 (.bin .eql (.tmp 19) (ci 10)),mw 41 42] [31,42] (.cond (.tmp 41) (.seq (.region [mw 43 5,mo 44 (.bin .eql (.tmp 43) (ci 2)),mw 45 44,
 ⟨some 46,.mov (.mv 6),(some (45,true))⟩,⟨some 47,.mov (.mv 7),(some (45,true))⟩,⟨some 48,.bin .add (.tmp 46) (.tmp 47),(some (45,true))⟩,⟨some 49,.bin .eql (.tmp 48) (ci 0),(some (45,true))⟩,mo 50 (.pick (.tmp 45) (.tmp 49) (.const (.bool false))),mw 51 50,
 ⟨some 53,.fieldAddr 2 none (.tmp 2),(some (51,true))⟩,⟨some 54,.loadB 2 none (.tmp 53),(some (51,true))⟩,⟨some 52,.call Zj [],(some (51,true))⟩,⟨some 55,.lookup true (.str []) false (.tmp 52) (.tmp 54),(some (51,true))⟩,
 ⟨some 56,.bin .neq (.tmp 55) (.const (.str [])),(some (51,true))⟩,mo 57 (.pick (.tmp 51) (.tmp 56) (.const (.bool false))),mw 4 57] (some [0,1,2,3,4,5,6,7,8,10,11,9,12,13,14,15]) [2,5,6,7,19,41,43,44,45,46,47,48,49,50,51,52,53,54,55,56,57]) .ret) (sq [
 mo 59 (.bin .eql (.tmp 19) (ci 8)),mw 58 59] [41,59] (.cond (.tmp 58) (sq [mw 60 5,mo 61 (.bin .eql (.tmp 60) (ci 1)),mw 62 61,⟨some 63,.mov (.mv 7),(some (62,true))⟩,⟨some 64,.bin .eql (.tmp 63) (ci 0),(some (62,true))⟩,mo 65 (.pick (.tmp 62) (.tmp 64) (.const (.bool false))),
 mw 4 65] [2,5,6,7,19,58,60,61,62,63,64,65] .ret) (sq [mo 67 (.bin .eql (.tmp 19) (ci 9)),mw 66 67] [7,19,58,67] (.cond (.tmp 66) (sq [mo 8 (.mov (.const (.fn (.func zhf) [] [])))] [66] (sq [mw 68 5,mo 69 (.bin .eql (.tmp 68) (ci 1)),mw 70 69,
 ⟨some 71,.mov (.mv 6),(some (70,true))⟩,⟨some 72,.bin .eql (.tmp 71) (ci 0),(some (70,true))⟩,mo 73 (.pick (.tmp 70) (.tmp 72) (.const (.bool false))),mw 74 73,⟨some 75,.fieldAddr 9 none (.tmp 2),(some (74,true))⟩,⟨some 76,.load none false (.tmp 75),(some (74,true))⟩,
 ⟨some 77,.mov (.mv 8),(some (74,true))⟩,⟨some 78,.call Tf [.tmp 76,.tmp 77],(some (74,true))⟩,⟨some 79,.un .not (.tmp 78),(some (74,true))⟩,mo 80 (.pick (.tmp 74) (.tmp 79) (.const (.bool false))),
 mw 4 80] [2,5,6,8,68,69,70,71,72,73,74,75,76,77,78,79,80] .ret)) .skip)))))))))))) (sq [mo 4 (.mov (.const (.bool false)))] [2,5,6,66] .ret))))}
def zhlb:ACode:=(sq [mo 12 (.bin .lss (.tmp 11) (.tmp 10))] [] (.seq (.cond (.tmp 12) .skip (.exit 0)) (.seq (.block 1 (sq [mo 13 (.indexAddr 1 (.tmp 9) (.tmp 11)),ml 14 13,mw 5 14] [12,13,14] (sq [mt 15 3,mt 16 5,mo 17 (.len (.tmp 16)),
 mo 18 (.bin .add (.tmp 15) (.tmp 17)),mw 3 18] [5,15,16,17,18] (sq [mt 19 3,mo 20 (.bin .lss (.tmp 19) (ci 0))] [19] (.cond (.tmp 20) (rg [mo 21 (.mkIface za4 (.const (.str [108,101,110,32,111,117,116,32,111,102,32,114,97,110,103,101]))),
 ⟨none,.panic (.tmp 21),none⟩] [20,21]) .skip))))) (rg [mo 22 (.bin .add (.tmp 11) (ci 1)),mw 11 22] [20,22]))))
def zhmb:ACode:=(sq [mo 28 (.bin .lss (.tmp 27) (.tmp 26))] [] (.seq (.cond (.tmp 28) .skip (.exit 2)) (.seq (.block 3 (sq [mo 29 (.indexAddr 1 (.tmp 25) (.tmp 27)),ml 30 29,mw 8 30] [28,29,30] (rg [mw 31 6,mt 32 8,mo 33 (.appendA k_0 16 (.mv 31) (.tmp 32)),
 mw 6 33] [8,31,32,33]))) (rg [mo 34 (.bin .add (.tmp 27) (ci 1)),mw 27 34] [34]))))
def zahb:AFun:={nargs:=1,ntmps:=36,res:=[.tmp 2],gc:=false,body:=(sq [mo 2 (.mov (.const .nils))] [2] (sq [mo 3 (.mov (ci 0))] [] (.seq (sq [mt 9 0,mo 10 (.len (.tmp 9)),mo 11 (.mov (ci 0))] [] (.block 0 (.loop zhlb))) (sq [mt 23 3,
 mo 24 (.call zrj [(.const .nils),.tmp 23]),mw 6 24] [3,9,10,11,12,23,24] (.seq (sq [mt 25 0,mo 26 (.len (.tmp 25)),mo 27 (.mov (ci 0))] [0] (.block 2 (.loop zhmb))) (sq [mw 35 6,mw 2 35] [6,25,26,27,28,35] .ret))))))}
def zbc:ACode:=(sq [mo 11 (.bin .lss (.tmp 10) (.tmp 9))] [] (.seq (.cond (.tmp 11) .skip (.exit 0)) (.seq (.block 1 (sq [mo 12 (.indexAddr 8 (.tmp 8) (.tmp 10)),mo 13 (.load (some 8) false (.tmp 12)),
 mo 7 (.alloc [.str [],.int .i64 0,.int .i64 0,.int .i64 0,.int .i64 0,.int .i64 0,.str [],.nils]),⟨none,.store 8 (.tmp 7) (.mv 13),none⟩] [11,12,13] (rg [mw 14 5,mt 15 1,mo 16 (.load (some 8) false (.tmp 7)),mo 17 (.callv (.tmp 15) [.tmp 16]),mo 18 (.buildSlice k_0 [.tmp 17]),
 mo 19 (.append k_0 16 (.mv 14) (.tmp 18)),mw 5 19] [7,14,15,16,17,18,19]))) (rg [mo 20 (.bin .add (.tmp 10) (ci 1)),mw 10 20] [20]))))
def zf7:AFun:={nargs:=2,ntmps:=22,res:=[.tmp 4],gc:=false,body:=(sq [mo 4 (.mov (.const .nils))] [4] (sq [mo 5 (.mov (.const .nils))] [] (.seq (sq [mt 8 0,mo 9 (.len (.tmp 8)),mo 10 (.mov (ci 0))] [0] (.block 0 (.loop zbc))) (sq [mw 21 5,
 mw 4 21] [1,5,8,9,10,11,21] .ret))))}
def zf4:AFun:={nargs:=1,ntmps:=5,res:=[.tmp 2],gc:=false,body:=(sq [mo 1 (.box (.tmp 0)),mo 2 (.mov (.const (.str [])))] [0,2] (sq [mf 3 0 1,mo 4 (.load none true (.tmp 3)),mw 2 4] [1,3,4] .ret))}
def zhdb:ACode:=(sq [mo 90 (.bin .lss (.tmp 89) (.tmp 88))] [] (.seq (.cond (.tmp 90) .skip (.exit 0)) (.seq (.block 1 (sq [mt 91 89,mo 92 (.indexAddr 15 (.tmp 87) (.tmp 89)),mo 93 (.load (some 15) false (.tmp 92)),
 mo 12 (.alloc [.str [],.int .i64 0,.int .i64 0,.str [],.nils,.int .i64 0,.int .i64 0,.str [],.int .i64 0,.int .i64 0,.str [],.nils,.nils,.nils,.nils]),mw 11 91,⟨none,.store 15 (.tmp 12) (.mv 93),none⟩] [90,91,92,93] (.region [mf 94 8 5,mo 95 (.loadB 5 none (.tmp 94)),
 mt 96 11,mt 97 0,mo 98 (.fieldAddr 5 (some 10) (.tmp 12)),mo 99 (.loadB 12 (some 10) (.tmp 98)),mt 100 3,mo 101 (.call vQ [.tmp 97,.tmp 99,(.const (.bool true)),.tmp 100]),mo 102 (.indexAddr 15 (.tmp 95) (.tmp 96)),mo 103 (.fieldAddr 5 (some 10) (.tmp 102)),
 ⟨none,.storeP 10 (.tmp 103) (.tmp 101),none⟩] (some [0,1,2,3,4,5,6,7,8,9,10]) [11,12,94,95,96,97,98,99,100,101,102,103]))) (rg [mo 104 (.bin .add (.tmp 89) (ci 1)),mw 89 104] [104]))))
def zheb:ACode:=(sq [mo 109 (.bin .lss (.tmp 108) (.tmp 107))] [] (.seq (.cond (.tmp 109) .skip (.exit 2)) (.seq (.block 3 (sq [mt 110 108,mo 111 (.indexAddr 10 (.tmp 106) (.tmp 108)),mo 112 (.load (some 10) false (.tmp 111)),
 mo 14 (.alloc [.int .i64 0,.int .i64 0,.str [],.int .i64 0,.int .i64 0,.str [],.nils,.nils,.nils,.nils]),mw 13 110,⟨none,.store 10 (.tmp 14) (.mv 112),none⟩] [109,110,111,112] (.region [mf 113 7 5,mo 114 (.loadB 5 none (.tmp 113)),mt 115 13,mt 116 0,
 mo 117 (.loadB 14 (some 10) (.tmp 14)),mf 118 0 5,mo 119 (.loadB 5 none (.tmp 118)),mo 120 (.bin .eql (.tmp 119) (ci 4)),mw 121 120,⟨some 122,.mov (.tmp 2),(some (121,false))⟩,mo 123 (.pick (.tmp 121) (.const (.bool true)) (.tmp 122)),mt 124 3,
 mo 125 (.call vQ [.tmp 116,.tmp 117,.tmp 123,.tmp 124]),mo 126 (.indexAddr 10 (.tmp 114) (.tmp 115)),
 ⟨none,.storeP 10 (.tmp 126) (.tmp 125),none⟩] (some [0,1,2,3,4,5,6,7,8,9,10,11,12,13,14]) [13,14,113,114,115,116,117,118,119,120,121,122,123,124,125,126]))) (rg [mo 127 (.bin .add (.tmp 108) (ci 1)),mw 108 127] [127]))))
def zhfb:ACode:=(sq [mo 132 (.bin .lss (.tmp 131) (.tmp 130))] [] (.seq (.cond (.tmp 132) .skip (.exit 4)) (.seq (.block 5 (sq [mt 133 131,mo 134 (.indexAddr 14 (.tmp 129) (.tmp 131)),mo 135 (.load (some 14) false (.tmp 134)),
 mo 16 (.alloc [.int .i64 0,.int .i64 0,.str [],.nils,.int .i64 0,.int .i64 0,.str [],.int .i64 0,.int .i64 0,.str [],.nils,.nils,.nils,.nils]),mw 15 133,⟨none,.store 14 (.tmp 16) (.mv 135),none⟩] [132,133,134,135] (.region [mf 136 9 5,mo 137 (.loadB 5 none (.tmp 136)),
 mt 138 15,mt 139 0,mo 140 (.fieldAddr 4 (some 10) (.tmp 16)),mo 141 (.loadB 16 (some 10) (.tmp 140)),mt 142 3,mf 143 3 16,mo 144 (.loadB 16 none (.tmp 143)),mo 145 (.buildSlice yX [.tmp 142,.tmp 144]),mo 146 (.call qY [.tmp 145]),
 mo 147 (.call vQ [.tmp 139,.tmp 141,(.const (.bool false)),.tmp 146]),mo 148 (.indexAddr 14 (.tmp 137) (.tmp 138)),mo 149 (.fieldAddr 4 (some 10) (.tmp 148)),
 ⟨none,.storeP 10 (.tmp 149) (.tmp 147),none⟩] (some [0,1,2,3,4,5,6,7,8,9,10,11,12,13,14]) [15,16,136,137,138,139,140,141,142,143,144,145,146,147,148,149]))) (rg [mo 150 (.bin .add (.tmp 131) (ci 1)),mw 131 150] [150]))))
def zz1:AFun:={nargs:=4,ntmps:=152,res:=[.cell 8 (some 10)],gc:=false,body:=(sq [mo 5 (.box (.tmp 1)),mo 8 (.alloc [.int .i64 0,.int .i64 0,.str [],.int .i64 0,.int .i64 0,.str [],.nils,.nils,.nils,.nils])] [1] (.seq (sq [mt 17 2,mw 18 17,
 ⟨some 19,.fieldAddr 0 none (.tmp 5),(some (18,true))⟩,⟨some 20,.load none false (.tmp 19),(some (18,true))⟩,⟨some 21,.bin .eql (.tmp 20) (ci 9),(some (18,true))⟩,⟨some 22,.mov (.mv 21),(some (18,true))⟩,⟨some 23,.fieldAddr 0 none (.tmp 5),(some (22,false))⟩,
 ⟨some 24,.load none false (.tmp 23),(some (22,false))⟩,⟨some 25,.bin .eql (.tmp 24) (ci 10),(some (22,false))⟩,⟨some 26,.pick (.tmp 22) (.const (.bool true)) (.tmp 25),(some (18,true))⟩,⟨some 27,.mov (.mv 26),(some (18,true))⟩,
 ⟨some 28,.fieldAddr 0 none (.tmp 5),(some (27,false))⟩,⟨some 29,.load none false (.tmp 28),(some (27,false))⟩,⟨some 30,.bin .eql (.tmp 29) (ci 11),(some (27,false))⟩,⟨some 31,.pick (.tmp 27) (.const (.bool true)) (.tmp 30),(some (18,true))⟩,
 mo 32 (.pick (.tmp 18) (.tmp 31) (.const (.bool false)))] [17,18,19,20,21,22,23,24,25,26,27,28,29,30,31] (.cond (.tmp 32) (sq [mo 33 (.load (some 10) false (.tmp 5)),mt 34 3,mo 35 (.call Sz [.tmp 33,.tmp 34]),mw 9 35] [2,3,32,33,34,35] (.seq (.region [
 mo 10 (.allocN 10 [.str [],.nils,.int .i64 0,.int .i64 0,.str [],.int .i64 0,.int .i64 0,.str [],.nils,.nils,.nils,.nils]),mt 36 0,mo 37 (.nilCheck (.tmp 36)),mf 38 0 37,mo 39 (.loadP none (.tmp 38)),mo 40 (.bin .add (.tmp 39) (.const (.str [37]))),mt 41 0,
 mo 42 (.nilCheck (.tmp 41)),mf 43 1 42,mo 44 (.loadP none (.tmp 43)),mo 45 (.len (.tmp 44)),mo 46 (.bin .add (.tmp 45) (ci 1)),mt 49 9,mo 50 (.loadB 5 (some 10) (.tmp 5)),mo 47 (.callW [38] Bq [.tmp 46]),mo 48 (.bin .add (.tmp 40) (.tmp 47)),
 mo 51 (.build [.str [],.nils,.int .i64 0,.int .i64 0,.str [],.int .i64 0,.int .i64 0,.str [],.nils,.nils,.nils,.nils] [(0,1,(.tmp 48)),(1,1,(.tmp 49)),(2,10,(.tmp 50))]),
 ⟨none,.storeB 10 12 (.tmp 10) (.mv 51),none⟩] (some [16,0,1,2,3,4,5,6,7,8,9,10,13,14,11,12,15,17]) [5,36,37,38,39,40,41,42,43,44,45,46,47,48,49,50,51]) (.seq (.region [mt 52 0,mt 53 0,mo 54 (.nilCheck (.tmp 53)),mf 55 1 54,mo 56 (.loadP none (.tmp 55)),
 mo 57 (.loadB 10 (some 12) (.tmp 10)),mo 58 (.buildSlice k_5 [.tmp 57]),mo 59 (.append k_5 200 (.mv 56) (.tmp 58)),mo 60 (.nilCheck (.tmp 52)),mf 61 1 60,
 ⟨none,.storeP 1 (.tmp 61) (.tmp 59),none⟩] (some [0,1,2,3,4,5,6,7,8,9,10]) [0,52,53,54,55,56,57,58,59,60,61]) (sq [mf 62 0 10,ml 63 62,mo 64 (.call Jp [.tmp 63]),mw 65 9,mo 66 (.call Ta [.tmp 65]),mo 67 (.call Sm [.tmp 64,.tmp 66]),
 ⟨none,.store 10 (.tmp 8) (.mv 67),none⟩] [9,10,62,63,64,65,66,67] .ret)))) .skip)) (.seq (.region [mf 68 8 5,mo 69 (.loadB 5 none (.tmp 68)),mf 71 7 5,mo 72 (.loadB 5 none (.tmp 71)),mf 74 9 5,mo 75 (.loadB 5 none (.tmp 74)),mo 70 (.call Js [.tmp 69]),mf 77 8 5,
 mo 73 (.call Jt [.tmp 72]),mo 76 (.call Jr [.tmp 75]),⟨none,.storeB 5 1 (.tmp 77) (.mv 70),none⟩,mf 78 7 5,⟨none,.storeB 5 1 (.tmp 78) (.mv 73),none⟩,mf 79 9 5,
 ⟨none,.storeB 5 1 (.tmp 79) (.mv 76),none⟩] (some [0,1,3,4,6,7,2,9,5,8,10,11,12,13,14]) [32,68,69,70,71,72,73,74,75,76,77,78,79]) (sq [mt 80 3,mf 81 8 5,ml 82 81,mo 83 (.call uL [.tmp 82,(.const (.fn (.func qF) [] []))]),
 mo 84 (.buildSlice yX [.tmp 80,.tmp 83]),mo 85 (.call qY [.tmp 84]),mw 3 85] [80,81,82,83,84,85] (.seq (sq [mf 86 8 5,ml 87 86,mo 88 (.len (.tmp 87)),mo 89 (.mov (ci 0))] [86] (.block 0 (.loop zhdb))) (.seq (sq [mf 105 7 5,ml 106 105,
 mo 107 (.len (.tmp 106)),mo 108 (.mov (ci 0))] [87,88,89,90,105] (.block 2 (.loop zheb))) (.seq (sq [mf 128 9 5,ml 129 128,mo 130 (.len (.tmp 129)),mo 131 (.mov (ci 0))] [2,106,107,108,109,128] (.block 4 (.loop zhfb))) (sq [
 mo 151 (.load (some 10) true (.tmp 5)),⟨none,.store 10 (.tmp 8) (.mv 151),none⟩] [0,3,5,129,130,131,132,151] .ret))))))))}
def Vk:ACode:=(.seq (sq [mt 7 2,mt 8 3,mo 9 (.bin .lss (.tmp 7) (.tmp 8))] [7,8] (.cond (.tmp 9) .skip (.exit 0))) (.seq (.block 1 (.region [mt 14 0,mt 15 2,mt 16 0,mt 17 3,mt 18 0,mt 19 3,mo 20 (.indexAddr 1 (.tmp 18) (.tmp 19)),mo 21 (.loadG none (.tmp 20)),
 mt 22 0,mt 23 2,mo 24 (.indexAddr 1 (.tmp 22) (.tmp 23)),mo 25 (.loadG none (.tmp 24)),mo 26 (.indexAddr 1 (.tmp 14) (.tmp 15)),⟨none,.storeP 1 (.tmp 26) (.tmp 21),none⟩,mo 27 (.indexAddr 1 (.tmp 16) (.tmp 17)),
 ⟨none,.storeP 1 (.tmp 27) (.tmp 25),none⟩] (some [0,1,2,3,4,5,6,7,8,9,10,11,12,13,14,15]) [9,14,15,16,17,18,19,20,21,22,23,24,25,26,27])) (rg [mt 10 2,mo 11 (.bin .add (.tmp 10) (ci 1)),mt 12 3,mo 13 (.bin .sub (.tmp 12) (ci 1)),mw 2 11,
 mw 3 13] [10,11,12,13])))
def zb3:AFun:={nargs:=1,ntmps:=28,res:=[],gc:=false,body:=(sq [mt 4 0,mo 5 (.len (.tmp 4)),mo 6 (.bin .sub (.tmp 5) (ci 1)),mo 2 (.mov (ci 0)),mw 3 6] [4,5,6] (.block 0 (.loop Vk)))}
def Ia:ACode:=(sq [mo 20 (.bin .lss (.tmp 19) (.tmp 18))] [] (.seq (.cond (.tmp 20) .skip (.exit 0)) (.seq (.block 1 (sq [mt 21 19,mo 22 (.indexAddr 1 (.tmp 17) (.tmp 19)),ml 23 22,mw 9 21,mw 10 23] [20,21,22,23] (rg [ml 24 4,mo 25 (.nilCheck (.tmp 24)),mf 26 1 25,
 ml 27 26,mt 28 10,mt 29 2,mt 30 9,mo 31 (.bin .add (.tmp 29) (.tmp 30)),⟨none,.update true (.tmp 27) (.tmp 28) (.tmp 31),none⟩] [9,10,24,25,26,27,28,29,30,31]))) (rg [mo 32 (.bin .add (.tmp 19) (ci 1)),mw 19 32] [32]))))
def zf2:AFun:={nargs:=4,ntmps:=35,res:=[],gc:=false,body:=(sq [mo 4 (.gbox xG (.tmp 0))] [0] (sq [ml 11 4,mo 12 (.nilCheck (.tmp 11)),mf 13 1 12,ml 14 13,mo 15 (.call zho [.tmp 14]),mo 8 (.galloc za3 [.nilmap]),
 ⟨none,.store 1 (.tmp 8) (.mv 15),none⟩] [11,12,13,14,15] (sq [mo 16 (.mkFunc (.func Py) [] [.tmp 8,.tmp 4]),⟨none,.deferv (.tmp 16) [],none⟩] [8,16] (.seq (sq [mt 17 1,mo 18 (.len (.tmp 17)),mo 19 (.mov (ci 0))] [1] (.block 0 (.loop Ia))) (rg [
 mt 33 3,mo 34 (.callv (.tmp 33) [])] [2,3,4,17,18,19,20,33,34])))))}
def zfu:AFun:={nargs:=3,ntmps:=9,res:=[],gc:=false,body:=(rg [ml 3 0,mo 4 (.fieldAddr 2 (some 10) (.tmp 1)),mo 5 (.load (some 10) false (.tmp 4)),ml 6 2,mo 7 (.len (.tmp 6)),mo 8 (.call Wj [.tmp 3,.tmp 5,.tmp 7])] [0,1,2,3,4,5,6,7,8])}
def yR:AFun:={nargs:=3,ntmps:=47,res:=[],gc:=false,body:=(sq [mo 3 (.gbox xG (.tmp 0)),mo 4 (.box (.tmp 1))] [0,1] (.seq (sq [mf 6 0 4,ml 7 6] [6] (.block 0 (sq [mo 13 (.bin .eql (.tmp 7) (ci 8)),mw 12 13] [13] (.cond (.tmp 12) (sq [ml 14 3,
 mo 15 (.load (some 10) false (.tmp 4)),mw 16 2,ml 17 3,mo 18 (.mkFunc (.func Wj) [.tmp 17] []),mo 19 (.call Ze [.tmp 14,.tmp 15,.tmp 16,.tmp 18])] [2,3,4,7,12,14,15,16,17,18,19] .ret) (sq [mo 21 (.bin .eql (.tmp 7) (ci 11)),mw 20 21] [12,21]
 (.cond (.tmp 20) (sq [ml 22 3,mo 23 (.call n_6 [.tmp 22,(.const (.str [70,65,73,76])),(ci 0)])] [2,3,4,7,20,22,23] .ret) (sq [mo 25 (.bin .eql (.tmp 7) (ci 9)),mw 24 25] [20,25] (.cond (.tmp 24) (sq [ml 26 3,mo 27 (.load (some 10) false (.tmp 4)),mw 28 2,ml 29 3,
 mo 30 (.mkFunc (.func Wj) [.tmp 29] []),mo 31 (.mkFunc (.func Zg) [] [.tmp 3]),mo 32 (.call zrh [.tmp 26,.tmp 27,.tmp 28,.tmp 30,(.const (.fn (.func zhd) [] [])),.tmp 31])] [2,3,4,7,24,26,27,28,29,30,31,32] .ret)
 (sq [mo 34 (.bin .eql (.tmp 7) (ci 10)),mw 33 34] [7,24,34] (.cond (.tmp 33) (rg [ml 35 3,mo 36 (.load (some 10) false (.tmp 4)),mt 37 2,mo 38 (.call Bo [.tmp 35,.tmp 36,.tmp 37])] [4,33,35,36,37,38]) (rg [ml 8 3,mo 9 (.load (some 10) false (.tmp 4)),mt 10 2,
 mo 11 (.call sT [.tmp 8,.tmp 9,.tmp 10])] [4,8,9,10,11,33]))))))))))) (sq [ml 39 3,mt 40 2,mo 41 (.call n_6 [.tmp 39,(.const (.str [85,80,68,65,84,69])),.tmp 40])] [39,40,41] (sq [ml 42 3,mt 43 2,
 mo 44 (.call n_6 [.tmp 42,(.const (.str [80,79,80])),.tmp 43])] [2,42,43,44] (rg [ml 45 3,mo 46 (.call n_6 [.tmp 45,(.const (.str [85,78,87,73,78,68])),(ci 0)])] [3,45,46])))))}
def zbr:ACode:=(.seq (sq [mt 5 4,mf 6 8 1,ml 7 6,mo 8 (.len (.tmp 7)),mo 9 (.bin .lss (.tmp 5) (.tmp 8))] [5,6,7,8] (.cond (.tmp 9) .skip (.exit 0))) (.seq (.block 1 (rg [mw 12 3,mf 13 8 1,ml 14 13,mt 15 4,mo 16 (.indexAddr 15 (.tmp 14) (.tmp 15)),mf 17 0 16,ml 18 17,
 mo 19 (.buildSlice k_0 [.tmp 18]),mo 20 (.append k_0 16 (.mv 12) (.tmp 19)),mw 3 20] [9,12,13,14,15,16,17,18,19,20])) (rg [mt 10 4,mo 11 (.bin .add (.tmp 10) (ci 1)),mw 4 11] [10,11])))
def zgo:AFun:={nargs:=1,ntmps:=22,res:=[.tmp 2],gc:=false,body:=(sq [mo 1 (.box (.tmp 0)),mo 2 (.mov (.const .nils))] [0,2] (sq [mo 3 (.mov (.const .nils))] [] (.seq (sq [mo 4 (.mov (ci 0))] [] (.block 0 (.loop zbr))) (sq [mw 21 3,mw 2 21] [1,3,4,9,21]
 .ret))))}
def zgq:AFun:={nargs:=1,ntmps:=5,res:=[.tmp 2],gc:=false,body:=(sq [mo 2 (.mov (.const .nils))] [2] (sq [mw 3 0,mo 4 (.call Zq [(.const .nils),.tmp 3]),mw 2 4] [0,3,4] .ret))}
def zakb:AFun:={nargs:=1,ntmps:=11,res:=[],gc:=false,body:=(sq [mt 3 0,mo 4 (.len (.tmp 3)),mw 2 4] [3,4] (rg [mt 5 0,mt 6 2,mt 7 2,mo 8 (.toInt .u64 (.tmp 7)),mo 9 (.call zicb [.tmp 8]),
 mo 10 (.call zrn [.tmp 5,(ci 0),.tmp 6,.tmp 9])] [0,2,5,6,7,8,9,10]))}
def Rn:ACode:=(sq [mo 8 (.bin .lss (.tmp 7) (.tmp 6))] [] (.seq (.cond (.tmp 8) .skip (.exit 0)) (.seq (.block 1 (sq [mo 9 (.indexAddr 1 (.tmp 5) (.tmp 7)),ml 10 9,mw 4 10] [8,9,10] (sq [mt 11 0,mt 12 4,mo 13 (.callv (.tmp 11) [.tmp 12]),
 mo 14 (.un .not (.tmp 13))] [4,11,12,13] (.cond (.tmp 14) .ret .skip)))) (rg [mo 15 (.bin .add (.tmp 7) (ci 1)),mw 7 15] [14,15]))))
def zgx:AFun:={nargs:=2,ntmps:=16,res:=[],gc:=false,body:=(sq [ml 5 1,mo 6 (.len (.tmp 5)),mo 7 (.mov (ci 0))] [1] (.block 0 (.loop Rn)))}
def zb1:ACode:=(sq [mo 9 (.bin .lss (.tmp 8) (.tmp 7))] [] (.seq (.cond (.tmp 9) .skip (.exit 0)) (.seq (.block 1 (sq [mt 10 8,mw 5 10] [9,10] (sq [mt 11 1,mt 12 0,mt 13 5,mo 14 (.indexAddr 12 (.tmp 12) (.tmp 13)),mo 15 (.load (some 12) false (.tmp 14)),
 mo 16 (.callv (.tmp 11) [.tmp 15])] [11,12,13,14,15] (.cond (.tmp 16) (sq [mw 17 5,mw 4 17] [0,1,5,7,8,16,17] .ret) .skip)))) (rg [mo 18 (.bin .add (.tmp 8) (ci 1)),mw 8 18] [5,16,18]))))
def zgu:AFun:={nargs:=2,ntmps:=19,res:=[.tmp 4],gc:=false,body:=(sq [mo 4 (.mov (ci 0))] [4] (.seq (sq [mt 6 0,mo 7 (.len (.tmp 6)),mo 8 (.mov (ci 0))] [6] (.block 0 (.loop zb1))) (sq [mo 4 (.mov (ci (-1)))] [0,1,7,8,9]
 .ret)))}
def zbz:ACode:=(sq [mo 9 (.bin .lss (.tmp 8) (.tmp 7))] [] (.seq (.cond (.tmp 9) .skip (.exit 0)) (.seq (.block 1 (sq [mt 10 8,mw 5 10] [9,10] (sq [mt 11 1,mt 12 0,mt 13 5,mo 14 (.indexAddr 14 (.tmp 12) (.tmp 13)),mo 15 (.load (some 14) false (.tmp 14)),
 mo 16 (.callv (.tmp 11) [.tmp 15])] [11,12,13,14,15] (.cond (.tmp 16) (sq [mw 17 5,mw 4 17] [0,1,5,7,8,16,17] .ret) .skip)))) (rg [mo 18 (.bin .add (.tmp 8) (ci 1)),mw 8 18] [5,16,18]))))
def zgt:AFun:={nargs:=2,ntmps:=19,res:=[.tmp 4],gc:=false,body:=(sq [mo 4 (.mov (ci 0))] [4] (.seq (sq [mt 6 0,mo 7 (.len (.tmp 6)),mo 8 (.mov (ci 0))] [6] (.block 0 (.loop zbz))) (sq [mo 4 (.mov (ci (-1)))] [0,1,7,8,9] .ret)))}
def zbe:AFun:={nargs:=0,ntmps:=3,res:=[.tmp 0],gc:=false,body:=(sq [mo 0 (.mov (.const (.nilmap)))] [0] (sq [mo 1 (.makeMap),⟨none,.update true (.tmp 1) (.const (.str [97,100,100])) (.const (.str [65,68,68])),none⟩,
 ⟨none,.update true (.tmp 1) (.const (.str [115,117,98])) (.const (.str [83,85,66])),none⟩,⟨none,.update true (.tmp 1) (.const (.str [109,117,108])) (.const (.str [77,85,76])),none⟩,⟨none,.update true (.tmp 1) (.const (.str [100,105,118])) (.const (.str [68,73,86])),none⟩,
 ⟨none,.update true (.tmp 1) (.const (.str [101,113])) (.const (.str [69,81])),none⟩,⟨none,.update true (.tmp 1) (.const (.str [108,116])) (.const (.str [76,84])),none⟩,mt 2 1,mw 0 2] [1,2] .ret))}
def zbf:AFun:={nargs:=1,ntmps:=22,res:=[.tmp 2],gc:=false,body:=(sq [mo 1 (.box (.tmp 0)),mo 2 (.mov (.const (.bool false)))] [0,2] (sq [mf 3 0 1,ml 4 3,mo 5 (.bin .neq (.tmp 4) (ci 1)),mw 6 5,⟨some 7,.fieldAddr 0 none (.tmp 1),(some (6,true))⟩,
 ⟨some 8,.load none false (.tmp 7),(some (6,true))⟩,⟨some 9,.bin .neq (.tmp 8) (ci 2),(some (6,true))⟩,⟨some 10,.mov (.mv 9),(some (6,true))⟩,⟨some 11,.fieldAddr 0 none (.tmp 1),(some (10,true))⟩,⟨some 12,.load none false (.tmp 11),(some (10,true))⟩,
 ⟨some 13,.bin .neq (.tmp 12) (ci 3),(some (10,true))⟩,⟨some 14,.pick (.tmp 10) (.tmp 13) (.const (.bool false)),(some (6,true))⟩,⟨some 15,.mov (.mv 14),(some (6,true))⟩,⟨some 16,.fieldAddr 3 none (.tmp 1),(some (15,false))⟩,⟨some 17,.load none false (.tmp 16),(some (15,false))⟩,
 ⟨some 18,.len (.tmp 17),(some (15,false))⟩,⟨some 19,.bin .gtr (.tmp 18) (ci 0),(some (15,false))⟩,⟨some 20,.pick (.tmp 15) (.const (.bool true)) (.tmp 19),(some (6,true))⟩,mo 21 (.pick (.tmp 6) (.tmp 20) (.const (.bool false))),
 mw 2 21] [1,3,4,5,6,7,8,9,10,11,12,13,14,15,16,17,18,19,20,21] .ret))}
def Yf:AFun:={nargs:=2,ntmps:=27,res:=[.tmp 4],gc:=false,body:=(sq [mo 4 (.mov (.const .nils))] [4] (.seq (sq [mt 5 1,mo 6 (.bin .lss (.tmp 5) (ci 0))] [5] (.cond (.tmp 6) (rg [
 mo 7 (.mkIface za4 (.const (.str [99,97,110,110,111,116,32,98,101,32,110,101,103,97,116,105,118,101]))),⟨none,.panic (.tmp 7),none⟩] [6,7]) .skip)) (.seq (sq [mt 8 1,mt 9 0,mo 10 (.capZ (.tmp 9)),mt 11 0,mo 12 (.len (.tmp 11)),mo 13 (.bin .sub (.tmp 10) (.tmp 12)),
 mo 14 (.bin .sub (.tmp 8) (.tmp 13)),mw 1 14] [6,8,9,10,11,12,13,14] (sq [mt 15 1,mo 16 (.bin .gtr (.tmp 15) (ci 0))] [15] (.cond (.tmp 16) (rg [mt 17 0,mt 18 0,mo 19 (.capZ (.tmp 18)),mo 20 (.slice 1 (.tmp 17) none (some (.tmp 19))),mt 21 1,
 mo 22 (.growZ k_0 16 [.str []] (.mv 20) (.tmp 21)),mt 23 0,mo 24 (.len (.tmp 23)),mo 25 (.slice 1 (.tmp 22) none (some (.tmp 24))),mw 0 25] [1,16,17,18,19,20,21,22,23,24,25]) .skip))) (sq [mw 26 0,mw 4 26] [0,1,16,26] .ret))))}
def zf6:AFun:={nargs:=2,ntmps:=10,res:=[.tmp 4],gc:=false,body:=(sq [mo 2 (.box (.tmp 0)),mo 3 (.gbox t_8 (.tmp 1)),mo 4 (.mov (.const .nils))] [0,1,4] (sq [mo 5 (.galloc t_8 [.nils])] [] (sq [mo 6 (.load (some 10) false (.tmp 2)),
 mo 7 (.mkFunc (.func zhe) [] [.tmp 3,.tmp 5]),mo 8 (.call uK [.tmp 6,(.const .nils),.tmp 7])] [2,3,6,7,8] (sq [mo 9 (.load none true (.tmp 5)),mw 4 9] [5,9] .ret))))}
def za8:ACode:=(sq [mo 13 (.bin .lss (.tmp 12) (.tmp 11))] [] (.seq (.cond (.tmp 13) .skip (.exit 0)) (.seq (.block 1 (sq [mo 14 (.indexAddr 10 (.tmp 10) (.tmp 12)),mo 15 (.load (some 10) false (.tmp 14)),
 mo 7 (.alloc [.int .i64 0,.int .i64 0,.str [],.int .i64 0,.int .i64 0,.str [],.nils,.nils,.nils,.nils]),⟨none,.store 10 (.tmp 7) (.mv 15),none⟩] [13,14,15] (.region [mo 16 (.loadB 5 (some 10) (.tmp 5)),mo 17 (.loadB 7 (some 10) (.tmp 7)),mo 18 (.call Pq [.tmp 17]),
 mo 19 (.buildSlice k_2 [.tmp 16,.tmp 18]),mo 20 (.build [.int .i64 0,.int .i64 0,.str [],.int .i64 0,.int .i64 0,.str [],.nils,.nils,.nils,.nils] [(0,1,(ci 4)),(7,1,(.tmp 19))]),⟨none,.storeB 5 10 (.tmp 5) (.mv 20),none⟩] (some [0,1,2,3,4,5]) [7,16,17,18,19,20])))
 (rg [mo 21 (.bin .add (.tmp 12) (ci 1)),mw 12 21] [21]))))
def zfp:AFun:={nargs:=2,ntmps:=23,res:=[.cell 4 (some 10)],gc:=false,body:=(sq [mo 2 (.box (.tmp 0)),mo 4 (.alloc [.int .i64 0,.int .i64 0,.str [],.int .i64 0,.int .i64 0,.str [],.nils,.nils,.nils,.nils])] [0] (sq [mo 8 (.load (some 10) false (.tmp 2)),
 mo 9 (.call Pq [.tmp 8]),mo 5 (.alloc [.int .i64 0,.int .i64 0,.str [],.int .i64 0,.int .i64 0,.str [],.nils,.nils,.nils,.nils]),⟨none,.store 10 (.tmp 5) (.mv 9),none⟩] [2,8,9] (.seq (sq [mt 10 1,mo 11 (.len (.tmp 10)),mo 12 (.mov (ci 0))] [1] (.block 0
 (.loop za8))) (sq [mo 22 (.load (some 10) true (.tmp 5)),⟨none,.store 10 (.tmp 4) (.mv 22),none⟩] [5,10,11,12,13,22] .ret))))}
def zfq:AFun:={nargs:=1,ntmps:=5,res:=[.cell 2 (some 10)],gc:=false,body:=(sq [mo 2 (.alloc [.int .i64 0,.int .i64 0,.str [],.int .i64 0,.int .i64 0,.str [],.nils,.nils,.nils,.nils])] [] (sq [mw 3 0,
 mo 4 (.build [.int .i64 0,.int .i64 0,.str [],.int .i64 0,.int .i64 0,.str [],.nils,.nils,.nils,.nils] [(0,1,(ci 1)),(2,1,(.tmp 3))]),⟨none,.store 10 (.tmp 2) (.mv 4),none⟩] [0,3,4] .ret))}
end Go.Fu
