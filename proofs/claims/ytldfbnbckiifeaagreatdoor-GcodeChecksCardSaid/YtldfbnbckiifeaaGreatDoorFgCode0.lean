/-
 The program's functions as the machine's code (printed by gen2.py).
-/
import Derived.Test.YtldfbnbckiifeaaGreatDoorFgIds
set_option linter.unusedSimpArgs false
set_option linter.unusedVariables false
set_option linter.unusedSectionVars false
namespace Go.Fu
open Go Go.Mx
def a_229:AFun:={nargs:=4,ntmps:=32,res:=[.tmp 8],gc:=false,body:=(sq [mo 8 (.mov (.const (.bool false)))] [8] (sq [mo 13 (.call n_17 []),mt 14 0,mo 15 (.call n_149 [.tmp 14]),mo 16 (.call n_148 [.tmp 13,.tmp 15]),mw 12 16,
 mo 17 (.extract (.tmp 12) 0),mo 18 (.extract (.tmp 12) 1),mw 9 17,mw 10 18] [0,10,12,13,14,15,16,17,18] (sq [mt 19 9,mt 20 1,mt 21 2,mt 22 3,mo 23 (.call n_74 [.tmp 19,.tmp 20,.tmp 21,.tmp 22]),mw 11 23] [1,2,3,9,19,20,21,22,23] (sq [mt 24 11,
 mo 25 (.call n_255 [.tmp 24]),mt 26 11,mo 27 (.call n_331 [.tmp 26]),mo 28 (.bin .eql (.tmp 25) (.tmp 27)),mw 29 28,⟨some 30,.call n_132 [],(some (29,true))⟩,mo 31 (.pick (.tmp 29) (.tmp 30) (.const (.bool false))),mw 8 31] [11,24,25,26,27,28,29,30,31]
 .ret))))}
def a_165:AFun:={nargs:=4,ntmps:=47,res:=[.tmp 8],gc:=false,body:=(sq [mo 8 (.mov (.const (.bool false)))] [8] (sq [mo 15 (.call n_17 []),mt 16 0,mo 17 (.call n_149 [.tmp 16]),mo 18 (.call n_148 [.tmp 15,.tmp 17]),mw 14 18,
 mo 19 (.extract (.tmp 14) 0),mo 20 (.extract (.tmp 14) 1),mw 9 19,mw 10 20] [0,10,14,15,16,17,18,19,20] (sq [mt 21 9,mt 22 1,mt 23 2,mt 24 3,mo 25 (.call n_74 [.tmp 21,.tmp 22,.tmp 23,.tmp 24]),mw 11 25] [1,2,3,21,22,23,24,25] (sq [mo 26 (.call n_17 []),
 mt 27 11,mo 28 (.call n_88 [.tmp 26,.tmp 27]),mw 12 28] [26,27,28] (sq [mo 29 (.call n_17 []),mt 30 9,mo 31 (.call n_88 [.tmp 29,.tmp 30]),mw 13 31] [29,30,31] (sq [mo 32 (.call n_17 []),mw 33 11,mo 34 (.call n_56 [.tmp 32,.tmp 33]),mw 35 12,
 mo 36 (.binB .eql (.tmp 34) (.tmp 35)),mw 37 36,⟨some 38,.call n_17 [],(some (37,true))⟩,⟨some 39,.mov (.mv 9),(some (37,true))⟩,⟨some 40,.call n_56 [.tmp 38,.tmp 39],(some (37,true))⟩,⟨some 41,.mov (.mv 13),(some (37,true))⟩,
 ⟨some 42,.binB .eql (.tmp 40) (.tmp 41),(some (37,true))⟩,mo 43 (.pick (.tmp 37) (.tmp 42) (.const (.bool false))),mw 44 43,⟨some 45,.call n_132 [],(some (44,true))⟩,mo 46 (.pick (.tmp 44) (.tmp 45) (.const (.bool false))),
 mw 8 46] [9,11,12,13,32,33,34,35,36,37,38,39,40,41,42,43,44,45,46] .ret))))))}
def a_98:ACode:=(.seq (sq [mt 20 8,mt 21 0,mo 22 (.len (.tmp 21)),mo 23 (.bin .lss (.tmp 20) (.tmp 22))] [20,21,22] (.cond (.tmp 23) .skip (.exit 0))) (.seq (.block 1 (sq [mt 26 0,mt 27 8,mo 28 (.indexAddr 8 (.tmp 26) (.tmp 27)),mo 29 (.load (some 8) false (.tmp 28)),
 mo 9 (.alloc [.str [],.int .i64 0,.int .i64 0,.int .i64 0,.int .i64 0,.int .i64 0,.str [],.nils]),⟨none,.store 8 (.tmp 9) (.mv 29),none⟩] [23,26,27,28,29] (sq [mf 30 0 9,ml 31 30,mf 32 3 9,ml 33 32,mf 34 1 9,ml 35 34,
 mo 36 (.build [.str [],.int .i64 0,.int .i64 0,.str []] [(0,1,(.const (.str [80,65,67,75]))),(3,1,(.tmp 31)),(1,1,(.tmp 33)),(2,1,(.tmp 35))]),mo 37 (.build [.str [],.int .i64 0,.int .i64 0,.str []] [(0,1,(.const (.str [85,80,68,65,84,69])))]),
 mo 38 (.build [.str [],.int .i64 0,.int .i64 0,.str []] [(0,1,(.const (.str [80,79,80])))]),mo 39 (.build [.str [],.int .i64 0,.int .i64 0,.str []] [(0,1,(.const (.str [85,78,87,73,78,68])))]),mo 40 (.buildSlice k_1 [.tmp 36,.tmp 37,.tmp 38,.tmp 39]),
 mw 10 40] [30,31,32,33,34,35,36,37,38,39,40] (rg [mw 41 7,mf 42 0 9,ml 43 42,mf 44 3 9,ml 45 44,mt 46 10,mo 47 (.build [.str [],.int .i64 0,.nils] [(0,1,(.tmp 43)),(1,1,(.tmp 45)),(2,1,(.tmp 46))]),mo 48 (.buildSlice k_5 [.tmp 47]),
 mo 49 (.append k_5 48 (.mv 41) (.tmp 48)),mw 7 49] [9,10,41,42,43,44,45,46,47,48,49])))) (rg [mt 24 8,mo 25 (.bin .add (.tmp 24) (ci 1)),mw 8 25] [24,25])))
def a_63:ACode:=(.seq (sq [mt 61 13,mt 62 12,mo 63 (.len (.tmp 62)),mo 64 (.bin .lss (.tmp 61) (.tmp 63))] [61,62,63] (.cond (.tmp 64) .skip (.exit 4))) (.seq (.block 5 (.region [mw 67 7,mt 68 12,mt 69 13,mo 70 (.indexAddr 12 (.tmp 68) (.tmp 69)),mf 71 0 70,
 mo 72 (.loadG none (.tmp 71)),mt 73 12,mt 74 13,mo 75 (.indexAddr 12 (.tmp 73) (.tmp 74)),mf 76 1 75,mo 77 (.loadG none (.tmp 76)),mo 78 (.len (.tmp 77)),mt 79 12,mt 80 13,mo 81 (.indexAddr 12 (.tmp 79) (.tmp 80)),mo 82 (.fieldAddr 2 (some 10) (.tmp 81)),
 mo 83 (.loadG (some 10) (.tmp 82)),mt 84 12,mt 85 13,mo 86 (.indexAddr 12 (.tmp 84) (.tmp 85)),mf 87 1 86,mo 88 (.loadG none (.tmp 87)),mo 89 (.callW [71,76,82] n_75 [.tmp 88]),mo 90 (.callW [71,76] n_14 [.tmp 83,.tmp 89]),
 mo 91 (.build [.str [],.int .i64 0,.nils] [(0,1,(.tmp 72)),(1,1,(.tmp 78)),(2,1,(.tmp 90))]),mo 92 (.buildSlice k_5 [.tmp 91]),mo 93 (.append k_5 48 (.mv 67) (.tmp 92)),
 mw 7 93] (some [0,1,2,3,4,5,6,7,8,9,10,11,12,13,14,15,16,17,18,19,20,21,22,23,24,25,26,27]) [64,67,68,69,70,71,72,73,74,75,76,77,78,79,80,81,82,83,84,85,86,87,88,89,90,91,92,93])) (rg [mt 65 13,mo 66 (.bin .add (.tmp 65) (ci 1)),
 mw 13 66] [65,66])))
def a_99:ACode:=(.seq (sq [mt 50 11,mt 51 1,mo 52 (.len (.tmp 51)),mo 53 (.bin .lss (.tmp 50) (.tmp 52))] [50,51,52] (.cond (.tmp 53) .skip (.exit 2))) (.seq (.block 3 (sq [mt 56 1,mt 57 11,mo 58 (.indexAddr 12 (.tmp 56) (.tmp 57)),mo 59 (.load (some 12) false (.tmp 58)),
 mo 60 (.call n_43 [.tmp 59]),mw 12 60] [53,56,57,58,59,60] (sq [mo 13 (.mov (ci 0))] [] (.block 4 (.loop a_63))))) (rg [mt 54 11,mo 55 (.bin .add (.tmp 54) (ci 1)),mw 11 55] [12,13,54,55,64])))
def a_166:AFun:={nargs:=2,ntmps:=95,res:=[.tmp 4,.tmp 5],gc:=false,body:=(sq [mo 4 (.mov (.const .nils)),mo 5 (.mov (ci 0))] [4,5] (sq [mt 14 0,mt 15 1,mo 16 (.call n_150 [.tmp 14,.tmp 15]),mw 6 16] [14,15,16] (.seq (sq [mt 17 6,
 mo 18 (.bin .neq (.tmp 17) (ci 0))] [17] (.cond (.tmp 18) (sq [mw 19 6,mo 4 (.mov (.const .nils)),mw 5 19] [0,1,6,18,19] .ret) .skip)) (sq [mo 7 (.mov (.const .nils))] [6,18] (.seq (sq [mo 8 (.mov (ci 0))] [] (.block 0 (.loop a_98))) (.seq (sq [mo 11 (.mov (ci 0))] [0,8,23]
 (.block 2 (.loop a_99))) (sq [mw 94 7,mw 4 94,mo 5 (.mov (ci 0))] [1,7,11,53,94] .ret)))))))}
def a_167:AFun:={nargs:=0,ntmps:=7,res:=[.tmp 0],gc:=false,body:=(sq [mo 0 (.mov (.const .nils))] [0] (sq [
 mo 1 (.build [.str [],.int .i64 0,.int .i64 0,.int .i64 0,.int .i64 0,.int .i64 0,.str [],.nils] [(0,1,(.const (.str [70,97,108,115,101]))),(1,1,(ci 0)),(2,1,(ci 2))]),
 mo 2 (.build [.str [],.int .i64 0,.int .i64 0,.int .i64 0,.int .i64 0,.int .i64 0,.str [],.nils] [(0,1,(.const (.str [84,114,117,101]))),(1,1,(ci 1)),(2,1,(ci 2))]),
 mo 3 (.build [.str [],.int .i64 0,.int .i64 0,.int .i64 0,.int .i64 0,.int .i64 0,.str [],.nils] [(0,1,(.const (.str [78,105,108]))),(1,1,(ci 0)),(2,1,(ci 2))]),
 mo 4 (.build [.str [],.int .i64 0,.int .i64 0,.int .i64 0,.int .i64 0,.int .i64 0,.str [],.nils] [(0,1,(.const (.str [67,111,110,115]))),(1,1,(ci 1)),(2,1,(ci 2)),(3,1,(ci 2))]),
 mo 5 (.build [.str [],.int .i64 0,.int .i64 0,.int .i64 0,.int .i64 0,.int .i64 0,.str [],.nils] [(0,1,(.const (.str [79,110,101]))),(1,1,(ci 0)),(2,1,(ci 1)),(3,1,(ci 1))]),mo 6 (.buildSlice k_130 [.tmp 1,.tmp 2,.tmp 3,.tmp 4,.tmp 5]),mw 0 6] [1,2,3,4,5,6]
 .ret))}
def a_85:ACode:=(.seq (sq [mt 24 8,mt 25 5,mo 26 (.bin .lss (.tmp 24) (.tmp 25))] [24,25] (.cond (.tmp 26) .skip (.exit 0))) (.seq (.block 1 (sq [mt 29 0,mt 30 6,mo 31 (.call n_21 [.tmp 29,.tmp 30]),mo 32 (.bin .rem (.tmp 31) (ci 4)),mw 9 32] [26,29,30,31,32] (.seq
 (.region [mo 10 (.allocN 10 [.int .i64 0,.int .i64 0,.str [],.int .i64 0,.int .i64 0,.str [],.nils,.nils,.nils,.nils]),mt 34 0,mt 35 6,mo 36 (.bin .add (.tmp 35) (ci 1)),mt 37 3,mt 38 5,mo 39 (.slice 1 (.tmp 37) none (some (.tmp 38))),mt 40 4,mt 41 9,
 mo 42 (.slice 1 (.tmp 40) none (some (.tmp 41))),mo 43 (.call n_3 [.tmp 39,.tmp 42]),mo 44 (.call n_12 [.tmp 34,.tmp 36,.tmp 43,(ci 4)]),mw 33 44,mo 45 (.extract (.tmp 33) 0),mo 46 (.extract (.tmp 33) 1),⟨none,.storeB 10 10 (.tmp 10) (.mv 45),none⟩,
 mw 11 46] (some [14,0,1,2,3,4,5,6,7,8,9,10,11,12,13,15,16]) [6,33,34,35,36,37,38,39,40,41,42,43,44,45,46]) (sq [mt 47 11,mw 6 47] [11,47] (.seq (.region [
 mo 12 (.allocN 12 [.str [],.nils,.int .i64 0,.int .i64 0,.str [],.int .i64 0,.int .i64 0,.str [],.nils,.nils,.nils,.nils]),mt 48 3,mt 49 8,mo 50 (.indexAddr 1 (.tmp 48) (.tmp 49)),mo 51 (.loadG none (.tmp 50)),mo 52 (.loadB 10 (some 10) (.tmp 10)),
 mo 53 (.build [.str [],.nils,.int .i64 0,.int .i64 0,.str [],.int .i64 0,.int .i64 0,.str [],.nils,.nils,.nils,.nils] [(0,1,(.tmp 51)),(2,10,(.tmp 52))]),⟨none,.storeB 12 12 (.tmp 12) (.mv 53),none⟩] (some [6,0,1,2,3,4,5,7]) [10,48,49,50,51,52,53]) (.seq (.region [
 mf 54 1 12,mo 55 (.loadL none true (.tmp 54)),mt 56 4,mt 57 9,mo 58 (.slice 1 (.tmp 56) none (some (.tmp 57))),mo 59 (.append k_0 16 (.mv 55) (.tmp 58)),mf 60 1 12,⟨none,.storeB 12 1 (.tmp 60) (.mv 59),none⟩] (some [0,1,2,3,4,5,6,7]) [9,54,55,56,57,58,59,60]) (rg [
 mw 61 7,mo 62 (.load (some 12) false (.tmp 12)),mo 63 (.buildSlice k_13 [.tmp 62]),mo 64 (.append k_13 200 (.mv 61) (.tmp 63)),mw 7 64] [12,61,62,63,64]))))))) (rg [mt 27 8,mo 28 (.bin .add (.tmp 27) (ci 1)),mw 8 28] [27,28])))
def a_102:AFun:={nargs:=1,ntmps:=66,res:=[.tmp 2],gc:=false,body:=(sq [mo 2 (.mov (.const .nils))] [2] (.seq (sq [mt 13 0,mo 14 (.len (.tmp 13)),mo 15 (.bin .gtr (.tmp 14) (ci 80))] [13,14] (.cond (.tmp 15) (rg [mt 16 0,mo 17 (.slice 1 (.tmp 16) none (some (ci 80))),
 mw 0 17] [15,16,17]) .skip)) (sq [mo 18 (.buildSlice k_0 [(.const (.str [102])),(.const (.str [103])),(.const (.str [104])),(.const (.str [120]))]),mw 3 18] [15,18] (sq [mo 19 (.buildSlice k_0 [(.const (.str [120])),(.const (.str [121])),(.const (.str [122]))]),mw 4 19] [19]
 (sq [mt 20 0,mo 21 (.call n_21 [.tmp 20,(ci 0)]),mo 22 (.bin .rem (.tmp 21) (ci 4)),mo 23 (.bin .add (.tmp 22) (ci 1)),mw 5 23] [20,21,22,23] (sq [mo 6 (.mov (ci 1))] [] (sq [mo 7 (.mov (.const .nils))] [] (.seq (sq [mo 8 (.mov (ci 0))] [] (.block 0 (.loop a_85))) (sq [
 mw 65 7,mw 2 65] [0,3,4,5,6,7,8,26,65] .ret)))))))))}
def a_270:ACode:=(sq [mo 27 (.bin .lss (.tmp 26) (.tmp 25))] [] (.seq (.cond (.tmp 27) .skip (.exit 2)) (.seq (.block 3 (sq [mo 28 (.indexAddr 4 (.tmp 24) (.tmp 26)),mo 29 (.load (some 4) false (.tmp 28)),mo 7 (.alloc [.str [],.int .i64 0,.int .i64 0,.str []]),
 ⟨none,.store 4 (.tmp 7) (.mv 29),none⟩] [27,28,29] (sq [mf 30 0 7,ml 31 30,mo 32 (.bin .add (.const (.str [32])) (.tmp 31)),mo 33 (.call n_159 [.tmp 3,.tmp 32])] [30,31,32,33] (.seq (sq [mf 34 0 7,ml 35 34,
 mo 36 (.bin .eql (.tmp 35) (.const (.str [80,85,83,72,71]))),mw 37 36,⟨some 38,.fieldAddr 0 none (.tmp 7),(some (37,false))⟩,⟨some 39,.load none false (.tmp 38),(some (37,false))⟩,⟨some 40,.bin .eql (.tmp 39) (.const (.str [80,65,67,75])),(some (37,false))⟩,
 mo 41 (.pick (.tmp 37) (.const (.bool true)) (.tmp 40)),mw 42 41,⟨some 43,.fieldAddr 0 none (.tmp 7),(some (42,false))⟩,⟨some 44,.load none false (.tmp 43),(some (42,false))⟩,⟨some 45,.bin .eql (.tmp 44) (.const (.str [84,69,83,84])),(some (42,false))⟩,
 mo 46 (.pick (.tmp 42) (.const (.bool true)) (.tmp 45))] [34,35,36,37,38,39,40,41,42,43,44,45] (.cond (.tmp 46) (rg [mf 47 3 7,ml 48 47,mo 49 (.bin .add (.const (.str [32])) (.tmp 48)),mo 50 (.call n_159 [.tmp 3,.tmp 49])] [46,47,48,49,50]) .skip)) (.seq
 (sq [mf 51 0 7,ml 52 51,mo 53 (.bin .eql (.tmp 52) (.const (.str [80,65,67,75]))),mw 54 53,⟨some 55,.fieldAddr 0 none (.tmp 7),(some (54,false))⟩,⟨some 56,.load none false (.tmp 55),(some (54,false))⟩,
 ⟨some 57,.bin .eql (.tmp 56) (.const (.str [84,69,83,84,73])),(some (54,false))⟩,mo 58 (.pick (.tmp 54) (.const (.bool true)) (.tmp 57))] [46,51,52,53,54,55,56,57] (.cond (.tmp 58) (rg [mf 59 2 7,ml 60 59,mo 61 (.call n_92 [.tmp 60]),
 mo 62 (.bin .add (.const (.str [32])) (.tmp 61)),mo 63 (.call n_159 [.tmp 3,.tmp 62])] [58,59,60,61,62,63]) .skip)) (.seq (sq [mf 64 0 7,ml 65 64,mo 66 (.call n_311 [.tmp 65])] [58,64,65] (.cond (.tmp 66) (rg [mf 67 1 7,ml 68 67,
 mo 69 (.call n_92 [.tmp 68]),mo 70 (.bin .add (.const (.str [32])) (.tmp 69)),mo 71 (.call n_159 [.tmp 3,.tmp 70])] [7,66,67,68,69,70,71]) .skip)) (rg [mo 72 (.call n_348 [.tmp 3,(.const (.int .u8 10))])] [7,66,72]))))))) (rg [
 mo 73 (.bin .add (.tmp 26) (ci 1)),mw 26 73] [73]))))
def a_271:ACode:=(sq [mo 11 (.bin .lss (.tmp 10) (.tmp 9))] [] (.seq (.cond (.tmp 11) .skip (.exit 0)) (.seq (.block 1 (sq [mo 12 (.indexAddr 3 (.tmp 8) (.tmp 10)),mo 13 (.load (some 3) false (.tmp 12)),mo 5 (.alloc [.str [],.int .i64 0,.nils]),
 ⟨none,.store 3 (.tmp 5) (.mv 13),none⟩] [11,12,13] (.seq (.region [mf 14 0 5,mo 15 (.loadB 5 none (.tmp 14)),mo 16 (.bin .add (.tmp 15) (.const (.str [47]))),mf 17 1 5,mo 18 (.loadB 5 none (.tmp 17)),mo 19 (.call n_92 [.tmp 18]),mo 20 (.bin .add (.tmp 16) (.tmp 19)),
 mo 21 (.bin .add (.tmp 20) (.const (.str [10]))),mo 22 (.call n_159 [.tmp 3,.tmp 21])] (some [0,1,2,3,4,5,6,7,8]) [14,15,16,17,18,19,20,21,22]) (sq [mf 23 2 5,ml 24 23,mo 25 (.len (.tmp 24)),mo 26 (.mov (ci 0))] [5,23] (.block 2
 (.loop a_270)))))) (rg [mo 74 (.bin .add (.tmp 10) (ci 1)),mw 10 74] [24,25,26,27,74]))))
def a_206:AFun:={nargs:=1,ntmps:=76,res:=[.tmp 2],gc:=false,body:=(sq [mo 2 (.mov (.const (.str [])))] [2] (sq [mo 3 (.galloc t_27 [.nilp,.nils])] [] (.seq (sq [mt 8 0,mo 9 (.len (.tmp 8)),mo 10 (.mov (ci 0))] [0] (.block 0 (.loop a_271)))
 (sq [mo 75 (.call n_158 [.tmp 3]),mw 2 75] [3,8,9,10,11,75] .ret))))}
def a_283:ACode:=(.seq (sq [mt 28 5,mt 29 0,mt 30 4,mo 31 (.indexAddr 3 (.tmp 29) (.tmp 30)),mf 32 2 31,ml 33 32,mo 34 (.len (.tmp 33)),mo 35 (.bin .lss (.tmp 28) (.tmp 34))] [28,29,30,31,32,33,34] (.cond (.tmp 35) .skip (.exit 2))) (.seq (.block 3 (rg [mt 38 3,mt 39 0,
 mt 40 4,mo 41 (.indexAddr 3 (.tmp 39) (.tmp 40)),mf 42 2 41,ml 43 42,mt 44 5,mo 45 (.indexAddr 4 (.tmp 43) (.tmp 44)),mo 46 (.load (some 4) false (.tmp 45)),mo 47 (.call n_332 [.tmp 46]),mo 48 (.bin .add (.tmp 38) (.tmp 47)),mo 49 (.bin .add (.tmp 48) (.const (.str [10]))),
 mw 3 49] [35,38,39,40,41,42,43,44,45,46,47,48,49])) (rg [mt 36 5,mo 37 (.bin .add (.tmp 36) (ci 1)),mw 5 37] [36,37])))
def a_284:ACode:=(.seq (sq [mt 6 4,mt 7 0,mo 8 (.len (.tmp 7)),mo 9 (.bin .lss (.tmp 6) (.tmp 8))] [6,7,8] (.cond (.tmp 9) .skip (.exit 0))) (.seq (.block 1 (.seq (.region [mt 12 3,mt 13 0,mt 14 4,mo 15 (.indexAddr 3 (.tmp 13) (.tmp 14)),mf 16 0 15,
 mo 17 (.loadG none (.tmp 16)),mo 18 (.bin .add (.tmp 12) (.tmp 17)),mo 19 (.bin .add (.tmp 18) (.const (.str [47]))),mt 20 0,mt 21 4,mo 22 (.indexAddr 3 (.tmp 20) (.tmp 21)),mf 23 1 22,mo 24 (.loadG none (.tmp 23)),mo 25 (.callW [16] n_31 [.tmp 24]),
 mo 26 (.bin .add (.tmp 19) (.tmp 25)),mo 27 (.bin .add (.tmp 26) (.const (.str [10]))),mw 3 27] (some [0,1,2,3,4,5,6,7,8,9,10,11,12,13,14,15,16]) [9,12,13,14,15,16,17,18,19,20,21,22,23,24,25,26,27]) (sq [mo 5 (.mov (ci 0))] [] (.block 2 (.loop a_283)))))
 (rg [mt 10 4,mo 11 (.bin .add (.tmp 10) (ci 1)),mw 4 11] [5,10,11,35])))
def a_234:AFun:={nargs:=1,ntmps:=51,res:=[.tmp 2],gc:=false,body:=(sq [mo 2 (.mov (.const (.str [])))] [2] (sq [mo 3 (.mov (.const (.str [])))] [] (.seq (sq [mo 4 (.mov (ci 0))] [] (.block 0 (.loop a_284))) (sq [mw 50 3,mw 2 50] [0,3,4,9,50] .ret))))}
def a_230:AFun:={nargs:=0,ntmps:=30,res:=[.tmp 0],gc:=false,body:=(sq [mo 0 (.mov (.const (.bool false)))] [0] (sq [mo 4 (.buildSlice k_0 [(.const (.str [120]))]),
 mo 5 (.build [.int .i64 0,.int .i64 0,.str [],.int .i64 0,.int .i64 0,.str [],.nils,.nils,.nils,.nils] [(0,1,(ci 1)),(2,1,(.const (.str [120])))]),
 mo 6 (.build [.str [],.nils,.int .i64 0,.int .i64 0,.str [],.int .i64 0,.int .i64 0,.str [],.nils,.nils,.nils,.nils] [(0,1,(.const (.str [102]))),(1,1,(.tmp 4)),(2,10,(.tmp 5))]),mo 7 (.buildSlice k_13 [.tmp 6]),mw 1 7] [4,5,6,7] (sq [mt 9 1,
 mo 10 (.call n_298 [(.const .nils),.tmp 9]),mw 8 10,mo 11 (.extract (.tmp 8) 0),mo 12 (.extract (.tmp 8) 1),mw 2 11,mw 3 12] [1,8,9,10,11,12] (sq [mw 13 3,mo 14 (.bin .eql (.tmp 13) (ci 0)),mw 15 14,⟨some 16,.mov (.tmp 2),(some (15,true))⟩,
 ⟨some 17,.call n_255 [.tmp 16],(some (15,true))⟩,⟨some 18,.bin .eql (.tmp 17) (.const (.str [102,47,49,10,32,80,85,83,72,65,32,48,10,32,85,80,68,65,84,69,32,49,10,32,80,79,80,32,49,10,32,85,78,87,73,78,68,10])),(some (15,true))⟩,
 mo 19 (.pick (.tmp 15) (.tmp 18) (.const (.bool false))),mw 20 19,⟨some 21,.mov (.tmp 2),(some (20,true))⟩,⟨some 22,.call n_56 [(.const .nils),.tmp 21],(some (20,true))⟩,mo 23 (.pick (.tmp 20) (.tmp 22) (.const (.bool false))),mw 24 23,
 ⟨some 25,.call n_17 [],(some (24,true))⟩,⟨some 26,.mov (.tmp 2),(some (24,true))⟩,⟨some 27,.call n_56 [.tmp 25,.tmp 26],(some (24,true))⟩,⟨some 28,.un .not (.tmp 27),(some (24,true))⟩,mo 29 (.pick (.tmp 24) (.tmp 28) (.const (.bool false))),
 mw 0 29] [2,3,13,14,15,16,17,18,19,20,21,22,23,24,25,26,27,28,29] .ret))))}
def a_97:ACode:=(.seq (sq [mt 12 6,mt 13 1,mo 14 (.len (.tmp 13)),mo 15 (.bin .lss (.tmp 12) (.tmp 14))] [12,13,14] (.cond (.tmp 15) .skip (.exit 0))) (.seq (.block 1 (rg [mw 18 5,mt 19 1,mt 20 6,mo 21 (.indexAddr 3 (.tmp 19) (.tmp 20)),mf 22 0 21,ml 23 22,
 mo 24 (.buildSlice k_0 [.tmp 23]),mo 25 (.append k_0 16 (.mv 18) (.tmp 24)),mw 5 25] [15,18,19,20,21,22,23,24,25])) (rg [mt 16 6,mo 17 (.bin .add (.tmp 16) (ci 1)),mw 6 17] [16,17])))
def a_61:ACode:=(.seq (sq [mt 29 8,mt 30 0,mo 31 (.len (.tmp 30)),mo 32 (.bin .lss (.tmp 29) (.tmp 31))] [29,30,31] (.cond (.tmp 32) .skip (.exit 2))) (.seq (.block 3 (sq [mt 35 5,mt 36 0,mt 37 8,mo 38 (.indexAddr 8 (.tmp 36) (.tmp 37)),mf 39 0 38,ml 40 39,
 mo 41 (.call n_18 [.tmp 35,.tmp 40]),mw 9 41] [32,35,36,37,38,39,40,41] (sq [mt 42 9,mo 43 (.un .not (.tmp 42))] [9,42] (.cond (.tmp 43) (sq [mo 4 (.mov (.const (.bool false)))] [0,1,5,8,43] .ret) .skip)))) (rg [mt 33 8,mo 34 (.bin .add (.tmp 33) (ci 1)),
 mw 8 34] [33,34,43])))
def a_62:ACode:=(.seq (sq [mt 44 10,mt 45 1,mo 46 (.len (.tmp 45)),mo 47 (.bin .lss (.tmp 44) (.tmp 46))] [44,45,46] (.cond (.tmp 47) .skip (.exit 4))) (.seq (.block 5 (sq [mt 50 0,mt 51 5,mt 52 1,mt 53 10,mo 54 (.indexAddr 3 (.tmp 52) (.tmp 53)),
 mo 55 (.load (some 3) false (.tmp 54)),mo 56 (.call n_45 [.tmp 50,.tmp 51,.tmp 55]),mw 11 56] [47,50,51,52,53,54,55,56] (sq [mt 57 11,mo 58 (.un .not (.tmp 57))] [11,57] (.cond (.tmp 58) (sq [mo 4 (.mov (.const (.bool false)))] [0,1,5,10,58] .ret) .skip)))) (rg [mt 48 10,
 mo 49 (.bin .add (.tmp 48) (ci 1)),mw 10 49] [48,49,58])))
def a_83:AFun:={nargs:=2,ntmps:=59,res:=[.tmp 4],gc:=false,body:=(sq [mo 4 (.mov (.const (.bool false)))] [4] (sq [mo 5 (.mov (.const .nils))] [] (.seq (sq [mo 6 (.mov (ci 0))] [] (.block 0 (.loop a_97))) (sq [mt 26 5,mo 27 (.call n_26 [.tmp 26]),
 mw 7 27] [6,15,26,27] (.seq (sq [mt 28 7] [7] (.cond (.tmp 28) (sq [mo 4 (.mov (.const (.bool false)))] [0,1,5,28] .ret) .skip)) (.seq (sq [mo 8 (.mov (ci 0))] [28] (.block 2 (.loop a_61))) (.seq (sq [mo 10 (.mov (ci 0))] [8,32] (.block 4 (.loop a_62))) (sq [
 mo 4 (.mov (.const (.bool true)))] [0,1,5,10,47] .ret))))))))}
def a_80:AFun:={nargs:=2,ntmps:=27,res:=[.tmp 4],gc:=false,body:=(sq [mo 2 (.gbox t_202 (.tmp 0)),mo 4 (.mov (.const (.bool false)))] [0,4] (sq [mt 8 1,mo 9 (.call n_147 [.tmp 8,(.const (.fn (.func n_41) [] []))]),
 mo 5 (.galloc t_48 [.nils]),⟨none,.store 1 (.tmp 5) (.mv 9),none⟩] [8,9] (sq [mo 10 (.mkFunc (.func n_186) [] [.tmp 5]),mw 6 10] [10] (sq [mo 11 (.mkFunc (.func n_187) [] [.tmp 2,.tmp 5]),mw 7 11] [11] (sq [ml 12 5,mo 13 (.call n_42 [.tmp 12]),
 mo 14 (.un .not (.tmp 13)),mw 15 14,⟨some 16,.load none false (.tmp 2),(some (15,true))⟩,⟨some 17,.mov (.mv 6),(some (15,true))⟩,⟨some 18,.call n_157 [.tmp 16,.tmp 17],(some (15,true))⟩,⟨some 19,.un .not (.tmp 18),(some (15,true))⟩,
 mo 20 (.pick (.tmp 15) (.tmp 19) (.const (.bool false))),mw 21 20,⟨some 22,.mov (.mv 1),(some (21,true))⟩,⟨some 23,.mov (.mv 7),(some (21,true))⟩,⟨some 24,.call n_199 [.tmp 22,.tmp 23],(some (21,true))⟩,⟨some 25,.un .not (.tmp 24),(some (21,true))⟩,
 mo 26 (.pick (.tmp 21) (.tmp 25) (.const (.bool false))),mw 4 26] [1,2,5,6,7,12,13,14,15,16,17,18,19,20,21,22,23,24,25,26] .ret)))))}
def a_266:ACode:=(sq [mo 42 (.bin .lss (.tmp 41) (.tmp 40))] [] (.seq (.cond (.tmp 42) .skip (.exit 2)) (.seq (.block 3 (sq [mo 43 (.indexAddr 1 (.tmp 39) (.tmp 41)),ml 44 43,mw 12 44] [42,43,44] (rg [mt 45 10,mt 46 12,
 mo 47 (.call n_57 [.tmp 45,.tmp 46,(ci 0)])] [12,45,46,47]))) (rg [mo 48 (.bin .add (.tmp 41) (ci 1)),mw 41 48] [48]))))
def a_267:ACode:=(sq [mo 26 (.bin .lss (.tmp 25) (.tmp 24))] [] (.seq (.cond (.tmp 26) .skip (.exit 0)) (.seq (.block 1 (sq [mo 27 (.indexAddr 8 (.tmp 23) (.tmp 25)),mo 28 (.load (some 8) false (.tmp 27)),
 mo 9 (.alloc [.str [],.int .i64 0,.int .i64 0,.int .i64 0,.int .i64 0,.int .i64 0,.str [],.nils]),⟨none,.store 8 (.tmp 9) (.mv 28),none⟩] [26,27,28] (sq [mf 29 0 9,ml 30 29,mf 31 3 9,ml 32 31,mf 33 1 9,ml 34 33,
 mo 35 (.build [.str [],.int .i64 0,.int .i64 0,.str []] [(0,1,(.const (.str [80,65,67,75]))),(3,1,(.tmp 30)),(1,1,(.tmp 32)),(2,1,(.tmp 34))]),mo 36 (.buildSlice k_1 [.tmp 35]),mo 37 (.build [.nils,.nilmap] [(0,1,(.tmp 36))]),mo 38 (.gbox t_264 (.tmp 37)),
 mw 10 38] [29,30,31,32,33,34,35,36,37,38] (.seq (sq [mo 39 (.buildSlice k_0 [(.const (.str [85,80,68,65,84,69])),(.const (.str [80,79,80])),(.const (.str [85,78,87,73,78,68]))]),mo 40 (.len (.tmp 39)),mo 41 (.mov (ci 0))] [] (.block 2 (.loop a_266)))
 (.region [mw 49 7,mf 50 0 9,mo 51 (.loadB 9 none (.tmp 50)),mf 52 3 9,mo 53 (.loadB 9 none (.tmp 52)),mt 54 10,mo 55 (.nilCheck (.tmp 54)),mf 56 0 55,mo 57 (.loadP none (.tmp 56)),mo 58 (.build [.str [],.int .i64 0,.nils] [(0,1,(.tmp 51)),(1,1,(.tmp 53)),(2,1,(.tmp 57))]),
 mo 59 (.buildSlice k_5 [.tmp 58]),mo 60 (.append k_5 48 (.mv 49) (.tmp 59)),mw 7 60] (some [0,1,2,3,4,5,6,7,8,9,10,11,12]) [9,10,39,40,41,42,49,50,51,52,53,54,55,56,57,58,59,60]))))) (rg [mo 61 (.bin .add (.tmp 25) (ci 1)),mw 25 61] [61]))))
def a_268:ACode:=(sq [mo 72 (.bin .lss (.tmp 71) (.tmp 70))] [] (.seq (.cond (.tmp 72) .skip (.exit 6)) (.seq (.block 7 (sq [mo 73 (.indexAddr 12 (.tmp 69) (.tmp 71)),mo 74 (.load (some 12) false (.tmp 73)),
 mo 16 (.alloc [.str [],.nils,.int .i64 0,.int .i64 0,.str [],.int .i64 0,.int .i64 0,.str [],.nils,.nils,.nils,.nils]),⟨none,.store 12 (.tmp 16) (.mv 74),none⟩] [72,73,74] (rg [mw 75 7,mo 76 (.load (some 12) false (.tmp 16)),mo 77 (.call n_299 [.tmp 76]),
 mo 78 (.buildSlice k_5 [.tmp 77]),mo 79 (.append k_5 48 (.mv 75) (.tmp 78)),mw 7 79] [16,75,76,77,78,79]))) (rg [mo 80 (.bin .add (.tmp 71) (ci 1)),mw 71 80] [80]))))
def a_269:ACode:=(sq [mo 65 (.bin .lss (.tmp 64) (.tmp 63))] [] (.seq (.cond (.tmp 65) .skip (.exit 4)) (.seq (.block 5 (sq [mo 66 (.indexAddr 12 (.tmp 62) (.tmp 64)),mo 67 (.load (some 12) false (.tmp 66)),
 mo 14 (.alloc [.str [],.nils,.int .i64 0,.int .i64 0,.str [],.int .i64 0,.int .i64 0,.str [],.nils,.nils,.nils,.nils]),⟨none,.store 12 (.tmp 14) (.mv 67),none⟩] [65,66,67] (sq [mo 68 (.load (some 12) false (.tmp 14)),mo 69 (.call n_257 [.tmp 68]),mo 70 (.len (.tmp 69)),
 mo 71 (.mov (ci 0))] [14,68] (.block 6 (.loop a_268))))) (rg [mo 81 (.bin .add (.tmp 64) (ci 1)),mw 64 81] [69,70,71,72,81]))))
def a_205:AFun:={nargs:=2,ntmps:=83,res:=[.tmp 4,.tmp 5],gc:=false,body:=(sq [mo 4 (.mov (.const .nils)),mo 5 (.mov (ci 0))] [4,5] (.seq (sq [mt 17 0,mt 18 1,mo 19 (.call n_317 [.tmp 17,.tmp 18]),mw 6 19] [17,18,19] (sq [mt 20 6,
 mo 21 (.bin .neq (.tmp 20) (ci 0))] [20] (.cond (.tmp 21) (sq [mw 22 6,mo 4 (.mov (.const .nils)),mw 5 22] [0,1,6,21,22] .ret) .skip))) (sq [mo 7 (.mov (.const .nils))] [6,21] (.seq (sq [mt 23 0,mo 24 (.len (.tmp 23)),mo 25 (.mov (ci 0))] [0] (.block 0 (.loop a_267))) (.seq
 (sq [mt 62 1,mo 63 (.len (.tmp 62)),mo 64 (.mov (ci 0))] [1,23,24,25,26] (.block 4 (.loop a_269))) (sq [mw 82 7,mw 4 82,mo 5 (.mov (ci 0))] [7,62,63,64,65,82] .ret))))))}
def a_104:ACode:=(.seq (sq [mt 21 7,mt 22 1,mo 23 (.len (.tmp 22)),mo 24 (.bin .lss (.tmp 21) (.tmp 23))] [21,22,23] (.cond (.tmp 24) .skip (.exit 0))) (.seq (.block 1 (sq [mt 27 1,mt 28 7,mo 29 (.indexAddr 12 (.tmp 27) (.tmp 28)),mo 30 (.fieldAddr 2 (some 10) (.tmp 29)),
 mo 31 (.load (some 10) false (.tmp 30)),mo 32 (.call n_78 [.tmp 31]),mw 8 32] [24,27,28,29,30,31,32] (sq [mt 33 8,mo 34 (.un .not (.tmp 33))] [8,33] (.cond (.tmp 34) (sq [mo 4 (.mov (ci 1))] [0,1,5,6,7,34] .ret) .skip)))) (rg [mt 25 7,mo 26 (.bin .add (.tmp 25) (ci 1)),
 mw 7 26] [25,26,34])))
def a_105:ACode:=(.seq (sq [mt 37 10,mt 38 1,mo 39 (.len (.tmp 38)),mo 40 (.bin .lss (.tmp 37) (.tmp 39)),mw 41 40,⟨some 42,.mov (.tmp 9),(some (41,true))⟩,⟨some 43,.un .not (.tmp 42),(some (41,true))⟩,
 mo 44 (.pick (.tmp 41) (.tmp 43) (.const (.bool false)))] [37,38,39,40,41,42,43] (.cond (.tmp 44) .skip (.exit 2))) (.seq (.block 3 (sq [mt 47 1,mt 48 10,mo 49 (.indexAddr 12 (.tmp 47) (.tmp 48)),mf 50 1 49,ml 51 50,mo 52 (.call n_26 [.tmp 51]),
 mw 11 52] [9,44,47,48,49,50,51,52] (sq [mt 53 1,mt 54 10,mo 55 (.indexAddr 12 (.tmp 53) (.tmp 54)),mo 56 (.fieldAddr 2 (some 10) (.tmp 55)),mo 57 (.load (some 10) false (.tmp 56)),mo 58 (.call n_76 [.tmp 57]),mw 12 58] [53,54,55,56,57,58] (rg [mt 59 11,mw 60 59,
 ⟨some 61,.mov (.tmp 12),(some (60,false))⟩,mo 62 (.pick (.tmp 60) (.const (.bool true)) (.tmp 61)),mw 9 62] [11,12,59,60,61,62])))) (rg [mt 45 10,mo 46 (.bin .add (.tmp 45) (ci 1)),mw 10 46] [45,46])))
def a_106:ACode:=(.seq (sq [mt 64 13,mt 65 1,mo 66 (.len (.tmp 65)),mo 67 (.bin .lss (.tmp 64) (.tmp 66))] [64,65,66] (.cond (.tmp 67) .skip (.exit 4))) (.seq (.block 5 (.seq (.region [mt 70 0,mt 71 6,mt 72 1,mt 73 13,mo 74 (.indexAddr 12 (.tmp 72) (.tmp 73)),mf 75 1 74,
 mo 76 (.loadG none (.tmp 75)),mt 78 1,mt 79 13,mo 80 (.indexAddr 12 (.tmp 78) (.tmp 79)),mo 81 (.fieldAddr 2 (some 10) (.tmp 80)),mo 82 (.loadG (some 10) (.tmp 81)),mo 77 (.callW [81] n_3 [.tmp 71,.tmp 76]),mo 83 (.call n_79 [.tmp 70,.tmp 77,.tmp 82]),
 mw 14 83] (some [0,1,2,3,4,5,6,8,9,10,11,12,7,13,14]) [67,70,71,72,73,74,75,76,77,78,79,80,81,82,83]) (sq [mt 84 14] [14] (.cond (.tmp 84) (sq [mo 4 (.mov (ci 21))] [0,1,6,13,84] .ret) .skip)))) (rg [mt 68 13,mo 69 (.bin .add (.tmp 68) (ci 1)),
 mw 13 69] [68,69,84])))
def a_169:AFun:={nargs:=2,ntmps:=85,res:=[.tmp 4],gc:=false,body:=(sq [mo 4 (.mov (ci 0))] [4] (sq [mt 16 0,mt 17 1,mo 18 (.call n_154 [.tmp 16,.tmp 17]),mw 15 18,mo 19 (.extract (.tmp 15) 0),mo 20 (.extract (.tmp 15) 1),mw 5 19,
 mw 6 20] [15,16,17,18,19,20] (.seq (sq [mo 7 (.mov (ci 0))] [] (.block 0 (.loop a_104))) (sq [mt 35 5,mo 36 (.call n_26 [.tmp 35]),mw 9 36] [5,7,24,35,36] (.seq (sq [mo 10 (.mov (ci 0))] [] (.block 2 (.loop a_105))) (.seq (sq [mt 63 9] [9,10,44]
 (.cond (.tmp 63) (sq [mo 4 (.mov (ci 20))] [0,1,6,63] .ret) .skip)) (.seq (sq [mo 13 (.mov (ci 0))] [63] (.block 4 (.loop a_106))) (sq [mo 4 (.mov (ci 0))] [0,1,6,13,67] .ret))))))))}
def a_100:ACode:=(.seq (sq [mt 24 6,mt 25 4,mo 26 (.len (.tmp 25)),mo 27 (.bin .lss (.tmp 24) (.tmp 26))] [24,25,26] (.cond (.tmp 27) .skip (.exit 0))) (.seq (.block 1 (rg [mw 30 5,mt 31 4,mt 32 6,mo 33 (.indexAddr 12 (.tmp 31) (.tmp 32)),
 mo 34 (.load (some 12) false (.tmp 33)),mo 35 (.call n_43 [.tmp 34]),mo 36 (.append k_13 200 (.mv 30) (.tmp 35)),mw 5 36] [27,30,31,32,33,34,35,36])) (rg [mt 28 6,mo 29 (.bin .add (.tmp 28) (ci 1)),mw 6 29] [28,29])))
def a_168:AFun:={nargs:=1,ntmps:=38,res:=[.tmp 2],gc:=false,body:=(sq [mo 1 (.box (.tmp 0)),mo 2 (.mov (.const .nils))] [0,2] (sq [mo 8 (.fieldAddr 2 (some 10) (.tmp 1)),mo 9 (.load (some 10) false (.tmp 8)),mf 10 1 1,ml 11 10,mf 12 0 1,ml 13 12,
 mo 14 (.call n_29 [.tmp 9,(.const (.bool false)),.tmp 11,.tmp 13,(.const .nils)]),mw 7 14,mo 15 (.extract (.tmp 7) 0),mo 16 (.extract (.tmp 7) 1),mo 3 (.alloc [.int .i64 0,.int .i64 0,.str [],.int .i64 0,.int .i64 0,.str [],.nils,.nils,.nils,.nils]),
 ⟨none,.store 10 (.tmp 3) (.mv 15),none⟩,mw 4 16] [7,8,9,10,11,12,13,14,15,16] (sq [mf 17 0 1,ml 18 17,mf 19 1 1,ml 20 19,mo 21 (.load (some 10) false (.tmp 3)),
 mo 22 (.build [.str [],.nils,.int .i64 0,.int .i64 0,.str [],.int .i64 0,.int .i64 0,.str [],.nils,.nils,.nils,.nils] [(0,1,(.tmp 18)),(1,1,(.tmp 20)),(2,10,(.tmp 21))]),mo 23 (.buildSlice k_13 [.tmp 22]),mw 5 23] [1,3,17,18,19,20,21,22,23] (.seq (sq [
 mo 6 (.mov (ci 0))] [] (.block 0 (.loop a_100))) (sq [mw 37 5,mw 2 37] [4,5,6,27,37] .ret)))))}
def a_50:AFun:={nargs:=2,ntmps:=57,res:=[.tmp 4],gc:=false,body:=(sq [mo 2 (.box (.tmp 0)),mo 4 (.mov (.const .nils))] [0,4] (.seq (sq [mf 8 0 2,ml 9 8] [8] (.block 0 (sq [mo 11 (.bin .eql (.tmp 9) (ci 8)),mw 10 11] [11] (.cond (.tmp 10) (sq [
 mo 13 (.load (some 10) false (.tmp 2)),mt 14 1,mo 15 (.call n_47 [.tmp 13,.tmp 14]),mw 12 15,mo 16 (.extract (.tmp 12) 0),mo 17 (.extract (.tmp 12) 1),mw 5 16,mw 6 17] [1,9,10,12,13,14,15,16,17] (sq [mw 18 5,mf 19 7 2,ml 20 19,mo 21 (.indexAddr 10 (.tmp 20) (ci 0)),
 mo 22 (.load (some 10) false (.tmp 21)),mw 23 6,mo 24 (.call n_14 [.tmp 22,.tmp 23]),mo 25 (.call n_6 [.tmp 18,.tmp 24]),mw 4 25] [2,5,6,18,19,20,21,22,23,24,25] .ret)) (sq [mo 27 (.bin .eql (.tmp 9) (ci 11)),mw 26 27] [10,27] (.cond (.tmp 26) (sq [
 mo 28 (.call n_7 [(.const (.str [70,65,73,76])),(ci 0)]),mw 4 28] [1,2,9,26,28] .ret) (sq [mo 30 (.bin .eql (.tmp 9) (ci 9)),mw 29 30] [9,26,30] (.cond (.tmp 29) (.seq (.region [mf 31 7 2,mo 32 (.loadB 2 none (.tmp 31)),mo 33 (.indexAddr 10 (.tmp 32) (ci 0)),
 mo 34 (.loadG (some 10) (.tmp 33)),mt 35 1,mo 37 (.loadB 2 (some 10) (.tmp 2)),mt 38 1,mo 36 (.call n_11 [.tmp 34,.tmp 35]),mo 39 (.call n_15 [.tmp 37,(ci 0),.tmp 38,(.const (.bool true))]),mo 40 (.call n_6 [.tmp 36,.tmp 39]),
 mw 4 40] (some [0,1,2,3,4,6,7,5,8,9,10]) [1,2,29,31,32,33,34,35,36,37,38,39,40]) .ret) .skip)))))))) (sq [mo 41 (.load (some 10) false (.tmp 2)),mt 42 1,mo 43 (.call n_89 [.tmp 41,.tmp 42]),mw 7 43] [2,29,41,42,43] (sq [mt 44 7,mt 45 1,mo 46 (.len (.tmp 45)),
 mo 47 (.call n_7 [(.const (.str [85,80,68,65,84,69])),.tmp 46]),mo 48 (.call n_6 [.tmp 44,.tmp 47]),mw 7 48] [44,45,46,47,48] (sq [mt 49 7,mt 50 1,mo 51 (.len (.tmp 50)),mo 52 (.call n_7 [(.const (.str [80,79,80])),.tmp 51]),
 mo 53 (.call n_6 [.tmp 49,.tmp 52]),mw 7 53] [1,49,50,51,52,53] (sq [mw 54 7,mo 55 (.call n_7 [(.const (.str [85,78,87,73,78,68])),(ci 0)]),mo 56 (.call n_6 [.tmp 54,.tmp 55]),mw 4 56] [7,54,55,56] .ret))))))}
def a_107:ACode:=(.seq (sq [mt 8 4,mo 9 (.bin .geq (.tmp 8) (ci 0))] [8] (.cond (.tmp 9) .skip (.exit 0))) (.seq (.block 1 (rg [mw 12 3,mt 13 0,mt 14 4,mo 15 (.indexAddr 1 (.tmp 13) (.tmp 14)),ml 16 15,mo 17 (.buildSlice k_0 [.tmp 16]),
 mo 18 (.append k_0 16 (.mv 12) (.tmp 17)),mw 3 18] [9,12,13,14,15,16,17,18])) (rg [mt 10 4,mo 11 (.bin .sub (.tmp 10) (ci 1)),mw 4 11] [10,11])))
def a_170:AFun:={nargs:=1,ntmps:=20,res:=[.tmp 2],gc:=false,body:=(sq [mo 2 (.mov (.const .nils))] [2] (sq [mo 3 (.mov (.const .nils))] [] (.seq (sq [mt 5 0,mo 6 (.len (.tmp 5)),mo 7 (.bin .sub (.tmp 6) (ci 1)),mw 4 7] [5,6,7] (.block 0 (.loop a_107))) (sq [
 mw 19 3,mw 2 19] [0,3,4,9,19] .ret))))}
def a_122:AFun:={nargs:=2,ntmps:=24,res:=[.tmp 4],gc:=false,body:=(sq [mo 4 (.mov (ci 0))] [4] (.seq (sq [mt 5 1,mt 6 0,mo 7 (.len (.tmp 6)),mo 8 (.bin .geq (.tmp 5) (.tmp 7))] [5,6,7] (.cond (.tmp 8) (sq [mo 4 (.mov (ci 0))] [0,1,8] .ret) .skip)) (.seq (sq [mt 9 0,
 mt 10 1,mo 11 (.indexAddr 1 (.tmp 9) (.tmp 10)),ml 12 11,mo 13 (.bin .lss (.tmp 12) (ci 0))] [8,9,10,11,12] (.cond (.tmp 13) (sq [mw 14 0,mw 15 1,mo 16 (.indexAddr 1 (.tmp 14) (.tmp 15)),ml 17 16,mo 18 (.bin .add (.tmp 17) (ci 1)),mo 19 (.un .neg (.tmp 18)),
 mw 4 19] [0,1,13,14,15,16,17,18,19] .ret) .skip)) (sq [mw 20 0,mw 21 1,mo 22 (.indexAddr 1 (.tmp 20) (.tmp 21)),mo 23 (.load none true (.tmp 22)),mw 4 23] [0,1,13,20,21,22,23] .ret))))}
end Go.Fu
