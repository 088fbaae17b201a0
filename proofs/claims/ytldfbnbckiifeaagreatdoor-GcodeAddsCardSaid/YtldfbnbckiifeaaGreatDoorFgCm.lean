/-
 The program's coder and flattener,where what they make lies in the store.
-/
import Derived.Test.YtldfbnbckiifeaaGreatDoorFgOk
import Derived.Shelf.Sort.Plain
import Derived.Shelf.Slices.CompactS
import Derived.Ground.NamesProg
import Derived.Test.YtldfbnbckiifeaaGreatDoorProg
import Derived.Test.YtldfbnbckiifeaaGreatDoorFgLib
set_option maxHeartbeats 4000000
set_option linter.unusedSimpArgs false
set_option linter.unusedVariables false
set_option linter.unusedSectionVars false
namespace Go.Fu
open Go Go.Mx
def iU:ACode:=(sq [mo 42 (.bin .lss (.tmp 41) (.tmp 40))] [] (.seq (.cond (.tmp 42) .skip (.exit 2)) (.seq (.block 3 (sq [mo 43 (.indexAddr 1 (.tmp 39) (.tmp 41)),ml 44 43,mw 12 44] [42,43,44] (rg [mt 45 10,mt 46 12,
 mo 47 (.call n_6 [.tmp 45,.tmp 46,(ci 0)])] [12,45,46,47]))) (rg [mo 48 (.bin .add (.tmp 41) (ci 1)),mw 41 48] [48]))))
def iV:ACode:=(sq [mo 26 (.bin .lss (.tmp 25) (.tmp 24))] [] (.seq (.cond (.tmp 26) .skip (.exit 0)) (.seq (.block 1 (sq [mo 27 (.indexAddr 8 (.tmp 23) (.tmp 25)),mo 28 (.load (some 8) false (.tmp 27)),
 mo 9 (.alloc [.str [],.int .i64 0,.int .i64 0,.int .i64 0,.int .i64 0,.int .i64 0,.str [],.nils]),⟨none,.store 8 (.tmp 9) (.mv 28),none⟩] [26,27,28] (sq [mf 29 0 9,ml 30 29,mf 31 3 9,ml 32 31,mf 33 1 9,ml 34 33,
 mo 35 (.build [.str [],.int .i64 0,.int .i64 0,.str []] [(0,1,(.const (.str [80,65,67,75]))),(3,1,(.tmp 30)),(1,1,(.tmp 32)),(2,1,(.tmp 34))]),mo 36 (.buildA k_1 [.tmp 35]),mo 37 (.build [.nils,.nilmap] [(0,1,(.tmp 36))]),mo 38 (.gbox Pg (.tmp 37)),
 mw 10 38] [29,30,31,32,33,34,35,36,37,38] (.seq (sq [mo 39 (.buildSlice k_0 [(.const (.str [85,80,68,65,84,69])),(.const (.str [80,79,80])),(.const (.str [85,78,87,73,78,68]))]),mo 40 (.len (.tmp 39)),mo 41 (.mov (ci 0))] [] (.block 2 (.loop iU)))
 (.frz [.obj 10]  (.region [mw 49 7,mf 50 0 9,mo 51 (.loadB 9 none (.tmp 50)),mf 52 3 9,mo 53 (.loadB 9 none (.tmp 52)),mt 54 10,mo 55 (.nilCheck (.tmp 54)),mf 56 0 55,mo 57 (.loadP none (.tmp 56)),
 mo 58 (.build [.str [],.int .i64 0,.nils] [(0,1,(.tmp 51)),(1,1,(.tmp 53)),(2,1,(.tmp 57))]),mo 59 (.buildSlice pA [.tmp 58]),mo 60 (.append pA 48 (.mv 49) (.tmp 59)),
 mw 7 60] (some [0,1,2,3,4,5,6,7,8,9,10,11,12]) [9,10,39,40,41,42,49,50,51,52,53,54,55,56,57,58,59,60])))))) (rg [mo 61 (.bin .add (.tmp 25) (ci 1)),mw 25 61] [61]))))
def hZ:ACode:=(sq [mo 72 (.bin .lss (.tmp 71) (.tmp 70))] [] (.seq (.cond (.tmp 72) .skip (.exit 6)) (.seq (.block 7 (sq [mo 73 (.indexAddr 12 (.tmp 69) (.tmp 71)),mo 74 (.load (some 12) false (.tmp 73)),
 mo 16 (.alloc [.str [],.nils,.int .i64 0,.int .i64 0,.str [],.int .i64 0,.int .i64 0,.str [],.nils,.nils,.nils,.nils]),⟨none,.store 12 (.tmp 16) (.mv 74),none⟩] [72,73,74] (rg [mw 75 7,mo 76 (.load (some 12) false (.tmp 16)),mo 77 (.call Le [.tmp 76]),
 mo 78 (.buildSlice pA [.tmp 77]),mo 79 (.append pA 48 (.mv 75) (.tmp 78)),mw 7 79] [16,75,76,77,78,79]))) (rg [mo 80 (.bin .add (.tmp 71) (ci 1)),mw 71 80] [80]))))
def iW:ACode:=(sq [mo 65 (.bin .lss (.tmp 64) (.tmp 63))] [] (.seq (.cond (.tmp 65) .skip (.exit 4)) (.seq (.block 5 (sq [mo 66 (.indexAddr 12 (.tmp 62) (.tmp 64)),mo 67 (.load (some 12) false (.tmp 66)),
 mo 14 (.alloc [.str [],.nils,.int .i64 0,.int .i64 0,.str [],.int .i64 0,.int .i64 0,.str [],.nils,.nils,.nils,.nils]),⟨none,.store 12 (.tmp 14) (.mv 67),none⟩] [65,66,67] (sq [mo 68 (.load (some 12) false (.tmp 14)),mo 69 (.call uE [.tmp 68]),mo 70 (.len (.tmp 69)),
 mo 71 (.mov (ci 0))] [14,68] (.block 6 (.loop hZ))))) (rg [mo 81 (.bin .add (.tmp 64) (ci 1)),mw 64 81] [69,70,71,72,81]))))
def fZ:ACode:=(sq [mo 90 (.bin .lss (.tmp 89) (.tmp 88))] [] (.seq (.cond (.tmp 90) .skip (.exit 0)) (.seq (.block 1 (sq [mt 91 89,mo 92 (.indexAddr 15 (.tmp 87) (.tmp 89)),mo 93 (.load (some 15) false (.tmp 92)),
 mo 12 (.alloc [.str [],.int .i64 0,.int .i64 0,.str [],.nils,.int .i64 0,.int .i64 0,.str [],.int .i64 0,.int .i64 0,.str [],.nils,.nils,.nils,.nils]),mw 11 91,⟨none,.store 15 (.tmp 12) (.mv 93),none⟩] [90,91,92,93] (.region [mf 94 8 5,mo 95 (.loadB 5 none (.tmp 94)),
 mt 96 11,mt 97 0,mo 98 (.fieldAddr 5 (some 10) (.tmp 12)),mo 99 (.loadB 12 (some 10) (.tmp 98)),mt 100 3,mo 101 (.call sY [.tmp 97,.tmp 99,(.const (.bool true)),.tmp 100]),mo 102 (.indexAddr 15 (.tmp 95) (.tmp 96)),mo 103 (.fieldAddr 5 (some 10) (.tmp 102)),
 ⟨none,.storeP 10 (.tmp 103) (.tmp 101),none⟩] (some [0,1,2,3,4,5,6,7,8,9,10]) [11,12,94,95,96,97,98,99,100,101,102,103]))) (rg [mo 104 (.bin .add (.tmp 89) (ci 1)),mw 89 104] [104]))))
def eQ:ACode:=(sq [mo 109 (.bin .lss (.tmp 108) (.tmp 107))] [] (.seq (.cond (.tmp 109) .skip (.exit 2)) (.seq (.block 3 (sq [mt 110 108,mo 111 (.indexAddr 10 (.tmp 106) (.tmp 108)),mo 112 (.load (some 10) false (.tmp 111)),
 mo 14 (.alloc [.int .i64 0,.int .i64 0,.str [],.int .i64 0,.int .i64 0,.str [],.nils,.nils,.nils,.nils]),mw 13 110,⟨none,.store 10 (.tmp 14) (.mv 112),none⟩] [109,110,111,112] (.region [mf 113 7 5,mo 114 (.loadB 5 none (.tmp 113)),mt 115 13,mt 116 0,
 mo 117 (.loadB 14 (some 10) (.tmp 14)),mf 118 0 5,mo 119 (.loadB 5 none (.tmp 118)),mo 120 (.bin .eql (.tmp 119) (ci 4)),mw 121 120,⟨some 122,.mov (.tmp 2),(some (121,false))⟩,mo 123 (.pick (.tmp 121) (.const (.bool true)) (.tmp 122)),mt 124 3,
 mo 125 (.call sY [.tmp 116,.tmp 117,.tmp 123,.tmp 124]),mo 126 (.indexAddr 10 (.tmp 114) (.tmp 115)),
 ⟨none,.storeP 10 (.tmp 126) (.tmp 125),none⟩] (some [0,1,2,3,4,5,6,7,8,9,10,11,12,13,14]) [13,14,113,114,115,116,117,118,119,120,121,122,123,124,125,126]))) (rg [mo 127 (.bin .add (.tmp 108) (ci 1)),mw 108 127] [127]))))
def gC:ACode:=(sq [mo 132 (.bin .lss (.tmp 131) (.tmp 130))] [] (.seq (.cond (.tmp 132) .skip (.exit 4)) (.seq (.block 5 (sq [mt 133 131,mo 134 (.indexAddr 14 (.tmp 129) (.tmp 131)),mo 135 (.load (some 14) false (.tmp 134)),
 mo 16 (.alloc [.int .i64 0,.int .i64 0,.str [],.nils,.int .i64 0,.int .i64 0,.str [],.int .i64 0,.int .i64 0,.str [],.nils,.nils,.nils,.nils]),mw 15 133,⟨none,.store 14 (.tmp 16) (.mv 135),none⟩] [132,133,134,135] (.region [mf 136 9 5,mo 137 (.loadB 5 none (.tmp 136)),
 mt 138 15,mt 139 0,mo 140 (.fieldAddr 4 (some 10) (.tmp 16)),mo 141 (.loadB 16 (some 10) (.tmp 140)),mt 142 3,mf 143 3 16,mo 144 (.loadB 16 none (.tmp 143)),mo 145 (.buildSlice wE [.tmp 142,.tmp 144]),mo 146 (.call nX [.tmp 145]),
 mo 147 (.call sY [.tmp 139,.tmp 141,(.const (.bool false)),.tmp 146]),mo 148 (.indexAddr 14 (.tmp 137) (.tmp 138)),mo 149 (.fieldAddr 4 (some 10) (.tmp 148)),
 ⟨none,.storeP 10 (.tmp 149) (.tmp 147),none⟩] (some [0,1,2,3,4,5,6,7,8,9,10,11,12,13,14]) [15,16,136,137,138,139,140,141,142,143,144,145,146,147,148,149]))) (rg [mo 150 (.bin .add (.tmp 131) (ci 1)),mw 131 150] [150]))))
def eS:ACode:=(sq [mo 12 (.bin .lss (.tmp 11) (.tmp 10))] [] (.seq (.cond (.tmp 12) .skip (.exit 0)) (.seq (.block 1 (sq [mo 13 (.indexAddr 1 (.tmp 9) (.tmp 11)),ml 14 13,mw 5 14] [12,13,14] (sq [mt 15 3,mt 16 5,mo 17 (.len (.tmp 16)),
 mo 18 (.bin .add (.tmp 15) (.tmp 17)),mw 3 18] [5,15,16,17,18] (sq [mt 19 3,mo 20 (.bin .lss (.tmp 19) (ci 0))] [19] (.cond (.tmp 20) (rg [mo 21 (.mkIface Ye (.const (.str [108,101,110,32,111,117,116,32,111,102,32,114,97,110,103,101]))),
 ⟨none,.panic (.tmp 21),none⟩] [20,21]) .skip))))) (rg [mo 22 (.bin .add (.tmp 11) (ci 1)),mw 11 22] [20,22]))))
def dV:ACode:=(sq [mo 28 (.bin .lss (.tmp 27) (.tmp 26))] [] (.seq (.cond (.tmp 28) .skip (.exit 2)) (.seq (.block 3 (sq [mo 29 (.indexAddr 1 (.tmp 25) (.tmp 27)),ml 30 29,mw 8 30] [28,29,30] (rg [mw 31 6,mt 32 8,mo 33 (.appendA k_0 16 (.mv 31) (.tmp 32)),
 mw 6 33] [8,31,32,33]))) (rg [mo 34 (.bin .add (.tmp 27) (ci 1)),mw 27 34] [34]))))
def kN:AFun:={nargs:=2,ntmps:=83,res:=[.tmp 4,.tmp 5],gc:=false,body:=(sq [mo 4 (.mov (.const .nils)),mo 5 (.mov (ci 0))] [4,5] (.seq (sq [mt 17 0,mt 18 1,mo 19 (.call zez [.tmp 17,.tmp 18]),mw 6 19] [17,18,19] (sq [mt 20 6,
 mo 21 (.bin .neq (.tmp 20) (ci 0))] [20] (.cond (.tmp 21) (sq [mw 22 6,mo 4 (.mov (.const .nils)),mw 5 22] [0,1,6,21,22] .ret) .skip))) (sq [mo 7 (.mov (.const .nils))] [6,21] (.seq (sq [mt 23 0,mo 24 (.len (.tmp 23)),mo 25 (.mov (ci 0))] [0] (.block 0 (.loop iV))) (.seq
 (sq [mt 62 1,mo 63 (.len (.tmp 62)),mo 64 (.mov (ci 0))] [1,23,24,25,26] (.block 4 (.loop iW))) (sq [mw 82 7,mw 4 82,mo 5 (.mov (ci 0))] [7,62,63,64,65,82] .ret))))))}
def sR:AFun:={nargs:=1,ntmps:=26,res:=[.cell 2 (some 3)],gc:=false,body:=(sq [mo 1 (.gbox zpl (.tmp 0)),mo 2 (.alloc [.str [],.int .i64 0,.nils])] [0] (sq [mo 5 (.makeMap),mo 6 (.build [.nils,.nilmap] [(1,1,(.tmp 5))]),
 mo 7 (.gbox Pg (.tmp 6)),mo 3 (.galloc uP [.nilp]),⟨none,.store 1 (.tmp 3) (.mv 7),none⟩] [5,6,7] (sq [mf 8 1 1,ml 9 8,mo 10 (.call wG [.tmp 9]),mo 4 (.galloc t_8 [.nils]),⟨none,.store 1 (.tmp 4) (.mv 10),none⟩] [8,9,10] (sq [ml 11 4,
 mo 12 (.call Oy [.tmp 11])] [11,12] (sq [ml 13 3,ml 14 4,mo 15 (.mkFunc (.func Vv) [] [.tmp 3,.tmp 1,.tmp 4]),mo 16 (.call Oo [.tmp 13,.tmp 14,(ci 0),.tmp 15])] [13,14,15,16] (.seq (.region [mf 17 0 1,mo 18 (.loadP none (.tmp 17)),
 mo 19 (.loadP none (.tmp 4)),mo 20 (.len (.tmp 19)),mo 21 (.loadP none (.tmp 3)),mo 22 (.nilCheck (.tmp 21)),mf 23 0 22,mo 24 (.loadP none (.tmp 23)),mo 25 (.build [.str [],.int .i64 0,.nils] [(0,1,(.tmp 18)),(1,1,(.tmp 20)),(2,1,(.tmp 24))]),
 ⟨none,.storeB 2 3 (.tmp 2) (.mv 25),none⟩] (some [0,1,2,3,4,5,6,7,8,9]) [1,3,4,17,18,19,20,21,22,23,24,25]) (.frz [.box 2] .ret)))))))}
def pR:AFun:={nargs:=2,ntmps:=22,res:=[.tmp 4],gc:=false,body:=(sq [mo 2 (.gbox uP (.tmp 0)),mo 3 (.box (.tmp 1)),mo 4 (.mov (.const (.nilfn)))] [0,1,4] (sq [ml 6 2,mo 7 (.nilCheck (.tmp 6)),mf 8 0 7,ml 9 8,mo 10 (.len (.tmp 9)),
 mo 5 (.galloc tL [.int .i64 0]),⟨none,.store 1 (.tmp 5) (.mv 10),none⟩] [6,7,8,9,10] (.seq (.region [mo 11 (.loadP none (.tmp 2)),mo 12 (.loadP none (.tmp 2)),mo 13 (.nilCheck (.tmp 12)),mf 14 0 13,mo 15 (.loadP none (.tmp 14)),mo 16 (.loadB 3 (some 4) (.tmp 3)),
 mo 17 (.buildSlice k_1 [.tmp 16]),mo 18 (.appendW [2] k_1 48 (.mv 15) (.tmp 17)),mo 19 (.nilCheck (.tmp 11)),mf 20 0 19,⟨none,.storeP 1 (.tmp 20) (.tmp 18),none⟩] (some [0,1,2,3,4,5,6,7,8,9,10]) [3,11,12,13,14,15,16,17,18,19,20]) (sq [
 mo 21 (.mkFunc (.func Om) [] [.tmp 2,.tmp 5]),mw 4 21] [2,5,21] .ret))))}
def bL:AFun:={nargs:=3,ntmps:=90,res:=[],gc:=false,body:=(sq [mo 4 (.box (.tmp 1))] [1] (.seq (.region [mt 9 0,mo 10 (.nilCheck (.tmp 9)),mf 11 1 10,mo 12 (.loadP none (.tmp 11)),mf 13 2 4,mo 14 (.loadB 4 none (.tmp 13)),
 mo 15 (.lookup true (.int .i64 0) true (.tmp 12) (.tmp 14)),mw 8 15,mo 16 (.extract (.tmp 8) 0),mo 17 (.extract (.tmp 8) 1),mw 6 16,mw 7 17] (some [0,1,2,3,4,5,6,7,8,9,10,11]) [8,9,10,11,12,13,14,15,16,17]) (.block 0 (sq [mf 30 0 4,ml 31 30,
 mo 32 (.bin .eql (.tmp 31) (ci 1)),mw 33 32,⟨some 34,.mov (.tmp 7),(some (33,true))⟩,mo 35 (.pick (.tmp 33) (.tmp 34) (.const (.bool false))),mw 29 35] [7,30,31,32,33,34,35] (.cond (.tmp 29) (rg [mt 36 0,mt 37 2,mo 38 (.bin .sub (.tmp 37) (ci 1)),mt 39 6,
 mo 40 (.bin .sub (.tmp 38) (.tmp 39)),mo 41 (.call n_6 [.tmp 36,(.const (.str [80,85,83,72,65])),.tmp 40])] [0,2,4,6,29,36,37,38,39,40,41]) (.seq (sq [mf 43 0 4,ml 44 43,mo 45 (.bin .eql (.tmp 44) (ci 1)),mw 42 45] [6,29,43,44,45] (.cond (.tmp 42) .skip (rg [
 mf 46 0 4,ml 47 46,mo 48 (.bin .eql (.tmp 47) (ci 2)),mw 42 48] [46,47,48]))) (.cond (.tmp 42) (.region [mt 49 0,mt 50 0,mo 51 (.nilCheck (.tmp 50)),mf 52 0 51,mo 53 (.loadP none (.tmp 52)),mf 54 2 4,mo 55 (.loadB 4 none (.tmp 54)),
 mo 56 (.build [.str [],.int .i64 0,.int .i64 0,.str []] [(0,1,(.const (.str [80,85,83,72,71]))),(3,1,(.tmp 55))]),mo 57 (.buildSlice k_1 [.tmp 56]),mo 58 (.appendA k_1 48 (.mv 53) (.tmp 57)),mo 59 (.nilCheck (.tmp 49)),mf 60 0 59,
 ⟨none,.storeP 1 (.tmp 60) (.tmp 58),none⟩] (some [0,1,2,3,4,5,6,7,8,9,10,11,12]) [0,2,4,42,49,50,51,52,53,54,55,56,57,58,59,60]) (sq [mf 62 0 4,ml 63 62,mo 64 (.bin .eql (.tmp 63) (ci 3)),mw 61 64] [42,62,63,64] (.cond (.tmp 61) (rg [mt 65 0,mf 66 1 4,ml 67 66,
 mo 68 (.call n_6 [.tmp 65,(.const (.str [80,85,83,72,73])),.tmp 67])] [0,2,4,61,65,66,67,68]) (sq [mf 70 0 4,ml 71 70,mo 72 (.bin .eql (.tmp 71) (ci 4)),mw 69 72] [61,70,71,72] (.cond (.tmp 69) (sq [mt 73 0,mf 74 7 4,ml 75 74,
 mo 76 (.indexAddr 10 (.tmp 75) (ci 1)),mo 77 (.load (some 10) false (.tmp 76)),mt 78 2,mo 79 (.call pZ [.tmp 73,.tmp 77,.tmp 78])] [69,73,74,75,76,77,78,79] (sq [mt 80 0,mf 81 7 4,ml 82 81,mo 83 (.indexAddr 10 (.tmp 82) (ci 0)),
 mo 84 (.load (some 10) false (.tmp 83)),mt 85 2,mo 86 (.bin .add (.tmp 85) (ci 1)),mo 87 (.call pZ [.tmp 80,.tmp 84,.tmp 86])] [2,4,80,81,82,83,84,85,86,87] (rg [mt 88 0,
 mo 89 (.call n_6 [.tmp 88,(.const (.str [77,75,65,80])),(ci 0)])] [0,88,89]))) (sq [mt 18 0,mo 19 (.load (some 10) false (.tmp 4)),mt 20 2,mt 21 0,mo 22 (.mkFunc (.func pZ) [.tmp 21] []),
 mo 23 (.call Vw [.tmp 18,.tmp 19,.tmp 20,.tmp 22])] [2,18,19,20,21,22,23,69] (rg [mt 24 0,mf 25 8 4,ml 26 25,mo 27 (.len (.tmp 26)),mo 28 (.call n_6 [.tmp 24,(.const (.str [83,76,73,68,69])),.tmp 27])] [0,4,24,25,26,27,28])))))))))))))}
def qQ:AFun:={nargs:=3,ntmps:=18,res:=[],gc:=false,body:=(rg [mt 6 0,mt 7 0,mo 8 (.nilCheck (.tmp 7)),mf 9 0 8,ml 10 9,mt 11 1,mt 12 2,mo 13 (.build [.str [],.int .i64 0,.int .i64 0,.str []] [(0,1,(.tmp 11)),(1,1,(.tmp 12))]),
 mo 14 (.buildSlice k_1 [.tmp 13]),mo 15 (.appendA k_1 48 (.mv 10) (.tmp 14)),mo 16 (.nilCheck (.tmp 6)),mf 17 0 16,⟨none,.store 1 (.tmp 17) (.mv 15),none⟩] [0,1,2,6,7,8,9,10,11,12,13,14,15,16,17])}
def fY:AFun:={nargs:=3,ntmps:=18,res:=[],gc:=false,body:=(sq [mo 3 (.box (.tmp 0))] [0] (.seq (sq [mf 4 0 3,ml 5 4,mo 6 (.bin .eql (.tmp 5) (ci 1))] [4,5] (.cond (.tmp 6) (rg [ml 7 1,mf 8 3 3,ml 9 8,mo 10 (.len (.tmp 9)),
 mo 11 (.call n_6 [.tmp 7,(.const (.str [83,76,73,68,69])),.tmp 10])] [3,6,7,8,9,10,11]) .skip)) (.region [mo 12 (.loadP none (.tmp 2)),mo 13 (.loadP none (.tmp 1)),mo 14 (.build [.str [],.int .i64 0,.int .i64 0,.str []] [(0,1,(.const (.str [74,85,77,80])))]),
 mo 15 (.callW [2] Lh [.tmp 13,.tmp 14]),mo 16 (.buildSlice dK [.tmp 15]),mo 17 (.appendA dK 8 (.mv 12) (.tmp 16)),⟨none,.storeP 1 (.tmp 2) (.tmp 17),none⟩] (some [0,1,2,3,4,5,6]) [1,2,3,6,12,13,14,15,16,17])))}
def eE:AFun:={nargs:=4,ntmps:=152,res:=[.cell 8 (some 10)],gc:=false,body:=(sq [mo 5 (.box (.tmp 1)),mo 8 (.alloc [.int .i64 0,.int .i64 0,.str [],.int .i64 0,.int .i64 0,.str [],.nils,.nils,.nils,.nils])] [1] (.seq (sq [mt 17 2,mw 18 17,
 ⟨some 19,.fieldAddr 0 none (.tmp 5),(some (18,true))⟩,⟨some 20,.load none false (.tmp 19),(some (18,true))⟩,⟨some 21,.bin .eql (.tmp 20) (ci 9),(some (18,true))⟩,⟨some 22,.mov (.mv 21),(some (18,true))⟩,⟨some 23,.fieldAddr 0 none (.tmp 5),(some (22,false))⟩,
 ⟨some 24,.load none false (.tmp 23),(some (22,false))⟩,⟨some 25,.bin .eql (.tmp 24) (ci 10),(some (22,false))⟩,⟨some 26,.pick (.tmp 22) (.const (.bool true)) (.tmp 25),(some (18,true))⟩,⟨some 27,.mov (.mv 26),(some (18,true))⟩,
 ⟨some 28,.fieldAddr 0 none (.tmp 5),(some (27,false))⟩,⟨some 29,.load none false (.tmp 28),(some (27,false))⟩,⟨some 30,.bin .eql (.tmp 29) (ci 11),(some (27,false))⟩,⟨some 31,.pick (.tmp 27) (.const (.bool true)) (.tmp 30),(some (18,true))⟩,
 mo 32 (.pick (.tmp 18) (.tmp 31) (.const (.bool false)))] [17,18,19,20,21,22,23,24,25,26,27,28,29,30,31] (.cond (.tmp 32) (sq [mo 33 (.load (some 10) false (.tmp 5)),mt 34 3,mo 35 (.call Oq [.tmp 33,.tmp 34]),mw 9 35] [2,3,32,33,34,35] (.seq (.region [
 mo 10 (.allocN 10 [.str [],.nils,.int .i64 0,.int .i64 0,.str [],.int .i64 0,.int .i64 0,.str [],.nils,.nils,.nils,.nils]),mt 36 0,mo 37 (.nilCheck (.tmp 36)),mf 38 0 37,mo 39 (.loadP none (.tmp 38)),mo 40 (.bin .add (.tmp 39) (.const (.str [37]))),mt 41 0,
 mo 42 (.nilCheck (.tmp 41)),mf 43 1 42,mo 44 (.loadP none (.tmp 43)),mo 45 (.len (.tmp 44)),mo 46 (.bin .add (.tmp 45) (ci 1)),mt 49 9,mo 50 (.loadB 5 (some 10) (.tmp 5)),mo 47 (.callW [38] rQ [.tmp 46]),mo 48 (.bin .add (.tmp 40) (.tmp 47)),
 mo 51 (.build [.str [],.nils,.int .i64 0,.int .i64 0,.str [],.int .i64 0,.int .i64 0,.str [],.nils,.nils,.nils,.nils] [(0,1,(.tmp 48)),(1,1,(.tmp 49)),(2,10,(.tmp 50))]),
 ⟨none,.storeB 10 12 (.tmp 10) (.mv 51),none⟩] (some [16,0,1,2,3,4,5,6,7,8,9,10,13,14,11,12,15,17]) [5,36,37,38,39,40,41,42,43,44,45,46,47,48,49,50,51]) (.seq (.region [mt 52 0,mt 53 0,mo 54 (.nilCheck (.tmp 53)),mf 55 1 54,mo 56 (.loadP none (.tmp 55)),
 mo 57 (.loadB 10 (some 12) (.tmp 10)),mo 58 (.buildSlice k_5 [.tmp 57]),mo 59 (.appendA k_5 200 (.mv 56) (.tmp 58)),mo 60 (.nilCheck (.tmp 52)),mf 61 1 60,
 ⟨none,.storeP 1 (.tmp 61) (.tmp 59),none⟩] (some [0,1,2,3,4,5,6,7,8,9,10]) [0,52,53,54,55,56,57,58,59,60,61]) (sq [mf 62 0 10,ml 63 62,mo 64 (.call Gl [.tmp 63]),mw 65 9,mo 66 (.call Ot [.tmp 65]),mo 67 (.call zag [.tmp 64,.tmp 66]),
 ⟨none,.store 10 (.tmp 8) (.mv 67),none⟩] [9,10,62,63,64,65,66,67] .ret)))) .skip)) (.seq (.region [mf 68 8 5,mo 69 (.loadB 5 none (.tmp 68)),mf 71 7 5,mo 72 (.loadB 5 none (.tmp 71)),mf 74 9 5,mo 75 (.loadB 5 none (.tmp 74)),mo 70 (.call Gp [.tmp 69]),mf 77 8 5,
 mo 73 (.call Gq [.tmp 72]),mo 76 (.call Gn [.tmp 75]),⟨none,.storeB 5 1 (.tmp 77) (.mv 70),none⟩,mf 78 7 5,⟨none,.storeB 5 1 (.tmp 78) (.mv 73),none⟩,mf 79 9 5,
 ⟨none,.storeB 5 1 (.tmp 79) (.mv 76),none⟩] (some [0,1,3,4,6,7,2,9,5,8,10,11,12,13,14]) [32,68,69,70,71,72,73,74,75,76,77,78,79]) (sq [mt 80 3,mf 81 8 5,ml 82 81,mo 83 (.call rO [.tmp 82,(.const (.fn (.func n_9) [] []))]),
 mo 84 (.buildSlice wE [.tmp 80,.tmp 83]),mo 85 (.call nX [.tmp 84]),mw 3 85] [80,81,82,83,84,85] (.seq (sq [mf 86 8 5,ml 87 86,mo 88 (.len (.tmp 87)),mo 89 (.mov (ci 0))] [86] (.block 0 (.loop fZ))) (.seq (sq [mf 105 7 5,ml 106 105,
 mo 107 (.len (.tmp 106)),mo 108 (.mov (ci 0))] [87,88,89,90,105] (.block 2 (.loop eQ))) (.seq (sq [mf 128 9 5,ml 129 128,mo 130 (.len (.tmp 129)),mo 131 (.mov (ci 0))] [2,106,107,108,109,128] (.block 4 (.loop gC))) (sq [
 mo 151 (.load (some 10) true (.tmp 5)),⟨none,.store 10 (.tmp 8) (.mv 151),none⟩] [0,3,5,129,130,131,132,151] (.frz [.box 8] .ret)))))))))}
def dX:AFun:={nargs:=1,ntmps:=8,res:=[.tmp 2],gc:=false,body:=(sq [mo 2 (.mov (.const .nils))] [2] (.seq (sq [mt 3 0,mo 4 (.isNilS .eql (.tmp 3))] [3] (.cond (.tmp 4) (sq [mo 2 (.mov (.const .nils))] [0,4] .ret) .skip)) (sq [mo 5 (.buildA k_4 []),
 mw 6 0,mo 7 (.appendA k_4 216 (.mv 5) (.tmp 6)),mw 2 7] [0,4,5,6,7] .ret)))}
def cX:AFun:={nargs:=1,ntmps:=8,res:=[.tmp 2],gc:=false,body:=(sq [mo 2 (.mov (.const .nils))] [2] (.seq (sq [mt 3 0,mo 4 (.isNilS .eql (.tmp 3))] [3] (.cond (.tmp 4) (sq [mo 2 (.mov (.const .nils))] [0,4] .ret) .skip)) (sq [mo 5 (.buildA k_3 []),
 mw 6 0,mo 7 (.appendA k_3 232 (.mv 5) (.tmp 6)),mw 2 7] [0,4,5,6,7] .ret)))}
def dP:AFun:={nargs:=1,ntmps:=8,res:=[.tmp 2],gc:=false,body:=(sq [mo 2 (.mov (.const .nils))] [2] (.seq (sq [mt 3 0,mo 4 (.isNilS .eql (.tmp 3))] [3] (.cond (.tmp 4) (sq [mo 2 (.mov (.const .nils))] [0,4] .ret) .skip)) (sq [mo 5 (.buildA k_2 []),
 mw 6 0,mo 7 (.appendA k_2 160 (.mv 5) (.tmp 6)),mw 2 7] [0,4,5,6,7] .ret)))}
def gG:AFun:={nargs:=1,ntmps:=36,res:=[.tmp 2],gc:=true,body:=(sq [mo 2 (.mov (.const .nils))] [2] (sq [mo 3 (.mov (ci 0))] [] (.seq (sq [mt 9 0,mo 10 (.len (.tmp 9)),mo 11 (.mov (ci 0))] [] (.block 0 (.loop eS))) (sq [mt 23 3,
 mo 24 (.call zoe [(.const .nils),.tmp 23]),mw 6 24] [3,9,10,11,12,23,24] (.seq (sq [mt 25 0,mo 26 (.len (.tmp 25)),mo 27 (.mov (ci 0))] [0] (.block 2 (.loop dV))) (sq [mw 35 6,mw 2 35] [6,25,26,27,28,35] (.frz [.slot 2] .ret)))))))}
theorem Iw:aO Go.Proofs.Tryz.prog Go.Proofs.Tryz.f49 qQ=true:=by kernel_rfl
theorem Hh:aO Go.Proofs.Tryz.prog Go.Proofs.Tryz.f155 pR=true:=by kernel_rfl
theorem Hi:aO Go.Proofs.Tryz.prog Go.Proofs.Tryz.f141 bL=true:=by kernel_rfl
theorem yY:aO Go.Proofs.Tryz.prog Go.Proofs.Tryz.f157 fY=true:=by kernel_rfl
theorem Dq:aO Go.Proofs.Tryz.prog Go.Proofs.Tryz.f101 eE=true:=by kernel_rfl
theorem Bq:aO Go.Proofs.Tryz.prog Go.Proofs.Tryz.f131 cX=true:=by kernel_rfl
theorem Dt:aO Go.Proofs.Tryz.prog Go.Proofs.Tryz.f132 dP=true:=by kernel_rfl
theorem Hj:aO Go.Proofs.Tryz.prog Go.Proofs.Tryz.f133 dX=true:=by kernel_rfl
theorem yZ:aO Go.Proofs.Tryz.prog Go.Proofs.Tryz.f98 gG=true:=by kernel_rfl
theorem zaq:aO Go.Proofs.Tryz.prog Go.Proofs.Tryz.f51 sR=true:=by kernel_rfl
theorem Pv:aO Go.Proofs.Tryz.prog Go.Proofs.Tryz.f19 kN=true:=by kernel_rfl
end Go.Fu
namespace Go.Fu
open Go Go.Mx
def zxf:RowK:=⟨227,1,false⟩
def zep:RowK:=⟨219,2,true⟩
def yB:ACode:=(sq [mo 18 (.bin .lss (.tmp 17) (.tmp 16))] [] (.seq (.cond (.tmp 18) .skip (.exit 0)) .stuck))
def yC:ACode:=(sq [mo 51 (.bin .lss (.tmp 50) (.tmp 49))] [] (.seq (.cond (.tmp 51) .skip (.exit 2)) .stuck))
def yD:ACode:=(sq [mo 84 (.bin .lss (.tmp 83) (.tmp 82))] [] (.seq (.cond (.tmp 84) .skip (.exit 4)) .stuck))
def qZ:AFun:={nargs:=1,ntmps:=123,res:=[.tmp 2],gc:=false,body:=(sq [mo 2 (.mov (.const .nils))] [2] (sq [mo 3 (.alloc [.nils,.nils])] [] (.seq (sq [mt 12 0,mo 13 (.nilCheck (.tmp 12)),mf 14 7 13,ml 15 14,mo 16 (.len (.tmp 15)),
 mo 17 (.mov (ci 0))] [12,13,14,15] (.block 0 (.loop yB))) (.seq (sq [mt 32 0,mo 33 (.nilCheck (.tmp 32)),mf 34 0 33,ml 35 34,mo 36 (.bin .eql (.tmp 35) (ci 5))] [16,17,18,32,33,34,35] (.cond (.tmp 36) (.region [mf 37 0 3,mo 38 (.loadL none true (.tmp 37)),mt 39 0,
 mo 40 (.nilCheck (.tmp 39)),mf 41 2 40,mo 42 (.buildSlice zxf [.tmp 41]),mo 43 (.append zxf 8 (.mv 38) (.tmp 42)),mf 44 0 3,⟨none,.storeB 3 1 (.tmp 44) (.mv 43),none⟩] (some [0,1,2,3,4,5,6,7,8]) [36,37,38,39,40,41,42,43,44]) .skip)) (.seq (sq [mt 45 0,
 mo 46 (.nilCheck (.tmp 45)),mf 47 8 46,ml 48 47,mo 49 (.len (.tmp 48)),mo 50 (.mov (ci 0))] [36,45,46,47,48] (.block 2 (.loop yC))) (sq [mo 76 (.load (some 2) false (.tmp 3)),mo 77 (.buildSlice zep [.tmp 76]),mw 7 77] [3,49,50,51,76,77] (.seq (sq [mt 78 0,
 mo 79 (.nilCheck (.tmp 78)),mf 80 9 79,ml 81 80,mo 82 (.len (.tmp 81)),mo 83 (.mov (ci 0))] [78,79,80,81] (.block 4 (.loop yD))) (sq [mw 122 7,mw 2 122] [0,7,82,83,84,122] .ret))))))))}
theorem Wx:aO Go.Proofs.Tryz.prog Go.Proofs.Tryz.f175 qZ=true:=by kernel_rfl
end Go.Fu
namespace Go.Proofs
open Go.Shelf
def Tryz.lays190_ren:Go.Shelf.Ren:=⟨fun | 190=>120 | 125=>149 | 258=>148 | 128=>173 | 129=>160 | 302=>164 | 303=>165 | 304=>166 | 305=>167 | 306=>168 | 307=>169 | 308=>170 | 309=>171 | 310=>172 | 333=>179 | 329=>180 | 330=>181 | 334=>182 | 335=>183 | 336=>184 | 344=>186 | n=>n,fun | 31=>39 | 9=>9 | 3=>3 | 46=>191 | 0=>0 | 51=>200 | 53=>183 | 4=>4 | 183=>205 | 182=>204 | 131=>196 | 5=>5 | 218=>220 | 222=>224 | 228=>232 | 229=>233 | n=>n,fun | n=>n⟩
theorem Tryz.lays190:Go.Proofs.Lays.n190 Tryz.prog Tryz.lays190_ren:={
 mixed:=by kernel_rfl
 f125:=Tryz.func149.trans (congrArg some (by kernel_rfl))
 f128:=Tryz.func173.trans (congrArg some (by kernel_rfl))
 f129:=Tryz.func160.trans (congrArg some (by kernel_rfl))
 f190:=Tryz.func120.trans (congrArg some (by kernel_rfl))
 f258:=Tryz.func148.trans (congrArg some (by kernel_rfl))
 f302:=Tryz.func164.trans (congrArg some (by kernel_rfl))
 f303:=Tryz.func165.trans (congrArg some (by kernel_rfl))
 f304:=Tryz.func166.trans (congrArg some (by kernel_rfl))
 f305:=Tryz.func167.trans (congrArg some (by kernel_rfl))
 f306:=Tryz.func168.trans (congrArg some (by kernel_rfl))
 f307:=Tryz.func169.trans (congrArg some (by kernel_rfl))
 f308:=Tryz.func170.trans (congrArg some (by kernel_rfl))
 f309:=Tryz.func171.trans (congrArg some (by kernel_rfl))
 f310:=Tryz.func172.trans (congrArg some (by kernel_rfl))
 f329:=Tryz.func180.trans (congrArg some (by kernel_rfl))
 f330:=Tryz.func181.trans (congrArg some (by kernel_rfl))
 f333:=Tryz.func179.trans (congrArg some (by kernel_rfl))
 f334:=Tryz.func182.trans (congrArg some (by kernel_rfl))
 f335:=Tryz.func183.trans (congrArg some (by kernel_rfl))
 f336:=Tryz.func184.trans (congrArg some (by kernel_rfl))
 f344:=Tryz.func186.trans (congrArg some (by kernel_rfl))
 t0:=Tryz.underlying0
 a0:=Tryz.isAgg0
 z0:=Tryz.sizeOf0
 v0:=Tryz.zeroValue0
 t3:=Tryz.underlying3
 a3:=Tryz.isAgg3
 z3:=Tryz.sizeOf3
 v3:=Tryz.zeroValue3
 t4:=Tryz.underlying4
 a4:=Tryz.isAgg4
 z4:=Tryz.sizeOf4
 v4:=Tryz.zeroValue4
 t5:=Tryz.underlying5
 a5:=Tryz.isAgg5
 z5:=Tryz.sizeOf5
 v5:=Tryz.zeroValue5
 t9:=Tryz.underlying9
 a9:=Tryz.isAgg9
 z9:=Tryz.sizeOf9
 v9:=Tryz.zeroValue9
 t31:=Tryz.underlying39
 a31:=Tryz.isAgg39
 z31:=Tryz.sizeOf39
 v31:=Tryz.zeroValue39
 t46:=Tryz.underlying191
 a46:=Tryz.isAgg191
 z46:=Tryz.sizeOf191
 v46:=Tryz.zeroValue191
 t51:=Tryz.underlying200
 a51:=Tryz.isAgg200
 z51:=Tryz.sizeOf200
 v51:=Tryz.zeroValue200
 t53:=Tryz.underlying183
 a53:=Tryz.isAgg183
 z53:=Tryz.sizeOf183
 v53:=Tryz.zeroValue183
 t131:=Tryz.underlying196
 a131:=Tryz.isAgg196
 z131:=Tryz.sizeOf196
 v131:=Tryz.zeroValue196
 t182:=Tryz.underlying204
 a182:=Tryz.isAgg204
 z182:=Tryz.sizeOf204
 v182:=Tryz.zeroValue204
 t183:=Tryz.underlying205
 a183:=Tryz.isAgg205
 z183:=Tryz.sizeOf205
 v183:=Tryz.zeroValue205
 t218:=Tryz.underlying220
 a218:=Tryz.isAgg220
 z218:=Tryz.sizeOf220
 v218:=Tryz.zeroValue220
 t222:=Tryz.underlying224
 a222:=Tryz.isAgg224
 z222:=Tryz.sizeOf224
 v222:=Tryz.zeroValue224
 t228:=Tryz.underlying232
 a228:=Tryz.isAgg232
 z228:=Tryz.sizeOf232
 v228:=Tryz.zeroValue232
 t229:=Tryz.underlying233
 a229:=Tryz.isAgg233
 z229:=Tryz.sizeOf233
 v229:=Tryz.zeroValue233}
open Go.Sort Go.RowKit in
theorem Tryz.slices_Sort_string (blk off cap:Nat) (ss:List (List UInt8)) (w:World) (hH:Holds encStr w blk off ss.toArray) (hblk:blk < w.heap.size) (hsz:ss.length < 4611686018427387904) :
  Calls Tryz.prog 120 #[.slice (some ⟨blk,off,none⟩) ss.length cap] w fun e w' =>
   e=.returned (.tuple #[])∧∃ n os,w'=grow (putRow encStr (Sort.ahead w n) blk off (ss.mergeSort fun x y=>decide (x≤y)).toArray) os:=Any.slices_Sort_string Tryz.lays190 blk off cap ss w hH hblk hsz
def Tryz.lays194_ren:Go.Shelf.Ren:=⟨fun | 194=>77 | n=>n,fun | 31=>39 | 9=>9 | 3=>3 | 4=>4 | 0=>0 | n=>n,fun | n=>n⟩
theorem Tryz.lays194:Go.Proofs.Lays.n194 Tryz.prog Tryz.lays194_ren:={
 mixed:=by kernel_rfl
 f194:=Tryz.func77.trans (congrArg some (by kernel_rfl))
 t0:=Tryz.underlying0
 a0:=Tryz.isAgg0
 z0:=Tryz.sizeOf0
 v0:=Tryz.zeroValue0
 t3:=Tryz.underlying3
 a3:=Tryz.isAgg3
 z3:=Tryz.sizeOf3
 v3:=Tryz.zeroValue3
 t4:=Tryz.underlying4
 a4:=Tryz.isAgg4
 z4:=Tryz.sizeOf4
 v4:=Tryz.zeroValue4
 t9:=Tryz.underlying9
 a9:=Tryz.isAgg9
 z9:=Tryz.sizeOf9
 v9:=Tryz.zeroValue9
 t31:=Tryz.underlying39
 a31:=Tryz.isAgg39
 z31:=Tryz.sizeOf39
 v31:=Tryz.zeroValue39}
open Go.RowKit Go.Lib Go.Sort in
theorem Tryz.slices_Compact_string (blk off cap:Nat) (zs:List (List UInt8)) (w:World) (hH:Holds encStr w blk off zs.toArray) (hsz:zs.length≤9223372036854775807) (hcap:zs.length≤cap) :
  Calls Tryz.prog 77 #[.slice (some ⟨blk,off,none⟩) zs.length cap] w fun e w'=>e=.returned (.slice (some ⟨blk,off,none⟩) (Lib.compact zs).length cap)∧∃ q,w'=putRow encStr (Sort.ahead w q) blk off (Lib.compact zs ++ List.replicate (zs.length - (Lib.compact zs).length) []).toArray:=Any.slices_Compact_string Tryz.lays194 blk off cap zs w hH hsz hcap
end Go.Proofs
namespace Go.Fu
open Go Go.Mx
open Go.Proofs (encStr)
set_option maxHeartbeats 2000000
def vA:List Cell→Option (List (List UInt8))
 | []=>some []
 | c :: r=>match c.d with
  | .str s=>aC (vA r) fun l=>some (s :: l)
  | _=>none
def bQ (l:List (List UInt8)):List Cell:=l.map fun s=>⟨false,.str s⟩
theorem Hv:∀ l,vA (bQ l)=some l
 | []=>rfl
 | s :: l=>by
  have h:=Hv l
  unfold bQ at h ⊢
  simp only [List.map_cons,vA,h,aC,aF]
theorem Ny:∀ {cs:List Cell} {l},vA cs=some l→l.length=cs.length
 | [],l,h=>by cases h; rfl
 | c :: r,l,h=>by
  unfold vA at h
  split at h
  ·obtain ⟨l',h1,h2⟩:=aA h
   cases h2
   simp [Ny h1]
  ·cases h
theorem zig:∀ {cs:List Cell} {l},vA cs=some l→∀ (i:Nat) (s:List UInt8),l[i]?=some s→∃ c,cs[i]?=some c∧c.d=.str s
 | [],l,h,i,s,hi=>by cases h; simp at hi
 | c :: r,l,h,i,s,hi=>by
  unfold vA at h
  split at h
  ·rename_i s' hd
   obtain ⟨l',h1,h2⟩:=aA h
   cases h2
   cases i with
   | zero =>
    simp only [List.getElem?_cons_zero,Option.some.injEq] at hi
    subst hi
    exact ⟨c,rfl,hd⟩
   | succ i =>
    simp only [List.getElem?_cons_succ] at hi ⊢
    exact zig h1 i s hi
  ·cases h
def mU (l:List (List UInt8)):List (List UInt8):=l.mergeSort fun x y=>decide (x≤y)
def Yg (ds:List D) (σ:Store):Option (Out × Store):=match ds with
 | [.arr k id 0 n]=>aC (aB σ.objs id) fun cs=>ifB (k.sz == 1 && (cs.length == n && (decide (0 < n) && decide (n≤bG)))) (aC (vA cs) fun l=>some (.ret ⟨false,.tup []⟩,{σ with objs:=aU σ.objs id (bQ (mU l))})) none
 | _=>none
def zK (ds:List D) (σ:Store):Option (Out × Store):=match ds with
 | [.arr k id 0 n]=>aC (aB σ.objs id) fun cs=>ifB (k.sz == 1 && (cs.length == n && (decide (0 < n) && decide (n≤bG)))) (aC (vA cs) fun l=>some (.ret ⟨false,.arr k id 0 (Lib.compact l).length⟩,{σ with objs:=aU σ.objs id (bQ (Lib.compact l ++ List.replicate (l.length - (Lib.compact l).length) []))})) none
 | _=>none
theorem zj4 {w:World} {b:Nat} {vs:List Value} {T:TypeId} (h:w.heap[b]?=some (.cells ⟨vs⟩ T (0,0))) (d:Array (List UInt8)):(Sort.putRow encStr w b 0 d).heap[b]?=some (.cells ⟨(Sort.putCells encStr 0 d ⟨vs⟩).toList⟩ T (0,0)):=by
 simp only [Sort.putRow,Sort.mapBlock,Array.getElem?_modify,if_true,h,Option.map_some]
 rfl
theorem zhy {w:World} {b:Nat} (d:Array (List UInt8)) {x:Nat} (hx:x≠b):(Sort.putRow encStr w b 0 d).heap[x]?=w.heap[x]?:=by
 simp only [Sort.putRow,Sort.mapBlock,Array.getElem?_modify,if_neg (Ne.symm hx)]
theorem qY {vs:List Value} (d:List (List UInt8)) (hd:d.length≤vs.length) (i:Nat) (s:List UInt8) (hi:d[i]?=some s):(Sort.putCells encStr 0 d.toArray ⟨vs⟩).toList[i]?=some (.string ⟨s.toArray⟩):=by
 obtain ⟨hlt,he⟩:=List.getElem?_eq_some_iff.1 hi
 subst he
 simp only [Sort.putCells,Array.toList_mapIdx,List.getElem?_mapIdx]
 rw [List.getElem?_eq_getElem (by omega)]
 simp [hlt,encStr]
theorem zhz {ι:Imm} {j:Lay} {own:Own} {σ:Store} {w:World} (hG:GSim ι j own σ w) {id b:Nat} {cs:List Cell} (hcs:aB σ.objs id=some cs) (hjb:j id=some b) (hown:own b=some (.obj id)) {vs:List Value} {T:TypeId} (hheap:w.heap[b]?=some (.cells ⟨vs⟩ T (0,0))) (hlen:cs.length≤vs.length)
  (zs:List (List UInt8)) (hz:zs.length=cs.length) (n:Nat) (os:Array Obj) :
  GSim ι j own {σ with objs:=aU σ.objs id (bQ zs)} (Sort.grow (Sort.putRow encStr (Sort.ahead w n) b 0 zs.toArray) os)∧Evo ι j own w ι j own (Sort.grow (Sort.putRow encStr (Sort.ahead w n) b 0 zs.toArray) os) (fun t=>t=.obj id):=by
 have hh:(Sort.ahead w n).heap[b]?=some (.cells ⟨vs⟩ T (0,0)):=hheap
 have h1:=zj4 hh zs.toArray
 obtain ⟨w1,hw1⟩:∃ w1,w1=Sort.putRow encStr (Sort.ahead w n) b 0 zs.toArray:=⟨_,rfl⟩
 have hoth:∀ x,x≠b→w1.heap[x]?=w.heap[x]?:=fun x hx=>by rw [hw1]; exact zhy _ hx
 have hsz:w1.heap.size=w.heap.size:=by rw [hw1,Sort.size_putRow]; rfl
 have hf:w1.os=w.os∧w1.tape=w.tape∧w1.output=w.output:=by rw [hw1]; exact ⟨rfl,rfl,rfl⟩
 rw [← hw1] at h1 ⊢
 have hvl:(Sort.putCells encStr 0 zs.toArray ⟨vs⟩).toList.length=vs.length:=by simp [Sort.putCells]
 obtain ⟨g1,e1⟩:=hG.setObj (cs':=bQ zs) (w':=w1) hcs hjb hown hf.1 hf.2.1 hf.2.2 (by omega) hoth hheap h1 (by rw [hvl]; simp [bQ]; omega) (by rw [hvl]; rfl) (fun i c hi=>by
  simp only [bQ,List.getElem?_map,Option.map_eq_some_iff] at hi
  obtain ⟨s,hs,rfl⟩:=hi
  exact ⟨_,qY zs (by omega) i s hs,rfl,by simp only [Rep],fun h=>by cases h⟩)
 have hx:RowKit.Below w1.heap.size w1 (Sort.grow w1 os):=⟨rfl,rfl,rfl,by simp [Sort.grow],fun x hx=>by
  show (w1.heap ++ os)[x]?=w1.heap[x]?
  rw [Array.getElem?_append_left hx]⟩
 have hE:Evo ι j own w1 ι j own (Sort.grow w1 os) (fun _=>False):=⟨hx.os,hx.tape,hx.output,hx.size,fun _ _ _ h=>h,fun _ _ h=>h,fun b hb _=>⟨hx.block b hb,rfl,fun _=>rfl⟩⟩
 refine ⟨g1.evo hE (fun b o v h=>?_) g1.noimm (fun b t h=>Nat.lt_of_lt_of_le (g1.ownlt b t h) hx.size) g1.jlt (fun _ _ _=>⟨fun h=>h,fun _ _ _ _ h=>h⟩) (fun _ _ _ h=>h),?_⟩
 ·rw [World.cell?_of_block (w:=w1) (w':=Sort.grow w1 os) (a:=⟨b,o,none⟩) (hx.block b (pU g1 h))]
  exact g1.holds b o v h
 ·refine ⟨hx.os.trans e1.os,hx.tape.trans e1.tape,hx.output.trans e1.output,Nat.le_trans e1.size hx.size,fun _ _ _ h=>h,fun _ _ h=>h,fun x hxl hxt=>⟨?_,rfl,fun _=>rfl⟩⟩
  rw [hx.block x (by omega)]
  exact (e1.block x hxl hxt).1
theorem zbx {ι:Imm} {j:Lay} {own:Own} {w:World} {id b:Nat} {cs:List Cell} {l:List (List UInt8)} {vs:List Value} {T:TypeId} (hl:vA cs=some l) (hheap:w.heap[b]?=some (.cells ⟨vs⟩ T (0,0))) (hcell:∀ (i:Nat) (c:Cell),cs[i]?=some c→∃ v,vs[i]?=some v∧v.oneCell'=true∧iT ι j own w (.ocell id i) c v):Sort.Holds encStr w b 0 l.toArray:=by
 intro i hi
 have hi':i < l.length:=by simpa using hi
 obtain ⟨c,h1,h2⟩:=zig hl i l[i] (List.getElem?_eq_getElem hi')
 obtain ⟨v,h3,_,h4,_⟩:=hcell i c h1
 rw [h2] at h4
 simp only [Rep] at h4
 subst h4
 refine ⟨?_,Lib.frozen_of_heap hheap _⟩
 rw [cell_of_row w b _ _ _ _ hheap]
 simp [h3,hi',encStr]
theorem zfx {ι:Imm} {j:Lay} {k:RowK} {id n b:Nat} {v:Value} (hk:k.sz=1) (hn:0 < n) (hjb:j id=some b) (h:Rep ι j (.arr k id 0 n) v):∃ c,j (id + 1)=some c∧n≤c∧c≤maxLen∧v=.slice (some ⟨b,0,none⟩) n c:=by
 simp only [Rep] at h
 obtain ⟨b',c,a,h1,h2,⟨h3,h4⟩,rfl,h6⟩:=h
 rw [hjb] at h1
 cases h1
 refine ⟨c,h2,by omega,h4,?_⟩
 rcases h6 with h6 | h6
 ·omega
 ·rw [h6]
  simp
theorem zv9 {ds:List D} {σ σ':Store} {out:Out} (h:Yg ds σ=some (out,σ')):kA Go.Proofs.Tryz.prog κ 120 ds σ out σ':=by
 refine (iK (show isY 120=false from rfl)).2 ⟨⟨_,_,Go.Proofs.Tryz.func120,by kernel_rfl,rfl⟩,fun ι j own w vs hS hB hG hr=>?_⟩
 unfold Yg at h
 split at h
 ·rename_i k id n
  obtain ⟨cs,h1,ha⟩:=aA h
  obtain ⟨h2,hb⟩:=aJ ha
  obtain ⟨l,h3,hc⟩:=aA hb
  cases hc
  simp only [Bool.and_eq_true,beq_iff_eq,decide_eq_true_eq] at h2
  obtain ⟨hk,hn,hpos,hbd⟩:=h2
  simp only [bG] at hbd
  obtain ⟨v,rfl,hv⟩:=Xj hr
  obtain ⟨b,hjb,hown,row,T,hheap,hlen,hcell⟩:=hG.objs id cs h1
  obtain ⟨c,hc1,hc2,hc3,rfl⟩:=zfx hk hpos hjb hv
  have hll:=Ny h3
  have hH:=zbx h3 hheap hcell
  have hblk:b < w.heap.size:=(Array.getElem?_eq_some_iff.1 hheap).1
  have hcal:=Go.Proofs.Tryz.slices_Sort_string b 0 c l w hH hblk (by omega)
  rw [show l.length=n by omega] at hcal
  refine hcal.mono ?_
  rintro e w' ⟨rfl,q,os,rfl⟩
  obtain ⟨g1,g2⟩:=zhz hG h1 hjb hown hheap hlen (mU l) (by simp [mU,hll]) q os
  exact ⟨ι,j,own,g1,g2.weaken (fun _ _=>trivial),hS,by simp [Rep,aI],fun h=>by cases h⟩
 ·cases h
theorem znb:∀ l:List (List UInt8),(Lib.compact l).length≤l.length:=by
 intro l
 unfold Lib.compact Lib.compactUpTo
 rw [List.length_map]
 exact Nat.le_trans (List.length_filter_le _ _) (by simp)
theorem zk3 {ds:List D} {σ σ':Store} {out:Out} (h:zK ds σ=some (out,σ')):kA Go.Proofs.Tryz.prog κ 77 ds σ out σ':=by
 refine (iK (show isY 77=false from rfl)).2 ⟨⟨_,_,Go.Proofs.Tryz.func77,by kernel_rfl,rfl⟩,fun ι j own w vs hS hB hG hr=>?_⟩
 unfold zK at h
 split at h
 ·rename_i k id n
  obtain ⟨cs,h1,ha⟩:=aA h
  obtain ⟨h2,hb⟩:=aJ ha
  obtain ⟨l,h3,hc⟩:=aA hb
  cases hc
  simp only [Bool.and_eq_true,beq_iff_eq,decide_eq_true_eq] at h2
  obtain ⟨hk,hn,hpos,hbd⟩:=h2
  simp only [bG] at hbd
  obtain ⟨v,rfl,hv⟩:=Xj hr
  obtain ⟨b,hjb,hown,row,T,hheap,hlen,hcell⟩:=hG.objs id cs h1
  obtain ⟨c,hc1,hc2,hc3,rfl⟩:=zfx hk hpos hjb hv
  have hll:=Ny h3
  have hH:=zbx h3 hheap hcell
  have hcal:=Go.Proofs.Tryz.slices_Compact_string b 0 c l w hH (by omega) (by omega)
  rw [show l.length=n by omega] at hcal
  refine hcal.mono ?_
  rintro e w' ⟨rfl,q,rfl⟩
  have hle:=znb l
  obtain ⟨g1,g2⟩:=zhz hG h1 hjb hown hheap hlen (Lib.compact l ++ List.replicate (l.length - (Lib.compact l).length) []) (by simp; omega) q #[]
  have hgr:∀ w:World,Sort.grow w #[]=w:=fun w=>by simp [Sort.grow]
  rw [hgr] at g1 g2
  rw [show l.length=n by omega] at g1 g2 ⊢
  refine ⟨ι,j,own,g1,g2.weaken (fun _ _=>trivial),hS,?_,fun h=>by cases h⟩
  simp only [Rep]
  exact ⟨b,c,⟨b,0,none⟩,hjb,hc1,⟨by omega,hc3⟩,rfl,.inr (by simp)⟩
 ·cases h
end Go.Fu
