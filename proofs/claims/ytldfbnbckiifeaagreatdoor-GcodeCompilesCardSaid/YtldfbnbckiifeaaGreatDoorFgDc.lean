/- A part of the proof. -/
import Derived.Test.YtldfbnbckiifeaaGreatDoorFgDb
import Derived.Shelf.Sort.Plain
import Derived.Shelf.Slices.CompactS
import Derived.Ground.NamesProg
set_option maxHeartbeats 4000000
set_option linter.all false
namespace Go.Fu
open Go Go.Mx Go.Proofs
def Zr:eR:=(sq [I0 42 .lss 41 40] [] (.seq (O7 42 .skip (.exit 2)) (.seq (.block 3 (sq [O0 43 1 39 41,ml 44 43,mw 12 44] [42,43,44] (rg [mt 45 10,mt 46 12,O3 47 mI [I 45,I 46,(ci 0)]] [12,45,46,47]))) (rg [I1 48 .add 41 1,mw 41 48] [48]))))
def Zs:eR:=(sq [I0 26 .lss 25 24] [] (.seq (O7 26 .skip (.exit 0)) (.seq (.block 1 (sq [O0 27 8 23 25,O1 28 8 false 27,mo 9 (.alloc Q4),I3 8 9 28] [26,27,28] (sq [mf 29 0 9,ml 30 29,mf 31 3 9,ml 32 31,mf 33 1 9,ml 34 33,mo 35 (.build Q5 [(0,1,(I5 [80,65,67,75])),(3,1,(I 30)),(1,1,(I 32)),(2,1,(I 34))]),mo 36 (.vW fE [I 35]),mo 37 (.build [.dN,.lH] [(0,1,(I 36))]),mo 38 (.mF X0 (I 37)),mw 10 38] [29,30,31,32,33,34,35,36,37,38] (.seq (sq [mo 39 (.buildSlice dY [(I5 [85,80,68,65,84,69]),(I5 [80,79,80]),(I5 [85,78,87,73,78,68])]),I9 40 39,O6 41 0] [] (.block 2 (.loop Zr))) (.Dw [.obj 10]  (.region [mw 49 7,mf 50 0 9,mo 51 (.fY 9 none (I 50)),mf 52 3 9,mo 53 (.fY 9 none (I 52)),mt 54 10,mo 55 (.nilCheck (I 54)),mf 56 0 55,mo 57 (.jB none (I 56)),mo 58 (.build Q7 [(0,1,(I 51)),(1,1,(I 53)),(2,1,(I 57))]),O2 59 tV 58,mo 60 (.append tV 48 (.mv 49) (I 59)),mw 7 60] (some [0,1,2,3,4,5,6,7,8,9,10,11,12]) [9,10,39,40,41,42,49,50,51,52,53,54,55,56,57,58,59,60])))))) (rg [I1 61 .add 25 1,mw 25 61] [61]))))
def Vf:eR:=(sq [I0 72 .lss 71 70] [] (.seq (O7 72 .skip (.exit 6)) (.seq (.block 7 (sq [O0 73 12 69 71,O1 74 12 false 73,mo 16 (.alloc O9),I3 12 16 74] [72,73,74] (rg [mw 75 7,O1 76 12 false 16,O3 77 To [I 76],O2 78 tV 77,mo 79 (.append tV 48 (.mv 75) (I 78)),mw 7 79] [16,75,76,77,78,79]))) (rg [I1 80 .add 71 1,mw 71 80] [80]))))
def Zt:eR:=(sq [I0 65 .lss 64 63] [] (.seq (O7 65 .skip (.exit 4)) (.seq (.block 5 (sq [O0 66 12 62 64,O1 67 12 false 66,mo 14 (.alloc O9),I3 12 14 67] [65,66,67] (sq [O1 68 12 false 14,O3 69 zZ [I 68],I9 70 69,O6 71 0] [14,68] (.block 6 (.loop Vf))))) (rg [I1 81 .add 64 1,mw 64 81] [69,70,71,72,81]))))
def Zo:eR:=(sq [I0 90 .lss 89 88] [] (.seq (O7 90 .skip (.exit 0)) (.seq (.block 1 (sq [mt 91 89,O0 92 15 87 89,O1 93 15 false 92,mo 12 (.alloc Q3),mw 11 91,I3 15 12 93] [90,91,92,93] (.region [mf 94 8 5,mo 95 (.fY 5 none (I 94)),mt 96 11,mt 97 0,mo 98 (.fieldAddr 5 (some 10) (I 12)),mo 99 (.fY 12 (some 10) (I 98)),mt 100 3,O3 101 yF [I 97,I 99,I6,I 100],O0 102 15 95 96,mo 103 (.fieldAddr 5 (some 10) (I 102)),⟨none,.nM 10 (I 103) (I 101),none⟩] (some [0,1,2,3,4,5,6,7,8,9,10]) [11,12,94,95,96,97,98,99,100,101,102,103]))) (rg [I1 104 .add 89 1,mw 89 104] [104]))))
def Ve:eR:=(sq [I0 109 .lss 108 107] [] (.seq (O7 109 .skip (.exit 2)) (.seq (.block 3 (sq [mt 110 108,O0 111 10 106 108,O1 112 10 false 111,mo 14 (.alloc O8),mw 13 110,I3 10 14 112] [109,110,111,112] (.region [mf 113 7 5,mo 114 (.fY 5 none (I 113)),mt 115 13,mt 116 0,mo 117 (.fY 14 (some 10) (I 14)),mf 118 0 5,mo 119 (.fY 5 none (I 118)),I1 120 .eql 119 4,mw 121 120,I4 122 121 false (.dO (I 2)),O5 123 121 122,mt 124 3,O3 125 yF [I 116,I 117,I 123,I 124],O0 126 10 114 115,⟨none,.nM 10 (I 126) (I 125),none⟩] (some [0,1,2,3,4,5,6,7,8,9,10,11,12,13,14]) [13,14,113,114,115,116,117,118,119,120,121,122,123,124,125,126]))) (rg [I1 127 .add 108 1,mw 108 127] [127]))))
def Zp:eR:=(sq [I0 132 .lss 131 130] [] (.seq (O7 132 .skip (.exit 4)) (.seq (.block 5 (sq [mt 133 131,O0 134 14 129 131,O1 135 14 false 134,mo 16 (.alloc Q2),mw 15 133,I3 14 16 135] [132,133,134,135] (.region [mf 136 9 5,mo 137 (.fY 5 none (I 136)),mt 138 15,mt 139 0,mo 140 (.fieldAddr 4 (some 10) (I 16)),mo 141 (.fY 16 (some 10) (I 140)),mt 142 3,mf 143 3 16,mo 144 (.fY 16 none (I 143)),mo 145 (.buildSlice Dj [I 142,I 144]),O3 146 tB [I 145],O3 147 yF [I 139,I 141,I7,I 146],O0 148 14 137 138,mo 149 (.fieldAddr 4 (some 10) (I 148)),⟨none,.nM 10 (I 149) (I 147),none⟩] (some [0,1,2,3,4,5,6,7,8,9,10,11,12,13,14]) [15,16,136,137,138,139,140,141,142,143,144,145,146,147,148,149]))) (rg [I1 150 .add 131 1,mw 131 150] [150]))))
def Zm:eR:=(sq [I0 12 .lss 11 10] [] (.seq (O7 12 .skip (.exit 0)) (.seq (.block 1 (sq [O0 13 1 9 11,ml 14 13,mw 5 14] [12,13,14] (sq [mt 15 3,mt 16 5,I9 17 16,I0 18 .add 15 17,mw 3 18] [5,15,16,17,18] (sq [mt 19 3,I1 20 .lss 19 0] [19] (O7 20 (rg [mo 21 (.Jy IZ (I5 [108,101,110,32,111,117,116,32,111,102,32,114,97,110,103,101])),⟨none,.panic (I 21),none⟩] [20,21]) .skip))))) (rg [I1 22 .add 11 1,mw 11 22] [20,22]))))
def Vd:eR:=(sq [I0 28 .lss 27 26] [] (.seq (O7 28 .skip (.exit 2)) (.seq (.block 3 (sq [O0 29 1 25 27,ml 30 29,mw 8 30] [28,29,30] (rg [mw 31 6,mt 32 8,mo 33 (.qN dY 16 (.mv 31) (I 32)),mw 6 33] [8,31,32,33]))) (rg [I1 34 .add 27 1,mw 27 34] [34]))))
def Oj:dZ:=⟨2,83,[.tmp 4,.tmp 5],(sq [mo 4 (.dO I8),O6 5 0] [4,5] (.seq (sq [mt 17 0,mt 18 1,O3 19 Xx [I 17,I 18],mw 6 19] [17,18,19] (sq [mt 20 6,I1 21 .neq 20 0] [20] (O7 21 (sq [mw 22 6,mo 4 (.dO I8),mw 5 22] [0,1,6,21,22] .ret) .skip))) (sq [mo 7 (.dO I8)] [6,21] (.seq (sq [mt 23 0,I9 24 23,O6 25 0] [0] (.block 0 (.loop Zs))) (.seq (sq [mt 62 1,I9 63 62,O6 64 0] [1,23,24,25,26] (.block 4 (.loop Zt))) (sq [mw 82 7,mw 4 82,O6 5 0] [7,62,63,64,65,82] .ret)))))),false⟩
def KY:dZ:=⟨1,26,[.cell 2 (some 3)],(sq [mo 1 (.mF qp (I 0)),mo 2 (.alloc Q7)] [0] (sq [mo 5 (.makeMap),mo 6 (.build [.dN,.lH] [(1,1,(I 5))]),mo 7 (.mF X0 (I 6)),mo 3 (.pM Ae [.rR]),I3 1 3 7] [5,6,7] (sq [mf 8 1 1,ml 9 8,O3 10 Dl [I 9],mo 4 (.pM rI [.dN]),I3 1 4 10] [8,9,10] (sq [ml 11 4,O3 12 V7 [I 11]] [11,12] (sq [ml 13 3,ml 14 4,mo 15 (.nL (.func GU) [] [I 3,I 1,I 4]),O3 16 U7 [I 13,I 14,(ci 0),I 15]] [13,14,15,16] (.seq (.region [mf 17 0 1,mo 18 (.jB none (I 17)),mo 19 (.jB none (I 4)),I9 20 19,mo 21 (.jB none (I 3)),mo 22 (.nilCheck (I 21)),mf 23 0 22,mo 24 (.jB none (I 23)),mo 25 (.build Q7 [(0,1,(I 18)),(1,1,(I 20)),(2,1,(I 24))]),⟨none,.lI 2 3 (I 2) (.mv 25),none⟩] (some [0,1,2,3,4,5,6,7,8,9]) [1,3,4,17,18,19,20,21,22,23,24,25]) (.Dw [.box 2] .ret))))))),false⟩
def VU:dZ:=⟨2,22,[.tmp 4],(sq [mo 2 (.mF Ae (I 0)),mo 3 (.box (I 1)),mo 4 (.dO (.const (.tP)))] [0,1,4] (sq [ml 6 2,mo 7 (.nilCheck (I 6)),mf 8 0 7,ml 9 8,I9 10 9,mo 5 (.pM En [.int .i64 0]),I3 1 5 10] [6,7,8,9,10] (.seq (.region [mo 11 (.jB none (I 2)),mo 12 (.jB none (I 2)),mo 13 (.nilCheck (I 12)),mf 14 0 13,mo 15 (.jB none (I 14)),mo 16 (.fY 3 (some 4) (I 3)),O2 17 fE 16,mo 18 (.Bi [2] fE 48 (.mv 15) (I 17)),mo 19 (.nilCheck (I 11)),mf 20 0 19,⟨none,.nM 1 (I 20) (I 18),none⟩] (some [0,1,2,3,4,5,6,7,8,9,10]) [3,11,12,13,14,15,16,17,18,19,20]) (sq [mo 21 (.nL (.func U5) [] [I 2,I 5]),mw 4 21] [2,5,21] .ret)))),false⟩
def tD:dZ:=⟨3,90,[],(sq [mo 4 (.box (I 1))] [1] (.seq (.region [mt 9 0,mo 10 (.nilCheck (I 9)),mf 11 1 10,mo 12 (.jB none (I 11)),mf 13 2 4,mo 14 (.fY 4 none (I 13)),mo 15 (.lookup true (.int .i64 0) true (I 12) (I 14)),mw 8 15,I2 16 8 0,I2 17 8 1,mw 6 16,mw 7 17] (some [0,1,2,3,4,5,6,7,8,9,10,11]) [8,9,10,11,12,13,14,15,16,17]) (.block 0 (sq [mf 30 0 4,ml 31 30,I1 32 .eql 31 1,mw 33 32,I4 34 33 true (.dO (I 7)),O4 35 33 34,mw 29 35] [7,30,31,32,33,34,35] (O7 29 (rg [mt 36 0,mt 37 2,I1 38 .sub 37 1,mt 39 6,I0 40 .sub 38 39,mo 41 (.call mI [I 36,(I5 [80,85,83,72,65]),I 40])] [0,2,4,6,29,36,37,38,39,40,41]) (.seq (sq [mf 43 0 4,ml 44 43,I1 45 .eql 44 1,mw 42 45] [6,29,43,44,45] (O7 42 .skip (rg [mf 46 0 4,ml 47 46,I1 48 .eql 47 2,mw 42 48] [46,47,48]))) (O7 42 (.region [mt 49 0,mt 50 0,mo 51 (.nilCheck (I 50)),mf 52 0 51,mo 53 (.jB none (I 52)),mf 54 2 4,mo 55 (.fY 4 none (I 54)),mo 56 (.build Q5 [(0,1,(I5 [80,85,83,72,71])),(3,1,(I 55))]),O2 57 fE 56,mo 58 (.qN fE 48 (.mv 53) (I 57)),mo 59 (.nilCheck (I 49)),mf 60 0 59,⟨none,.nM 1 (I 60) (I 58),none⟩] (some [0,1,2,3,4,5,6,7,8,9,10,11,12]) [0,2,4,42,49,50,51,52,53,54,55,56,57,58,59,60]) (sq [mf 62 0 4,ml 63 62,I1 64 .eql 63 3,mw 61 64] [42,62,63,64] (O7 61 (rg [mt 65 0,mf 66 1 4,ml 67 66,mo 68 (.call mI [I 65,(I5 [80,85,83,72,73]),I 67])] [0,2,4,61,65,66,67,68]) (sq [mf 70 0 4,ml 71 70,I1 72 .eql 71 4,mw 69 72] [61,70,71,72] (O7 69 (sq [mt 73 0,mf 74 7 4,ml 75 74,mo 76 (.indexAddr 10 (I 75) (ci 1)),O1 77 10 false 76,mt 78 2,O3 79 uZ [I 73,I 77,I 78]] [69,73,74,75,76,77,78,79] (sq [mt 80 0,mf 81 7 4,ml 82 81,mo 83 (.indexAddr 10 (I 82) (ci 0)),O1 84 10 false 83,mt 85 2,I1 86 .add 85 1,O3 87 uZ [I 80,I 84,I 86]] [2,4,80,81,82,83,84,85,86,87] (rg [mt 88 0,mo 89 (.call mI [I 88,(I5 [77,75,65,80]),(ci 0)])] [0,88,89]))) (sq [mt 18 0,O1 19 10 false 4,mt 20 2,mt 21 0,mo 22 (.nL (.func uZ) [I 21] []),O3 23 GV [I 18,I 19,I 20,I 22]] [2,18,19,20,21,22,23,69] (rg [mt 24 0,mf 25 8 4,ml 26 25,I9 27 26,mo 28 (.call mI [I 24,(I5 [83,76,73,68,69]),I 27])] [0,4,24,25,26,27,28]))))))))))))),false⟩
def VV:dZ:=⟨3,18,[],(rg [mt 6 0,mt 7 0,mo 8 (.nilCheck (I 7)),mf 9 0 8,ml 10 9,mt 11 1,mt 12 2,mo 13 (.build Q5 [(0,1,(I 11)),(1,1,(I 12))]),O2 14 fE 13,mo 15 (.qN fE 48 (.mv 10) (I 14)),mo 16 (.nilCheck (I 6)),mf 17 0 16,I3 1 17 15] [0,1,2,6,7,8,9,10,11,12,13,14,15,16,17]),false⟩
def Zn:dZ:=⟨3,18,[],(sq [mo 3 (.box (I 0))] [0] (.seq (sq [mf 4 0 3,ml 5 4,I1 6 .eql 5 1] [4,5] (O7 6 (rg [ml 7 1,mf 8 3 3,ml 9 8,I9 10 9,mo 11 (.call mI [I 7,(I5 [83,76,73,68,69]),I 10])] [3,6,7,8,9,10,11]) .skip)) (.region [mo 12 (.jB none (I 2)),mo 13 (.jB none (I 1)),mo 14 (.build Q5 [(0,1,(I5 [74,85,77,80]))]),mo 15 (.nD [2] Tq [I 13,I 14]),O2 16 mZ 15,mo 17 (.qN mZ 8 (.mv 12) (I 16)),⟨none,.nM 1 (I 2) (I 17),none⟩] (some [0,1,2,3,4,5,6]) [1,2,3,6,12,13,14,15,16,17]))),false⟩
def Jj:dZ:=⟨4,152,[.cell 8 (some 10)],(sq [mo 5 (.box (I 1)),mo 8 (.alloc O8)] [1] (.seq (sq [mt 17 2,mw 18 17,I4 19 18 true (.fieldAddr 0 none (I 5)),I4 20 18 true (.load none false (I 19)),I4 21 18 true (.bin .eql (I 20) (ci 9)),I4 22 18 true (.dO (.mv 21)),I4 23 22 false (.fieldAddr 0 none (I 5)),I4 24 22 false (.load none false (I 23)),I4 25 22 false (.bin .eql (I 24) (ci 10)),I4 26 18 true (.pick (I 22) I6 (I 25)),I4 27 18 true (.dO (.mv 26)),I4 28 27 false (.fieldAddr 0 none (I 5)),I4 29 27 false (.load none false (I 28)),I4 30 27 false (.bin .eql (I 29) (ci 11)),I4 31 18 true (.pick (I 27) I6 (I 30)),O4 32 18 31] [17,18,19,20,21,22,23,24,25,26,27,28,29,30,31] (O7 32 (sq [O1 33 10 false 5,mt 34 3,O3 35 U8 [I 33,I 34],mw 9 35] [2,3,32,33,34,35] (.seq (.region [mo 10 (.rZ 10 O9),mt 36 0,mo 37 (.nilCheck (I 36)),mf 38 0 37,mo 39 (.jB none (I 38)),mo 40 (.bin .add (I 39) (I5 [37])),mt 41 0,mo 42 (.nilCheck (I 41)),mf 43 1 42,mo 44 (.jB none (I 43)),I9 45 44,I1 46 .add 45 1,mt 49 9,mo 50 (.fY 5 (some 10) (I 5)),mo 47 (.nD [38] Fh [I 46]),I0 48 .add 40 47,mo 51 (.build O9 [(0,1,(I 48)),(1,1,(I 49)),(2,10,(I 50))]),⟨none,.lI 10 12 (I 10) (.mv 51),none⟩] (some [16,0,1,2,3,4,5,6,7,8,9,10,13,14,11,12,15,17]) [5,36,37,38,39,40,41,42,43,44,45,46,47,48,49,50,51]) (.seq (.region [mt 52 0,mt 53 0,mo 54 (.nilCheck (I 53)),mf 55 1 54,mo 56 (.jB none (I 55)),mo 57 (.fY 10 (some 12) (I 10)),O2 58 jA 57,mo 59 (.qN jA 200 (.mv 56) (I 58)),mo 60 (.nilCheck (I 52)),mf 61 1 60,⟨none,.nM 1 (I 61) (I 59),none⟩] (some [0,1,2,3,4,5,6,7,8,9,10]) [0,52,53,54,55,56,57,58,59,60,61]) (sq [mf 62 0 10,ml 63 62,O3 64 Me [I 63],mw 65 9,O3 66 U9 [I 65],O3 67 U4 [I 64,I 66],I3 10 8 67] [9,10,62,63,64,65,66,67] .ret)))) .skip)) (.seq (.region [mf 68 8 5,mo 69 (.fY 5 none (I 68)),mf 71 7 5,mo 72 (.fY 5 none (I 71)),mf 74 9 5,mo 75 (.fY 5 none (I 74)),O3 70 Nb [I 69],mf 77 8 5,O3 73 Nc [I 72],O3 76 Na [I 75],⟨none,.lI 5 1 (I 77) (.mv 70),none⟩,mf 78 7 5,⟨none,.lI 5 1 (I 78) (.mv 73),none⟩,mf 79 9 5,⟨none,.lI 5 1 (I 79) (.mv 76),none⟩] (some [0,1,3,4,6,7,2,9,5,8,10,11,12,13,14]) [32,68,69,70,71,72,73,74,75,76,77,78,79]) (sq [mt 80 3,mf 81 8 5,ml 82 81,mo 83 (.call wM [I 82,(.const (.fn (.func sN) [] []))]),mo 84 (.buildSlice Dj [I 80,I 83]),O3 85 tB [I 84],mw 3 85] [80,81,82,83,84,85] (.seq (sq [mf 86 8 5,ml 87 86,I9 88 87,O6 89 0] [86] (.block 0 (.loop Zo))) (.seq (sq [mf 105 7 5,ml 106 105,I9 107 106,O6 108 0] [87,88,89,90,105] (.block 2 (.loop Ve))) (.seq (sq [mf 128 9 5,ml 129 128,I9 130 129,O6 131 0] [2,106,107,108,109,128] (.block 4 (.loop Zp))) (sq [O1 151 10 true 5,I3 10 8 151] [0,3,5,129,130,131,132,151] (.Dw [.box 8] .ret))))))))),false⟩
def Gj:dZ:=⟨1,8,[.tmp 2],(sq [mo 2 (.dO I8)] [2] (.seq (sq [mt 3 0,mo 4 (.zG .eql (I 3))] [3] (O7 4 (sq [mo 2 (.dO I8)] [0,4] .ret) .skip)) (sq [mo 5 (.vW jC []),mw 6 0,mo 7 (.qN jC 216 (.mv 5) (I 6)),mw 2 7] [0,4,5,6,7] .ret))),false⟩
def Gh:dZ:=⟨1,8,[.tmp 2],(sq [mo 2 (.dO I8)] [2] (.seq (sq [mt 3 0,mo 4 (.zG .eql (I 3))] [3] (O7 4 (sq [mo 2 (.dO I8)] [0,4] .ret) .skip)) (sq [mo 5 (.vW iS []),mw 6 0,mo 7 (.qN iS 232 (.mv 5) (I 6)),mw 2 7] [0,4,5,6,7] .ret))),false⟩
def Gi:dZ:=⟨1,8,[.tmp 2],(sq [mo 2 (.dO I8)] [2] (.seq (sq [mt 3 0,mo 4 (.zG .eql (I 3))] [3] (O7 4 (sq [mo 2 (.dO I8)] [0,4] .ret) .skip)) (sq [mo 5 (.vW gV []),mw 6 0,mo 7 (.qN gV 160 (.mv 5) (I 6)),mw 2 7] [0,4,5,6,7] .ret))),false⟩
def Zq:dZ:=⟨1,36,[.tmp 2],(sq [mo 2 (.dO I8)] [2] (sq [O6 3 0] [] (.seq (sq [mt 9 0,I9 10 9,O6 11 0] [] (.block 0 (.loop Zm))) (sq [mt 23 3,O3 24 qd [I8,I 23],mw 6 24] [3,9,10,11,12,23,24] (.seq (sq [mt 25 0,I9 26 25,O6 27 0] [0] (.block 2 (.loop Vd))) (sq [mw 35 6,mw 2 35] [6,25,26,27,28,35] (.Dw [.slot 2] .ret))))))),true⟩
theorem zmy:eL Tryz.prog Tryz.f49 VV=true:=by kernel_rfl
theorem zmq:eL Tryz.prog Tryz.f155 VU=true:=by kernel_rfl
theorem zmr:eL Tryz.prog Tryz.f141 tD=true:=by kernel_rfl
theorem zlv:eL Tryz.prog Tryz.f157 Zn=true:=by kernel_rfl
theorem zmg:eL Tryz.prog Tryz.f101 Jj=true:=by kernel_rfl
theorem zl7:eL Tryz.prog Tryz.f131 Gh=true:=by kernel_rfl
theorem zmh:eL Tryz.prog Tryz.f132 Gi=true:=by kernel_rfl
theorem zms:eL Tryz.prog Tryz.f133 Gj=true:=by kernel_rfl
theorem zlw:eL Tryz.prog Tryz.f98 Zq=true:=by kernel_rfl
theorem zoi:eL Tryz.prog Tryz.f51 KY=true:=by kernel_rfl
theorem znd:eL Tryz.prog Tryz.f19 Oj=true:=by kernel_rfl
open Go Go.Mx
def zj1:RowK:=⟨227,1,false⟩
def SI:RowK:=⟨219,2,true⟩
def zf:eR:=(sq [I0 18 .lss 17 16] [] (.seq (O7 18 .skip (.exit 0)) .stuck))
def zg:eR:=(sq [I0 51 .lss 50 49] [] (.seq (O7 51 .skip (.exit 2)) .stuck))
def zh:eR:=(sq [I0 84 .lss 83 82] [] (.seq (O7 84 .skip (.exit 4)) .stuck))
def KU:dZ:=⟨1,123,[.tmp 2],(sq [mo 2 (.dO I8)] [2] (sq [mo 3 (.alloc [.dN,.dN])] [] (.seq (sq [mt 12 0,mo 13 (.nilCheck (I 12)),mf 14 7 13,ml 15 14,I9 16 15,O6 17 0] [12,13,14,15] (.block 0 (.loop zf))) (.seq (sq [mt 32 0,mo 33 (.nilCheck (I 32)),mf 34 0 33,ml 35 34,I1 36 .eql 35 5] [16,17,18,32,33,34,35] (O7 36 (.region [mf 37 0 3,mo 38 (.sC none true (I 37)),mt 39 0,mo 40 (.nilCheck (I 39)),mf 41 2 40,O2 42 zj1 41,mo 43 (.append zj1 8 (.mv 38) (I 42)),mf 44 0 3,⟨none,.lI 3 1 (I 44) (.mv 43),none⟩] (some [0,1,2,3,4,5,6,7,8]) [36,37,38,39,40,41,42,43,44]) .skip)) (.seq (sq [mt 45 0,mo 46 (.nilCheck (I 45)),mf 47 8 46,ml 48 47,I9 49 48,O6 50 0] [36,45,46,47,48] (.block 2 (.loop zg))) (sq [O1 76 2 false 3,O2 77 SI 76,mw 7 77] [3,49,50,51,76,77] (.seq (sq [mt 78 0,mo 79 (.nilCheck (I 78)),mf 80 9 79,ml 81 80,I9 82 81,O6 83 0] [78,79,80,81] (.block 4 (.loop zh))) (sq [mw 122 7,mw 2 122] [0,7,82,83,84,122] .ret)))))))),false⟩
theorem znx:eL Go.Proofs.Tryz.prog Go.Proofs.Tryz.f175 KU=true:=by kernel_rfl
end Go.Fu
namespace Go.Proofs
open Go.Shelf
def Tryz.lays190_ren:Go.Shelf.Ren:=⟨fun|190=>120|125=>149|258=>148|128=>173|129=>160|302=>164|303=>165|304=>166|305=>167|306=>168|307=>169|308=>170|309=>171|310=>172|333=>179|329=>180|330=>181|334=>182|335=>183|336=>184|344=>186|n=>n,fun|31=>39|9=>9|3=>3|46=>191|0=>0|51=>200|53=>183|4=>4|183=>205|182=>204|131=>196|5=>5|218=>220|222=>224|228=>232|229=>233|n=>n,fun|n=>n⟩
theorem Tryz.lays190:Go.Proofs.Lays.n190 Tryz.prog Tryz.lays190_ren:={
 mixed:=by kernel_rfl
 f125:=Tryz.func149.trans (congrArg some (by kernel_rfl))
 f128:=Tryz.func173.trans (congrArg some (by kernel_rfl))
 f129:=Tryz.func160.trans (congrArg some (by kernel_rfl))
 f190:=Tryz.func120.trans (congrArg some (by kernel_rfl))
 f258:=Tryz.func148.trans (congrArg some (by kernel_rfl))
 f302:=Tryz.func164.trans (congrArg some (by kernel_rfl))
 f303:=Tryz.func165.trans (congrArg some (by kernel_rfl))
 f304:=Tryz.func166.trans (congrArg some (by kernel_rfl))
 f305:=Tryz.func167.trans (congrArg some (by kernel_rfl))
 f306:=Tryz.func168.trans (congrArg some (by kernel_rfl))
 f307:=Tryz.func169.trans (congrArg some (by kernel_rfl))
 f308:=Tryz.func170.trans (congrArg some (by kernel_rfl))
 f309:=Tryz.func171.trans (congrArg some (by kernel_rfl))
 f310:=Tryz.func172.trans (congrArg some (by kernel_rfl))
 f329:=Tryz.func180.trans (congrArg some (by kernel_rfl))
 f330:=Tryz.func181.trans (congrArg some (by kernel_rfl))
 f333:=Tryz.func179.trans (congrArg some (by kernel_rfl))
 f334:=Tryz.func182.trans (congrArg some (by kernel_rfl))
 f335:=Tryz.func183.trans (congrArg some (by kernel_rfl))
 f336:=Tryz.func184.trans (congrArg some (by kernel_rfl))
 f344:=Tryz.func186.trans (congrArg some (by kernel_rfl))
 t0:=Tryz.underlying0
 a0:=Tryz.isAgg0
 z0:=Tryz.sizeOf0
 v0:=Tryz.zeroValue0
 t3:=Tryz.underlying3
 a3:=Tryz.isAgg3
 z3:=Tryz.sizeOf3
 v3:=Tryz.zeroValue3
 t4:=Tryz.underlying4
 a4:=Tryz.isAgg4
 z4:=Tryz.sizeOf4
 v4:=Tryz.zeroValue4
 t5:=Tryz.underlying5
 a5:=Tryz.isAgg5
 z5:=Tryz.sizeOf5
 v5:=Tryz.zeroValue5
 t9:=Tryz.underlying9
 a9:=Tryz.isAgg9
 z9:=Tryz.sizeOf9
 v9:=Tryz.zeroValue9
 t31:=Tryz.underlying39
 a31:=Tryz.isAgg39
 z31:=Tryz.sizeOf39
 v31:=Tryz.zeroValue39
 t46:=Tryz.underlying191
 a46:=Tryz.isAgg191
 z46:=Tryz.sizeOf191
 v46:=Tryz.zeroValue191
 t51:=Tryz.underlying200
 a51:=Tryz.isAgg200
 z51:=Tryz.sizeOf200
 v51:=Tryz.zeroValue200
 t53:=Tryz.underlying183
 a53:=Tryz.isAgg183
 z53:=Tryz.sizeOf183
 v53:=Tryz.zeroValue183
 t131:=Tryz.underlying196
 a131:=Tryz.isAgg196
 z131:=Tryz.sizeOf196
 v131:=Tryz.zeroValue196
 t182:=Tryz.underlying204
 a182:=Tryz.isAgg204
 z182:=Tryz.sizeOf204
 v182:=Tryz.zeroValue204
 t183:=Tryz.underlying205
 a183:=Tryz.isAgg205
 z183:=Tryz.sizeOf205
 v183:=Tryz.zeroValue205
 t218:=Tryz.underlying220
 a218:=Tryz.isAgg220
 z218:=Tryz.sizeOf220
 v218:=Tryz.zeroValue220
 t222:=Tryz.underlying224
 a222:=Tryz.isAgg224
 z222:=Tryz.sizeOf224
 v222:=Tryz.zeroValue224
 t228:=Tryz.underlying232
 a228:=Tryz.isAgg232
 z228:=Tryz.sizeOf232
 v228:=Tryz.zeroValue232
 t229:=Tryz.underlying233
 a229:=Tryz.isAgg233
 z229:=Tryz.sizeOf233
 v229:=Tryz.zeroValue233}
open Go.Sort Go.RowKit in
theorem Tryz.slices_Sort_string(blk off cap:Nat)(ss:List (List UInt8))(w:World)(hH:Holds encStr w blk off ss.toArray)(hblk:blk<w.heap.size)(hsz:ss.length<4611686018427387904) :
  Calls Tryz.prog 120 #[.slice (some ⟨blk,off,none⟩) ss.length cap] w fun e w' =>
   e=.returned (.tuple #[])/\∃n os,w'=grow (putRow encStr (Sort.ahead w n) blk off (ss.mergeSort fun x y=>decide (x<=y)).toArray) os:=Any.slices_Sort_string Tryz.lays190 blk off cap ss w hH hblk hsz
def Tryz.lays194_ren:Go.Shelf.Ren:=⟨fun|194=>77|n=>n,fun|31=>39|9=>9|3=>3|4=>4|0=>0|n=>n,fun|n=>n⟩
theorem Tryz.lays194:Go.Proofs.Lays.n194 Tryz.prog Tryz.lays194_ren:={
 mixed:=by kernel_rfl
 f194:=Tryz.func77.trans (congrArg some (by kernel_rfl))
 t0:=Tryz.underlying0
 a0:=Tryz.isAgg0
 z0:=Tryz.sizeOf0
 v0:=Tryz.zeroValue0
 t3:=Tryz.underlying3
 a3:=Tryz.isAgg3
 z3:=Tryz.sizeOf3
 v3:=Tryz.zeroValue3
 t4:=Tryz.underlying4
 a4:=Tryz.isAgg4
 z4:=Tryz.sizeOf4
 v4:=Tryz.zeroValue4
 t9:=Tryz.underlying9
 a9:=Tryz.isAgg9
 z9:=Tryz.sizeOf9
 v9:=Tryz.zeroValue9
 t31:=Tryz.underlying39
 a31:=Tryz.isAgg39
 z31:=Tryz.sizeOf39
 v31:=Tryz.zeroValue39}
open Go.RowKit Go.Lib Go.Sort in
theorem Tryz.slices_Compact_string(blk off cap:Nat)(zs:List (List UInt8))(w:World)(hH:Holds encStr w blk off zs.toArray)(hsz:zs.length<=9223372036854775807)(hcap:zs.length<=cap) :
  Calls Tryz.prog 77 #[.slice (some ⟨blk,off,none⟩) zs.length cap] w fun e w'=>e=.returned (.slice (some ⟨blk,off,none⟩) (Lib.compact zs).length cap)/\∃q,w'=putRow encStr (Sort.ahead w q) blk off (Lib.compact zs++List.replicate (zs.length-(Lib.compact zs).length) []).toArray:=Any.slices_Compact_string Tryz.lays194 blk off cap zs w hH hsz hcap
end Go.Proofs
namespace Go.Fu
open Go Go.Mx Go.Proofs
open Go.Proofs (encStr)
set_option maxHeartbeats 2000000
def Hu:List Cell->Option (List (List UInt8))
 |[]=>some []
 |c::r=>match c.d with
  |.str s=>dH (Hu r) fun l=>some (s::l)
  |_=>none
def iM(l:List (List UInt8)):List Cell:=l.map fun s=>⟨false,.str s⟩
theorem XW:∀l,Hu (iM l)=some l
 |[]=>rfl
 |s::l=>by
  have h:=XW l;unfold iM at h ⊢;simp only[aO,Hu,h,dH,eP]
theorem YR:∀{cs:List Cell}{l},Hu cs=some l->l.length=cs.length
 |[],l,h=>by cases h;rfl
 |c::r,l,h=>by
  unfold Hu at h;split at h
  ·obtain⟨l',h1,h2⟩:=dJ h;cases h2;simp[YR h1]
  ·cases h
theorem zfh:∀{cs:List Cell}{l},Hu cs=some l->∀(i:Nat)(s:List UInt8),l[i]?=some s->∃c,cs[i]?=some c/\c.d=.str s
 |[],l,h,i,s,hi=>by cases h;simp at hi
 |c::r,l,h,i,s,hi=>by
  unfold Hu at h;split at h
  ·rename_i s' hd;obtain⟨l',h1,h2⟩:=dJ h;cases h2;cases i with
   |zero =>simp only[List.getElem?_cons_zero,aA]at hi;subst hi;exact⟨c,rfl,hd⟩
   |succ i =>simp only[List.getElem?_cons_succ]at hi ⊢;exact zfh h1 i s hi
  ·cases h
def vK(l:List (List UInt8)):List (List UInt8):=l.mergeSort fun x y=>decide (x<=y)
def JC(ds:List D)(O:Store):Option (Out×Store):=match ds with
 |[.arr k id 0 n]=>dH (dC O.dE id) fun cs=>dK (k.sz==1&&(cs.length==n&&(decide (0<n)&&decide (n<=iN)))) (dH (Hu cs) fun l=>some (.ret ⟨false,.fN []⟩,{O with dE:=fF O.dE id (iM (vK l))})) none
 |_=>none
def DI(ds:List D)(O:Store):Option (Out×Store):=match ds with
 |[.arr k id 0 n]=>dH (dC O.dE id) fun cs=>dK (k.sz==1&&(cs.length==n&&(decide (0<n)&&decide (n<=iN)))) (dH (Hu cs) fun l=>some (.ret ⟨false,.arr k id 0 (Lib.compact l).length⟩,{O with dE:=fF O.dE id (iM (Lib.compact l++List.replicate (l.length-(Lib.compact l).length) []))})) none
 |_=>none
theorem zsz{w:World}{b:Nat}{vs:List Value}{T:TypeId}(h:w.heap[b]?=some (.cells ⟨vs⟩ T (0,0)))(d:Array (List UInt8)):(Sort.putRow encStr w b 0 d).heap[b]?=some (.cells ⟨(Sort.putCells encStr 0 d ⟨vs⟩).toList⟩ T (0,0)):=by simp only[Sort.putRow,Sort.mapBlock,Array.getElem?_modify,if_true,h,bN];rfl
theorem zqy{w:World}{b:Nat}(d:Array (List UInt8)){x:Nat}(hx:x≠b):(Sort.putRow encStr w b 0 d).heap[x]?=w.heap[x]?:=by simp only[Sort.putRow,Sort.mapBlock,Array.getElem?_modify,if_neg (Ne.symm hx)]
theorem BG{vs:List Value}(d:List (List UInt8))(hd:d.length<=vs.length)(i:Nat)(s:List UInt8)(hi:d[i]?=some s):(Sort.putCells encStr 0 d.toArray ⟨vs⟩).toList[i]?=some (.string ⟨s.toArray⟩):=by obtain⟨hlt,he⟩:=List.getElem?_eq_some_iff.1 hi;subst he;simp only[Sort.putCells,Array.toList_mapIdx,List.getElem?_mapIdx];rw[List.getElem?_eq_getElem (by omega)];simp[hlt,encStr]
theorem ze5{I:fU}{j:fJ}{own:gZ}{O:Store}{w:World}(hG:eH I j own O w){id b:Nat}{cs:List Cell}(hcs:dC O.dE id=some cs)(hjb:j id=some b)(hown:own b=some (.obj id)){vs:List Value}{T:TypeId}(hheap:w.heap[b]?=some (.cells ⟨vs⟩ T (0,0)))(hlen:cs.length<=vs.length)
  (zs:List (List UInt8)) (hz:zs.length=cs.length) (n:Nat) (os:Array Obj) :
  eH I j own {O with dE:=fF O.dE id (iM zs)} (Sort.grow (Sort.putRow encStr (Sort.ahead w n) b 0 zs.toArray) os)/\fD I j own w I j own (Sort.grow (Sort.putRow encStr (Sort.ahead w n) b 0 zs.toArray) os) (fun t=>t=.obj id):=by
 have hh:(Sort.ahead w n).heap[b]?=some (.cells ⟨vs⟩ T (0,0)):=hheap;have h1:=zsz hh zs.toArray;obtain⟨w1,hw1⟩:∃w1,w1=Sort.putRow encStr (Sort.ahead w n) b 0 zs.toArray:=⟨_,rfl⟩;have hoth:∀x,x≠b->w1.heap[x]?=w.heap[x]?:=fun x hx=>by rw[hw1];exact zqy _ hx
 have hsz:w1.heap.size=w.heap.size:=by rw[hw1,Sort.size_putRow];rfl
 have hf:w1.os=w.os/\w1.tape=w.tape/\w1.output=w.output:=by rw[hw1];exact⟨rfl,rfl,rfl⟩
 rw[<-hw1]at h1 ⊢;have hvl:(Sort.putCells encStr 0 zs.toArray ⟨vs⟩).toList.length=vs.length:=by simp[Sort.putCells]
 obtain⟨g1,e1⟩:=hG.setObj (cs':=iM zs) (w':=w1) hcs hjb hown hf.1 hf.2.1 hf.2.2 (by omega) hoth hheap h1 (by rw[hvl];simp[iM];omega) (by rw[hvl];rfl) (fun i c hi=>by
  simp only[iM,List.getElem?_map,Option.map_eq_some_iff]at hi;obtain⟨s,hs,rfl⟩:=hi;exact⟨_,BG zs (by omega) i s hs,rfl,by simp only[dL],fun h=>by cases h⟩)
 have hx:RowKit.Below w1.heap.size w1 (Sort.grow w1 os):=⟨rfl,rfl,rfl,by simp[Sort.grow],fun x hx=>by
  show(w1.heap++os)[x]?=w1.heap[x]?;rw[Array.getElem?_append_left hx]⟩
 have hE:fD I j own w1 I j own (Sort.grow w1 os) (fun _=>False):=⟨hx.os,hx.tape,hx.output,hx.size,fun _ _ _ h=>h,fun _ _ h=>h,fun b hb _=>⟨hx.block b hb,rfl,fun _=>rfl⟩⟩;refine⟨g1.kN hE (fun b o v h=>?_) g1.kS (fun b t h=>aP (g1.jU b t h) hx.size) g1.mG (fun _ _ _=>⟨fun h=>h,fun _ _ _ _ h=>h⟩) (fun _ _ _ h=>h),?_⟩
 ·rw[World.cell?_of_block (w:=w1) (w':=Sort.grow w1 os) (a:=⟨b,o,none⟩) (hx.block b (Ef g1 h))];exact g1.holds b o v h
 ·refine⟨hx.os.trans e1.os,hx.tape.trans e1.tape,hx.output.trans e1.output,Nat.le_trans e1.size hx.size,fun _ _ _ h=>h,fun _ _ h=>h,fun x hxl hxt=>⟨?_,rfl,fun _=>rfl⟩⟩;rw[hx.block x (by omega)];exact(e1.block x hxl hxt).1
theorem zdn{I:fU}{j:fJ}{own:gZ}{w:World}{id b:Nat}{cs:List Cell}{l:List (List UInt8)}{vs:List Value}{T:TypeId}(hl:Hu cs=some l)(hheap:w.heap[b]?=some (.cells ⟨vs⟩ T (0,0)))(hcell:∀(i:Nat) (c:Cell),cs[i]?=some c->∃v,vs[i]?=some v/\v.oneCell'=true/\uG I j own w (.uV id i) c v):Sort.Holds encStr w b 0 l.toArray:=by
 intro i hi;have hi':i<l.length:=by simpa using hi
 obtain⟨c,h1,h2⟩:=zfh hl i l[i] (List.getElem?_eq_getElem hi');obtain⟨v,h3,_,h4,_⟩:=hcell i c h1;rw[h2]at h4;simp only[dL]at h4;subst h4;refine⟨?_,Lib.frozen_of_heap hheap _⟩;rw[cell_of_row w b _ _ _ _ hheap];simp[h3,hi',encStr]
theorem zd4{I:fU}{j:fJ}{k:RowK}{id n b:Nat}{v:Value}(hk:k.sz=1)(hn:0<n)(hjb:j id=some b)(h:dL I j (.arr k id 0 n) v):∃c,j (id+1)=some c/\n<=c/\c<=maxLen/\v=.slice (some ⟨b,0,none⟩) n c:=by
 simp only[dL]at h;obtain⟨b',c,a,h1,h2,⟨h3,h4⟩,rfl,h6⟩:=h;rw[hjb]at h1;cases h1;refine⟨c,h2,by omega,h4,?_⟩;rcases h6 with h6|h6
 ·omega
 ·rw[h6];simp
theorem zdlb{ds:List D}{O O':Store}{out:Out}(h:JC ds O=some (out,O')):uL Tryz.prog κ 120 ds O out O':=by
 refine(wY (show jK 120=false from rfl)).2 ⟨⟨_,_,Tryz.func120,by kernel_rfl,rfl⟩,fun I j own w vs hS hB hG hr=>?_⟩;unfold JC at h;split at h
 ·rename_i k id n;obtain⟨cs,h1,ha⟩:=dJ h;obtain⟨h2,hb⟩:=gQ ha;obtain⟨l,h3,hc⟩:=dJ hb;cases hc;simp only[aC,beq_iff_eq,cE]at h2;obtain⟨hk,hn,hpos,hbd⟩:=h2;simp only[iN]at hbd;obtain⟨v,rfl,hv⟩:=IV hr;obtain⟨b,hjb,hown,row,T,hheap,hlen,hcell⟩:=hG.dE id cs h1;obtain⟨c,hc1,hc2,hc3,rfl⟩:=zd4 hk hpos hjb hv;have hll:=YR h3;have hH:=zdn h3 hheap hcell;have hblk:b<w.heap.size:=(Array.getElem?_eq_some_iff.1 hheap).1;have JK:=Tryz.slices_Sort_string b 0 c l w hH hblk (by omega);rw[show l.length=n by omega]at JK;refine JK.mono ?_;rintro e w' ⟨rfl,q,os,rfl⟩;obtain⟨g1,g2⟩:=ze5 hG h1 hjb hown hheap hlen (vK l) (by simp[vK,hll]) q os;exact⟨I,j,own,g1,g2.weaken (fun _ _=>trivial),hS,by simp[dL,dV],fun h=>by cases h⟩
 ·cases h
theorem zuv:∀l:List (List UInt8),(Lib.compact l).length<=l.length:=by intro l;unfold Lib.compact Lib.compactUpTo;rw[aJ];exact Nat.le_trans (List.length_filter_le _ _) (by simp)
theorem ztz{ds:List D}{O O':Store}{out:Out}(h:DI ds O=some (out,O')):uL Tryz.prog κ 77 ds O out O':=by
 refine(wY (show jK 77=false from rfl)).2 ⟨⟨_,_,Tryz.func77,by kernel_rfl,rfl⟩,fun I j own w vs hS hB hG hr=>?_⟩;unfold DI at h;split at h
 ·rename_i k id n;obtain⟨cs,h1,ha⟩:=dJ h;obtain⟨h2,hb⟩:=gQ ha;obtain⟨l,h3,hc⟩:=dJ hb;cases hc;simp only[aC,beq_iff_eq,cE]at h2;obtain⟨hk,hn,hpos,hbd⟩:=h2;simp only[iN]at hbd;obtain⟨v,rfl,hv⟩:=IV hr;obtain⟨b,hjb,hown,row,T,hheap,hlen,hcell⟩:=hG.dE id cs h1;obtain⟨c,hc1,hc2,hc3,rfl⟩:=zd4 hk hpos hjb hv;have hll:=YR h3;have hH:=zdn h3 hheap hcell;have JK:=Tryz.slices_Compact_string b 0 c l w hH (by omega) (by omega);rw[show l.length=n by omega]at JK;refine JK.mono ?_;rintro e w' ⟨rfl,q,rfl⟩;have hle:=zuv l;obtain⟨g1,g2⟩:=ze5 hG h1 hjb hown hheap hlen (Lib.compact l++List.replicate (l.length-(Lib.compact l).length) []) (by simp;omega) q #[];have hgr:∀w:World,Sort.grow w #[]=w:=fun w=>by simp[Sort.grow]
  rw[hgr]at g1 g2;rw[show l.length=n by omega]at g1 g2 ⊢;refine⟨I,j,own,g1,g2.weaken (fun _ _=>trivial),hS,?_,fun h=>by cases h⟩;simp only[dL];exact⟨b,c,⟨b,0,none⟩,hjb,hc1,⟨by omega,hc3⟩,rfl,.inr (by simp)⟩
 ·cases h
set_option maxRecDepth 10000
set_option maxHeartbeats 4000000
def Γc:FuncId->Option dZ:=fun f=>dK (f==IM) (some KQ) (dK (f==Dl) (some Oi) (dK (f==Ni||f==Nh) none (Γa f)))
theorem Γc_holds:Holds Tryz.prog Γc:=by
 intro f af h;unfold Γc at h;by_cases e:f=IM
 ·subst e;simp only[bW,dQ,aA]at h;subst h;exact⟨rfl,_,rfl,zlk⟩
 have e':(f==IM)=false:=by simpa using e
 rw[e',dX]at h;by_cases e2:f=Dl
 ·subst e2;simp only[bW,dQ,aA]at h;subst h;exact⟨rfl,_,rfl,zl2⟩
 have e2':(f==Dl)=false:=by simpa using e2
 rw[e2',dX]at h;obtain⟨h3,h4⟩:(f==Ni||f==Nh)=false/\Γa f=some af:=by
  cases hb:(f==Ni||f==Nh)with
  |true=>rw[hb,dQ]at h;cases h
  |false=>rw[hb,dX]at h;exact⟨rfl,h⟩
 exact Γa_holds f af h4
def Xc:eV:=fun f ds O=>dK (f==Ni) (JC ds O) (dK (f==Nh) (DI ds O) (Xa f ds O))
theorem zd0:rM Tryz.prog κ Xc:=by
 intro f ds O out O' h;unfold Xc at h;by_cases h1:f=Ni
 ·subst h1;simp only[bW,dQ]at h;exact zdlb h
 have e1:(f==Ni)=false:=by simpa using h1
 rw[e1,dX]at h;by_cases h2:f=Nh
 ·subst h2;simp only[bW,dQ]at h;exact ztz h
 have e2:(f==Nh)=false:=by simpa using h2
 rw[e2,dX]at h;exact CL f ds O out O' h
noncomputable def V(n:Nat):eV:=Iq Tryz.prog κ Γc Ra Xc [] n
noncomputable def VD(n:Nat):eV:=Ye Tryz.prog κ Γc Ra Xc [] n
theorem zdtb(n:Nat):rM Tryz.prog κ (V n):=(ME Γc_holds Gt zd0 n).1
theorem J2{n:Nat}{f:FuncId}{af:dZ}{ds:List D}{O:Store}(h:Γc f=some af)(hl:ds.length=af.nargs):V (n+1) f ds O=nA Ra (VD n) af O.next (exec (V n) n none af.body (mX ds) O):=OC rfl h hl
theorem zim{n:Nat}{f:FuncId}{ds:List D}{O:Store}(h:Γc f=none)(hY:jK f=false):V (n+1) f ds O=Xc f ds O:=ze7 rfl h hY
theorem zhpb{n:Nat}{ds:List D}{O:Store}:V (n+1) (oV+3) ds O=Yq (V n) n 3 ds O:=by have h:(fun f=>dK (iV ([]:fC) f) none (Γc f)) (oV+3)=none:=rfl;have hY:jK (oV+3)=true:=rfl;exact zcqb (Γ:=fun f=>dK (iV ([]:fC) f) none (Γc f)) h hY
def Yz:D:=.fn (.func TQ) [] [.ptr 0 0]
def JW:eR:=.region [⟨(some 5),.dO (.tmp 7),none⟩] none [6,7]
def RL(s:Dq):Rw:={slots:=[(2,⟨false,.ptr 1 0⟩),(6,⟨false,Yz⟩)],params:=[7],assign:=JW,body:=Zl,st:=s}
structure LK(l:List Tx)(O:Store)(i:Nat)(d:D):Prop where
 o0:dC O.dE 0=some [⟨false,dG l⟩]
 o1:dC O.dE 1=some [⟨false,d⟩]
 nx:4<=O.next
 dd:(i=0/\d=.dN)\/(∃a,d=.arr dY a 0 i/\4<=a/\a<O.next/\dC O.dE a=some (iM (l.take i))/\dC O.fH a=some ⟨dY.el,dY.sz⟩)
theorem Js(l:List Tx):(iM l).length=l.length:=by simp[iM]
theorem zdzb(l:List Tx):(iM l).map (fun c=>Cell.of c.d)=iM l:=by simp[iM,Cell.of]
theorem LK.app{l:List Tx}{O:Store}{i:Nat}{d:D}(h:LK l O i d)(hi:i<l.length)(hl:l.length<1000000000):∃O2,lR O dY 16 d [.str l[i]]=some (.arr dY O.next 0 (i+1),O2)/\O2.dP=O.dP/\O2.next=O.next+2/\dC O2.dE 0=some [⟨false,dG l⟩]/\dC O2.dE 1=some [⟨false,d⟩]/\dC O2.dE O.next=some (iM (l.take (i+1)))/\dC O2.fH O.next=some ⟨dY.el,dY.sz⟩:=by
 have hnx:=h.nx;have n0:(O.next==0)=false:=beq_false_of_ne (by omega);have n1:(O.next==1)=false:=beq_false_of_ne (by omega);have h1:jZ dY.sz [.str l[i]]=true:=rfl;have hce:cellsOf [.str l[i]]=[⟨false,.str l[i]⟩]:=rfl;have htk:iM (l.take (i+1))=iM (l.take i)++[⟨false,.str l[i]⟩]:=(by show(l.take (i+1)).map _=_;rw[<-mC l i hi,aU];rfl);rcases h.dd with⟨rfl,rfl⟩|⟨a,rfl,ha4,xm,hao,hat⟩
 ·refine⟨fR O dY (cellsOf [.str l[0]]),?_,rfl,rfl,?_,?_,?_,?_⟩
  ·have e1:decide ([D.str l[0]].length*16<=iN)=true:=rfl;have e2:decide ([D.str l[0]].length<=iN)=true:=rfl;simp only[lR,h1,dQ,List.isEmpty_cons,dX];rfl
  ·show dC ((O.next,_)::O.dE) 0=_;rw[dC,n0,dX,h.o0]
  ·show dC ((O.next,_)::O.dE) 1=_;rw[dC,n1,dX,h.o1]
  ·show dC ((O.next,_)::O.dE) O.next=_;rw[dC,bW,dQ,htk,hce];rfl
  ·show dC ((O.next,_)::O.fH) O.next=_;rw[dC,bW,dQ]
 ·have a0:¬a=0:=by omega
  have a1:¬a=1:=by omega
  refine⟨fR {O with dE:=gI O.dE a} dY (iM (l.take (i+1))),?_,rfl,rfl,?_,?_,?_,?_⟩
  ·have e0:decide (i*dY.sz<=(iM (l.take i)).length)=true:=by rw[Js];simp[dY];omega
   have e1:decide ((i+1)*16<=iN)=true:=decide_eq_true (show(i+1)*16<=1099511627776 by omega);have e2:decide (i+1<=iN)=true:=decide_eq_true (show i+1<=1099511627776 by omega);have ek:dY.same dY=true:=rfl;have ht:(iM (l.take i)).take (i*dY.sz)=iM (l.take i):=List.take_of_length_le (by rw[Js];simp[dY];omega);simp only[lR,h1,dQ,hao,hat,dH,eP,ek,bW,aG,aH,aN,e0,e1,e2,aY,ht,zdzb,hce,htk]
  ·show dC ((O.next,_)::gI O.dE a) 0=_;rw[dC,n0,dX,mK,if_neg a0,h.o0]
  ·show dC ((O.next,_)::gI O.dE a) 1=_;rw[dC,n1,dX,mK,if_neg a1,h.o1]
  ·show dC ((O.next,_)::gI O.dE a) O.next=_;rw[dC,bW,dQ]
  ·show dC ((O.next,_)::O.fH) O.next=_;rw[dC,bW,dQ]
structure WS(l:List Tx)(O:Store)(i:Nat)(d:D)(s:Dq):Prop where
 k:LK l O i d
 r:dC O.dP 3=some (.loop (RL s))
 m:dC O.dP 2=some .yP
theorem WS.set{l:List Tx}{O:Store}{i:Nat}{d:D}{s:Dq}(h:WS l O i d s)(t:Dq):WS l (Ed O 3 (RL s) t) i d t:=by
 refine⟨⟨h.k.o0,h.k.o1,h.k.nx,h.k.dd⟩,?_,?_⟩
 ·show dC (fF O.dP 3 _) 3=_;rw[jM,if_pos rfl];rfl
 ·show dC (fF O.dP 3 _) 2=_;rw[jM,if_neg (by decide),h.m]
theorem zaab{l:List Tx}{O:Store}{i:Nat}{d:D}(h:WS l O i d .ready)(hi:i<l.length)(hl:l.length<1000000000)(N:Nat):∃O' d',V (N+1) (oV+3) [.str l[i]] O=some (.ret ⟨false,.bool true⟩,O')/\WS l O' (i+1) d' .ready:=by
 have hb:=h.set .busy;obtain⟨Ob,hOb⟩:∃Ob,Ob=Ed O 3 (RL .ready) .busy:=⟨_,rfl⟩;rw[<-hOb]at hb;have hk':LK l {Ob with dE:=fF Ob.dE 1 [⟨false,d⟩]} i d:=by
  have hk:=hb.k;refine⟨?_,?_,hk.nx,?_⟩
  ·show dC (fF Ob.dE 1 _) 0=_;rw[jM,if_neg (by decide),hk.o0]
  ·show dC (fF Ob.dE 1 _) 1=_;rw[jM,if_pos rfl]
  ·rcases hk.dd with h1|⟨a,q1,q2,q3,q4,q5⟩
   ·exact .inl h1
   ·refine .inr ⟨a,q1,q2,q3,?_,q5⟩;show dC (fF Ob.dE 1 _) a=_;rw[jM,if_neg (by omega),q4]
 obtain⟨O2,a1,a2,a3,a4,a5,a6,a7⟩:=hk'.app hi hl;simp only at a1 a2 a3;obtain⟨Oc,hOc⟩:∃Oc:Store,Oc={O2 with dE:=fF O2.dE 1 [⟨false,.arr dY Ob.next 0 (i+1)⟩]}:=⟨_,rfl⟩;have hc:WS l Oc (i+1) (.arr dY Ob.next 0 (i+1)) .busy:=by
  have hnx:=hb.k.nx;subst hOc;refine⟨⟨?_,?_,?_,.inr ⟨Ob.next,rfl,hnx,?_,?_,a7⟩⟩,?_,?_⟩
  ·show dC (fF O2.dE 1 _) 0=_;rw[jM,if_neg (by decide),a4]
  ·show dC (fF O2.dE 1 _) 1=_;rw[jM,if_pos rfl]
  ·show 4<=O2.next;omega
  ·show Ob.next<O2.next;omega
  ·show dC (fF O2.dE 1 _) Ob.next=_;rw[jM,if_neg (by omega)];exact a6
  ·show dC O2.dP 3=_;rw[a2];exact hb.r
  ·show dC O2.dP 2=_;rw[a2];exact hb.m
 have hbody:exec (V N) N (some 3) Zl {slots:=[(2,⟨false,.ptr 1 0⟩),(5,⟨false,.str l[i]⟩)],dR:=[],boxes:=[],defers:=[]} Ob=some (.normal,{slots:=[],dR:=[],boxes:=[],defers:=[]},Oc):=(by have o1:=hb.k.o1;subst hOc;have kE:nB (fF Ob.dE 1 [⟨false,d⟩]) (.list dY [.str l[i]])=some [.str l[i]]:=rfl;simp only[Zl,sA,seval,kn,fP,mE,o1,kE,a1,a5]);have hasg:exec (V N) N (some 3) JW {slots:=Ha [7] [.str l[i]] (RL .ready).slots,dR:=[],boxes:=[],defers:=[]} O=some (.normal,{slots:=[(2,⟨false,.ptr 1 0⟩),(5,⟨false,.str l[i]⟩)],dR:=[],boxes:=[],defers:=[]},O):=(by simp only[JW,RL,Ha,sA,seval,kn]);have hf:=hc.set .ready;refine⟨_,_,?_,hf⟩;rw[zhpb];have l1:xI O 3=some (RL .ready):=by simp only[xI,h.r,dH,eP]
 have l2:xI Oc 3=some (RL .busy):=by simp only[xI,hc.r,dH,eP]
 unfold Yq;simp only[l1,dH,eP];show dK true (EX (V N) N 3 Zl (exec (V N) N (some 3) JW {slots:=Ha [7] [.str l[i]] (RL .ready).slots,dR:=[],boxes:=[],defers:=[]} O)) none=_;rw[hasg,dQ];unfold EX;simp only[l1,dH,eP];show dK true (EY (V N) N 3 (exec (V N) N (some 3) Zl {slots:=[(2,⟨false,.ptr 1 0⟩),(5,⟨false,.str l[i]⟩)],dR:=[],boxes:=[],defers:=[]} (Ed O 3 (RL .ready) .busy))) none=_;rw[<-hOb,hbody,dQ];unfold EY;simp only[l2,dH,eP]
def uu:List (Nat×dZ):=[(mI,VV),(Tq,VU),(uZ,tD),(U6,Zn),(yF,Jj),
 (Nb,Gh),(Nc,Gi),(Na,Gj),(tB,Zq),(To,KY),(Tn,Oj),(SN,KU)]
def Γd:FuncId->Option dZ:=fun f=>iW (dC uu f) (Γc f) some
theorem Γd_holds:Holds Tryz.prog Γd:=by
 intro f af h;unfold Γd at h;by_cases e1:f=mI
 ·subst e1;cases h;exact⟨rfl,_,rfl,zmy⟩
 by_cases e2:f=Tq
 ·subst e2;cases h;exact⟨rfl,_,rfl,zmq⟩
 by_cases e3:f=uZ
 ·subst e3;cases h;exact⟨rfl,_,rfl,zmr⟩
 by_cases e4:f=U6
 ·subst e4;cases h;exact⟨rfl,_,rfl,zlv⟩
 by_cases e5:f=yF
 ·subst e5;cases h;exact⟨rfl,_,rfl,zmg⟩
 by_cases e6:f=Nb
 ·subst e6;cases h;exact⟨rfl,_,rfl,zl7⟩
 by_cases e7:f=Nc
 ·subst e7;cases h;exact⟨rfl,_,rfl,zmh⟩
 by_cases e8:f=Na
 ·subst e8;cases h;exact⟨rfl,_,rfl,zms⟩
 by_cases e9:f=tB
 ·subst e9;cases h;exact⟨rfl,_,rfl,zlw⟩
 by_cases e10:f=To
 ·subst e10;cases h;exact⟨rfl,_,rfl,zoi⟩
 by_cases e11:f=Tn
 ·subst e11;cases h;exact⟨rfl,_,rfl,znd⟩
 by_cases e12:f=SN
 ·subst e12;cases h;exact⟨rfl,_,rfl,znx⟩
 have hn:∀{m:Nat},f≠m->(m==f)=false:=fun h=>beq_false_of_ne fun e=>h e.symm;have hg:dC uu f=none:=by
  simp only[uu,dC,hn e1,hn e2,hn e3,hn e4,hn e5,hn e6,hn e7,hn e8,hn e9,hn e10,hn e11,hn e12,dX]
 rw[hg]at h;exact Γc_holds f af h
noncomputable def W(S:fC)(n:Nat):eV:=Iq Tryz.prog κ Γd Ra Xc S n
noncomputable def WD(S:fC)(n:Nat):eV:=Ye Tryz.prog κ Γd Ra Xc S n
theorem uH(S:fC)(n:Nat):rM Tryz.prog κ (W S n):=(ME Γd_holds Gt zd0 n).1
theorem fW{S:fC}{n:Nat}{f:FuncId}{af:dZ}{ds:List D}{O:Store}(hs:iV S f=false)(h:Γd f=some af)(hl:ds.length=af.nargs):W S (n+1) f ds O=nA Ra (WD S n) af O.next (exec (W S n) n none af.body (mX ds) O):=OC hs h hl
theorem zkkb{S:fC}{n:Nat}{f:FuncId}{ds:List D}{O:Store}(hs:iV S f=false)(h:Γd f=none)(hY:jK f=false):W S (n+1) f ds O=Xc f ds O:=ze7 hs h hY
theorem vH{S:fC}{f:FuncId}{s:List D->Cell->Prop}{ds:List D}{c:Cell}(hf:dC S f=some s)(hY:jK f=false)(hs:s ds c)(hp:eW f ds c):∃c',s ds c'/\∀n O,W S (n+1) f ds O=some (.ret c',O):=ZR hf hY hs hp
theorem uN{C:eV}{n:Nat}{f:FuncId}{af:dZ}{ds:List D}{c:Cell}{O':Store}(hC:rM Tryz.prog κ C)(h:Γd f=some af)(hl:ds.length=af.nargs)(hd:fO ds=true)(hc:iF c.d=true)
  (hr:nA Ra (fun _ _ _=>none) af 0 (exec C n none af.body (mX ds) cH)=some (.ret c,O')):eW f ds c:=by
 obtain⟨hY,fn,hfn,hok⟩:=Γd_holds f af h;refine LF hC Gt hY hfn hok hl hd hc (n:=n) (O':=O') ?_;unfold nA at hr;exact hr
theorem zhqb{S:fC}{n:Nat}{f:FuncId}{af:dZ}{ds:List D}{O O2:Store}{e:Env}{c:Cell}(hs:iV S f=false)(h:Γd f=some af)(hl:ds.length=af.nargs)(hx:exec (W S n) n none af.body (mX ds) O=some (.normal,e,O2))(hd:e.defers=[])(hg:af.gc=false)(hr:vV e O2 af.res=some c) :
  WD S (n+1) f ds O=some (.ret c,O2):=by
 unfold WD Ye;unfold W Iq at hx;rw[pS,hs];simp only[dX,h,hl,bW,dQ,hx,zE,hd,hg,List.isEmpty_nil,bZ,Bool.and_false,qL,dH,eP,hr]
theorem zpg{R:sD}{C:eV}{m:Option D}{f:FuncId}{ds:List D}{O O':Store}{c:Cell}(hY:jK f=false)(hR:R f ds m O=none)(hC:C f ds O=some (.ret c,O')):qL R C m [(f,ds)] O=some (m,O'):=by simp only[qL,hY,dX,hR,hC,dH,eP]
def Ev(S:fC)(f:FuncId)(ds:List D)(O O':Store):Prop:=∃n0,∀n,n0<=n->W S n f ds O=some (.ret ⟨false,.fN []⟩,O')
def Ret(S:fC)(f:FuncId)(ds:List D)(O:Store)(d:D)(O':Store):Prop:=∃n0,∀n,n0<=n->W S n f ds O=some (.ret ⟨false,d⟩,O')
theorem Ev.of{S:fC}{f:FuncId}{ds:List D}{O O':Store}(k:Nat)(h:∀n,k<=n->W S (n+1) f ds O=some (.ret ⟨false,.fN []⟩,O')):Ev S f ds O O':=⟨k+1,fun n hn=>by
 obtain⟨m,rfl⟩:∃m,n=m+1:=⟨n-1,by omega⟩;exact h m (by omega)⟩
theorem zoxb{x y:Cell}:oS [x,y] none 0=some x/\oS [x,y] none 1=some y:=⟨rfl,rfl⟩
theorem zowb{x:Cell}:oS [x] none 0=some x:=rfl
theorem zovb{x y z:Cell}:putCells [x,y] 0 [z]=[z,y]/\putCells [x,y] 1 [z]=[x,z]/\putCells [x] 0 [z]=[z]:=⟨rfl,rfl,rfl⟩
section
variable{S:fC}{O:Store}{p a m:Nat}{L:List In}{M:At}{md:D}
theorem E9(hs:iV S mI=false)(h:CA O p a md L)(hl:L.length<1000000000)(op:Tx)(x:Int):∃O',(∀n,W S (n+1) mI [.ptr p 0,.str op,.int .i64 x] O=some (.ret ⟨false,.fN []⟩,O'))/\CA O' p O.next md (L++[eJ op x])/\(∀m,iD p a m O.next m O O')/\O'.dP=O.dP:=by obtain⟨O1,h1,h2,h3,h4,h5,_,_⟩:=h.app (eJ op x) hl;refine⟨_,fun n=>?_,h3,h4,h5⟩;have ho:=h.obj;rw[fW hs rfl rfl];have hone:=CY a L;have ok1:jZ fE.sz [D.agg [.str op,.int .i64 x,.int .i64 0,.str []]]=true:=rfl;simp only[eJ,dI]at h1;simp only[VV,sA,Nat.reduceAdd,Nat.reduceMul,Nat.reduceBEq,Nat.reduceLeDiff,kn,fP,mB,ho,h1,h2]
theorem zs7{C:eV}{rest:List iC}{dst:Option Nat}{e e':Env}{O O':Store}{ws:List Nat}:Rb C rest dst (some ws) e O (some (.next e' O'))=dK (ws.all (pN e O O')) (mR C rest e' O') none:=rfl
theorem zmpb{i:In}:oS [⟨false,.str i.op⟩,⟨false,.int .i64 i.n⟩,⟨false,.int .i64 i.m⟩,⟨false,.str i.name⟩] (some 4) 0=some ⟨false,dI i⟩:=rfl
structure HF(O:Store)(p a k bx bk:Nat):Prop where
 x:dC O.dE bx=some [⟨false,.ptr p 0⟩]
 k:dC O.dE bk=some [⟨false,.int .i64 k⟩]
 xn:bx<O.next
 kn:bk<O.next
 xp:bx≠p/\bx≠a
 kp:bk≠p/\bk≠a
theorem HF.keep{O O':Store}{p a m a' m' k bx bk:Nat}(h:HF O p a k bx bk)(f:iD p a m a' m' O O'):HF O' p a' k bx bk:=by have h1:=h.xn;have h2:=h.kn;have h3:=f.nx;have h4:=h.xp;have h5:=h.kp;exact⟨f.get h.x h.xn h.xp.1 h.xp.2,f.get h.k h.kn h.kp.1 h.kp.2,by omega,by omega,⟨h4.1,by rcases f.fa with e|e<;>omega⟩,⟨h5.1,by rcases f.fa with e|e<;>omega⟩⟩
def rD(bx bk:Nat):D:=.fn (.func U5) [] [.ptr bx 0,.ptr bk 0]
theorem ZI(hs:iV S Tq=false)(h:CA O p a md L)(hl:L.length<1000000000)(i:In):∃O' bx bk a',(∀n,W S (n+1) Tq [.ptr p 0,dI i] O=some (.ret ⟨false,rD bx bk⟩,O'))/\CA O' p a' md (L++[i])/\(∀m,iD p a m a' m O O')/\O'.dP=O.dP/\HF O' p a' L.length bx bk/\O.next<=bx/\O.next<=bk:=by
 have hp:=h.pn;have ha:=h.an;obtain⟨O1,e1⟩:∃O1,O1=GA O Ae [⟨false,.ptr p 0⟩]:=⟨_,rfl⟩;obtain⟨O2,e2⟩:∃O2,O2=GA O1 En [⟨false,.int .i64 0⟩]:=⟨_,rfl⟩;obtain⟨O3,e3⟩:∃O3,O3=SO O2 (O.next+1) [⟨false,.int .i64 L.length⟩]:=⟨_,rfl⟩;have n1:O1.next=O.next+1:=by rw[e1,nO]
 have n2:O2.next=O.next+2:=by rw[e2,nO,n1]
 have n3:O3.next=O.next+2:=by rw[e3,oJ,n2]
 have hx:CA O3 p a md L:=(by rw[e3];refine CA.so ?_ (by omega) (by omega);rw[e2];refine CA.ga ?_;rw[e1];exact h.ga);have hf:∀m,iD p a m a m O O3:=fun m=>by
  rw[e3];refine iD.so ?_ (.inl (by omega));rw[e2];refine iD.trans ?_ iD.ga;rw[e1];exact iD.ga
 obtain⟨O4,h1,h2,h3,h4,h5,h6,h7⟩:=hx.app i hl;have b0:dC O1.dE O.next=some [⟨false,.ptr p 0⟩]:=by rw[e1,pA]
 have b1:dC O1.dE p=some [⟨false,qS a L⟩,⟨false,md⟩]:=by rw[e1,nP (by omega)];exact h.obj
 have b2:dC O3.dE O.next=some [⟨false,.ptr p 0⟩]:=by rw[e3,mS (by omega),e2,nP (by omega),b0]
 have b3:=hx.obj;have b4:dC O2.dE (O.next+1)=some [⟨false,.int .i64 0⟩]:=(by have:=pA (O:=O1) (t:=En) (cs:=[⟨false,.int .i64 0⟩]);rw[n1]at this;rw[e2,this]);have b6:dC O3.dE (O.next+1)=some [⟨false,.int .i64 L.length⟩]:=by rw[e3,rL]
 have b5:dC O4.dE O.next=some [⟨false,.ptr p 0⟩]:=by rw[h7 _ (by omega) (by omega),b2]
 have b7:dC O4.dE (O.next+1)=some [⟨false,.int .i64 L.length⟩]:=by rw[h7 _ (by omega) (by omega),b6]
 have ho3:O3.dP=O.dP:=by rw[e3,Qb,e2,F7,e1,F7]
 refine⟨_,O.next,O.next+1,_,fun n=>?_,h3,fun m=>(hf m).trans (h4 m),h5.trans ho3,?_,aM _,by omega⟩
 ·rw[fW hs rfl rfl];have hone:=CY a L;have ok1:jZ fE.sz [dI i]=true:=rfl;have hln:=zbrb a L;simp only[dI]at h1 ok1;have htk:=zmpb (i:=i);simp only[dI]at htk;simp only[VU,dI,sA,Nat.reduceAdd,Nat.reduceMul,Nat.reduceBEq,Nat.reduceLeDiff,kn,fP,mB,<-e1,n1,b0,b1,hln,<-e2,b4,<-e3,b2,b3,h1,zs7,pN,b5,BL,h2,rD]
 ·have nx:O3.next<(SO O4 p [⟨false,.arr fE O3.next 0 (L.length+1)⟩,⟨false,md⟩]).next:=by rw[oJ];omega
  exact⟨by rw[mS (by omega)];exact b5,by rw[mS (by omega)];exact b7,by omega,by omega,⟨by omega,by omega⟩,⟨by omega,by omega⟩⟩
theorem zc5(hs:iV S U5=false)(h:CS O p a m L M){k bx bk:Nat}(hh:HF O p a k bx bk)(hk:k<L.length):∃O',(∀n,W S (n+1) U5 [.ptr bx 0,.ptr bk 0] O=some (.ret ⟨false,.fN []⟩,O'))/\CS O' p a m (kK L k L.length) M/\iD p a m a m O O':=by
 obtain⟨h1,h2⟩:=h.set k L.length hk;refine⟨_,fun n=>?_,h1,h2⟩;have hne:L≠[]:=fun e=>by rw[e]at hk;simp at hk
 obtain⟨g1,g2⟩:=h.ca.arr hne;have ho:=h.ca.obj;rw[DK _ _ hne]at ho;have hx:=hh.x;have hkk:=hh.k;have hd:k*4+1+1<=(cI L).length:=by rw[Wx];omega
 have e4:(fE.sz==4)=true:=rfl;rw[fW hs rfl rfl];simp only[nu,sA,Nat.reduceAdd,Nat.reduceBEq,kn,fP,mB,hx,hkk,ho,Ea,hk,g1,hd]
end
end Go.Fu
