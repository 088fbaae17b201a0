/- A part of the proof. -/
import Derived.Test.YtldfbnbckiifeaaGreatDoorFgCode4
import Derived.Recover
import Derived.Lib.Builder
import Derived.Lib.MakeNoZero
import Derived.Laws.IdiomCopy
import Derived.Shelf.Strings.Builder1
set_option maxHeartbeats 4000000
set_option linter.all false
namespace Go.Fu
open Go Go.Mx
def Ry:dZ:=⟨4,35,[.tmp 6],(sq [mo 4 (.box (I 0)),mo 6 (.dO I7)] [0,6] (.seq (sq [mf 7 0 4,ml 8 7,I1 9 .eql 8 1,mw 10 9,I4 11 10 true (.dO (I 1)),I4 12 10 true (.fieldAddr 2 none (I 4)),I4 13 10 true (.load none false (I 12)),I4 14 10 true (.call Ad [I 11,I 13]),I4 15 10 true (.un .not (I 14)),O4 16 10 15,mw 17 16,I4 18 17 true (.load none false (I 2)),I4 19 17 true (.fieldAddr 2 none (I 4)),I4 20 17 true (.load none false (I 19)),I4 21 17 true (.call Ad [I 18,I 20]),O4 22 17 21,mw 23 22,I4 24 23 true (.load none false (I 3)),I4 25 23 true (.fieldAddr 2 none (I 4)),I4 26 23 true (.load none false (I 25)),I4 27 23 true (.call Ad [I 24,I 26]),I4 28 23 true (.un .not (I 27)),O4 29 23 28] [1,2,7,8,9,10,11,12,13,14,15,16,17,18,19,20,21,22,23,24,25,26,27,28] (O7 29 (rg [mo 30 (.load none true (I 3)),mf 31 2 4,ml 32 31,O2 33 dY 32,mo 34 (.append dY 16 (.mv 30) (I 33)),I3 1 3 34] [3,4,29,30,31,32,33,34]) .skip)) (sq [mo 6 (.dO I6)] [3,4,29] .ret))),false⟩
def zio:eR:=(sq [I0 29 .lss 28 27] [] (.seq (O7 29 .skip (.exit 0)) (.seq (.block 1 (sq [mt 30 28,mw 3 30] [29,30] (.region [mf 31 8 1,mo 32 (.jB none (I 31)),mt 33 3,mf 34 8 1,mo 35 (.jB none (I 34)),mt 36 3,O0 37 15 35 36,mo 38 (.fieldAddr 1 (some 4) (I 37)),mo 39 (.iT (some 4) (I 38)),mo 40 (.nD [31] pq [I 39]),O0 41 15 32 33,mo 42 (.fieldAddr 1 (some 4) (I 41)),⟨none,.nM 4 (I 42) (I 40),none⟩] (some [0,1,2,3,4,5,6,7,8,9,10,11,12]) [3,31,32,33,34,35,36,37,38,39,40,41,42]))) (rg [I1 43 .add 28 1,mw 28 43] [43]))))
def ziq:eR:=(sq [I0 48 .lss 47 46] [] (.seq (O7 48 .skip (.exit 2)) (.seq (.block 3 (sq [mt 49 47,mw 4 49] [48,49] (.region [mf 50 9 1,mo 51 (.jB none (I 50)),mt 52 4,mf 53 9 1,mo 54 (.jB none (I 53)),mt 55 4,O0 56 14 54 55,mf 57 3 56,mo 58 (.iT none (I 57)),mo 59 (.nD [50] Dl [I 58]),O0 60 14 51 52,mf 61 3 60,⟨none,.nM 1 (I 61) (I 59),none⟩] (some [0,1,2,3,4,5,6,7,8,9,10,11,12]) [4,50,51,52,53,54,55,56,57,58,59,60,61]))) (rg [I1 62 .add 47 1,mw 47 62] [62]))))
def zir:eR:=(sq [I0 73 .lss 72 71] [] (.seq (O7 73 .skip (.exit 6)) (.seq (.block 7 (sq [O0 74 1 70 72,ml 75 74,mw 8 75] [73,74,75] (rg [mt 76 8,mt 77 8,mo 78 (.nilCheck (I 77)),O1 79 10 false 78,O3 80 Tm [I 79],mo 81 (.nilCheck (I 76)),I3 10 81 80] [8,76,77,78,79,80,81]))) (rg [I1 82 .add 72 1,mw 72 82] [82]))))
def zis:eR:=(sq [I0 66 .lss 65 64] [] (.seq (O7 66 .skip (.exit 4)) (.seq (.block 5 (sq [O0 67 2 63 65,O1 68 2 false 67,mo 6 (.alloc [.dN,.dN]),I3 2 6 68] [66,67,68] (sq [mf 69 1 6,ml 70 69,I9 71 70,O6 72 0] [6,69] (.block 6 (.loop zir))))) (rg [I1 83 .add 65 1,mw 65 83] [70,71,72,73,83]))))
def PW:dZ:=⟨1,85,[.cell 2 (some 10)],(sq [mo 1 (.mF UD (I 0)),mo 2 (.alloc O8)] [0] (sq [mo 9 (.fieldAddr 3 (some 4) (I 1)),O1 10 4 false 9,O3 11 pq [I 10],mo 12 (.fieldAddr 3 (some 4) (I 1)),I3 4 12 11] [9,10,11,12] (.seq (.region [mf 13 7 1,mo 14 (.jB none (I 13)),mf 16 8 1,mo 17 (.jB none (I 16)),mf 19 9 1,mo 20 (.jB none (I 19)),mo 15 (.nD [16,19] Nc [I 14]),mo 18 (.nD [19] Nb [I 17]),O3 21 Na [I 20],mf 22 7 1,⟨none,.nM 1 (I 22) (I 15),none⟩,mf 23 8 1,⟨none,.nM 1 (I 23) (I 18),none⟩,mf 24 9 1,⟨none,.nM 1 (I 24) (I 21),none⟩] (some [0,1,3,4,6,7,2,5,8,9,10,11,12,13,14]) [13,14,15,16,17,18,19,20,21,22,23,24]) (.seq (sq [mf 25 8 1,ml 26 25,I9 27 26,O6 28 0] [25,26] (.block 0 (.loop zio))) (.seq (sq [mf 44 9 1,ml 45 44,I9 46 45,O6 47 0] [27,28,29,44,45] (.block 2 (.loop ziq))) (.seq (sq [O3 63 SN [I 1],I9 64 63,O6 65 0] [46,47,48] (.block 4 (.loop zis))) (sq [O1 84 10 true 1,I3 10 2 84] [1,63,64,65,66,84] .ret))))))),false⟩
def J5:eR:=(sq [I0 11 .lss 10 9] [] (.seq (O7 11 .skip (.exit 0)) (.seq (.block 1 (sq [mt 12 10,O0 13 15 8 10,O1 14 15 false 13,mo 6 (.alloc Q3),mw 5 12,I3 15 6 14] [11,12,13,14] (sq [ml 15 1,mo 16 (.fieldAddr 5 (some 10) (I 6)),O1 17 10 false 16,ml 18 2,ml 19 3,I0 20 .add 18 19,O3 21 uZ [I 15,I 17,I 20]] [6,15,16,17,18,19,20,21] (rg [ml 22 1,ml 23 3,I1 24 .sub 23 1,mt 25 5,I0 26 .sub 24 25,mo 27 (.call mI [I 22,(I5 [85,80,68,65,84,69]),I 26])] [5,22,23,24,25,26,27])))) (rg [I1 28 .add 10 1,mw 10 28] [28]))))
def QD:dZ:=⟨5,38,[],(.seq (sq [mf 7 8 0,ml 8 7,I9 9 8,O6 10 0] [7] (.block 0 (.loop J5))) (.region [mo 29 (.jB none (I 4)),mf 30 7 0,mo 31 (.jB none (I 30)),mo 32 (.indexAddr 10 (I 31) (ci 0)),mo 33 (.iT (some 10) (I 32)),mo 34 (.jB none (I 2)),mo 35 (.jB none (I 3)),I0 36 .add 34 35,mo 37 (.nE (I 29) [I 33,I 36])] (some [0,1,2,3,4,5,6,7,8]) [0,1,2,3,4,8,9,10,11,29,30,31,32,33,34,35,36,37])),false⟩
def QA:dZ:=⟨0,0,[],.skip,false⟩
def QB:dZ:=⟨4,12,[],(rg [ml 4 0,mo 5 (.fieldAddr 4 (some 10) (I 1)),O1 6 10 false 5,ml 7 2,ml 8 3,I9 9 8,I0 10 .add 7 9,mo 11 (.nE (I 4) [I 6,I 10])] [0,1,2,3,4,5,6,7,8,9,10,11]),false⟩
def QE:dZ:=⟨1,5,[],(sq [ml 1 0,mo 2 (.call mI [I 1,(I5 [80,79,80]),(ci 1)])] [1,2] (rg [ml 3 0,mo 4 (.call mI [I 3,(I5 [70,65,73,76]),(ci 0)])] [0,3,4])),false⟩
def zjc:dZ:=⟨1,25,[.tmp 2],(sq [O6 2 0] [] (.seq (sq [mt 3 0,mo 4 (.bin .geq (I 3) (.const (.int .u64 4294967296)))] [3] (O7 4 (sq [mt 5 0,mo 6 (.bin .shr (I 5) (.const (.int .u64 32))),mw 0 6] [2,4,5,6] (rg [O6 2 32] [])) .skip)) (.seq (sq [mt 7 0,mo 8 (.bin .geq (I 7) (.const (.int .u64 65536)))] [4,7] (O7 8 (sq [mt 9 0,mo 10 (.bin .shr (I 9) (.const (.int .u64 16))),mw 0 10] [8,9,10] (rg [mt 11 2,I1 12 .add 11 16,mw 2 12] [11,12])) .skip)) (.seq (sq [mt 13 0,mo 14 (.bin .geq (I 13) (.const (.int .u64 256)))] [8,13] (O7 14 (sq [mt 15 0,mo 16 (.bin .shr (I 15) (.const (.int .u64 8))),mw 0 16] [14,15,16] (rg [mt 17 2,I1 18 .add 17 8,mw 2 18] [17,18])) .skip)) (sq [mt 19 2,mw 20 0,mo 21 (.toInt .u8 (I 20)),mo 22 (.index (I5 [0,1,2,2,3,3,3,3,4,4,4,4,4,4,4,4,5,5,5,5,5,5,5,5,5,5,5,5,5,5,5,5,6,6,6,6,6,6,6,6,6,6,6,6,6,6,6,6,6,6,6,6,6,6,6,6,6,6,6,6,6,6,6,6,7,7,7,7,7,7,7,7,7,7,7,7,7,7,7,7,7,7,7,7,7,7,7,7,7,7,7,7,7,7,7,7,7,7,7,7,7,7,7,7,7,7,7,7,7,7,7,7,7,7,7,7,7,7,7,7,7,7,7,7,7,7,7,7,8,8,8,8,8,8,8,8,8,8,8,8,8,8,8,8,8,8,8,8,8,8,8,8,8,8,8,8,8,8,8,8,8,8,8,8,8,8,8,8,8,8,8,8,8,8,8,8,8,8,8,8,8,8,8,8,8,8,8,8,8,8,8,8,8,8,8,8,8,8,8,8,8,8,8,8,8,8,8,8,8,8,8,8,8,8,8,8,8,8,8,8,8,8,8,8,8,8,8,8,8,8,8,8,8,8,8,8,8,8,8,8,8,8,8,8,8,8,8,8,8,8,8,8,8,8,8,8]) (I 21)),mo 23 (.toInt .i64 (I 22)),I0 24 .add 19 23,mw 2 24] [0,14,19,20,21,22,23,24] .ret))))),false⟩
def zk2b:eR:=(.seq (.seq (.region [mt 16 7,mt 17 1,I0 18 .gtr 16 17,mw 19 18,I4 20 19 true (.dO (I 0)),I4 21 19 true (.dO (I 7)),I4 22 19 true (.indexAddr 1 (I 20) (I 21)),I4 23 19 true (.iT none (I 22)),I4 24 19 true (.dO (I 0)),I4 25 19 true (.dO (I 7)),I4 26 19 true (.bin .sub (I 25) (ci 1)),I4 27 19 true (.indexAddr 1 (I 24) (I 26)),I4 28 19 true (.iT none (I 27)),I4 29 19 true (.call zj2 [I 23,I 28]),O4 30 19 29] (some [0,1,2,3,4,5,6,7,8,9,10,11,12,13,14]) [16,17,18,19,20,21,22,23,24,25,26,27,28,29]) (O7 30 .skip (.exit 2))) (.seq (.block 3 (.region [mt 33 0,mt 34 7,mt 35 0,mt 36 7,I1 37 .sub 36 1,mt 38 0,mt 39 7,I1 40 .sub 39 1,O0 41 1 38 40,mo 42 (.iT none (I 41)),mt 43 0,mt 44 7,O0 45 1 43 44,mo 46 (.iT none (I 45)),O0 47 1 33 34,⟨none,.nM 1 (I 47) (I 42),none⟩,O0 48 1 35 37,⟨none,.nM 1 (I 48) (I 46),none⟩] (some [0,1,2,3,4,5,6,7,8,9,10,11,12,13,14,15,16,17]) [30,33,34,35,36,37,38,39,40,41,42,43,44,45,46,47,48])) (rg [mt 31 7,I1 32 .sub 31 1,mw 7 32] [31,32])))
def zk3b:eR:=(.seq (sq [mt 10 6,mt 11 2,I0 12 .lss 10 11] [10,11] (O7 12 .skip (.exit 0))) (.seq (.block 1 (sq [mt 15 6,mw 7 15] [12,15] (.block 2 (.loop zk2b)))) (rg [mt 13 6,I1 14 .add 13 1,mw 6 14] [7,13,14,30])))
def zjn:dZ:=⟨3,49,[],(sq [mt 8 1,I1 9 .add 8 1,mw 6 9] [8,9] (.block 0 (.loop zk3b))),false⟩
def PX:dZ:=⟨1,5,[.cell 2 (some 4)],(sq [mo 1 (.box (I 0)),mo 2 (.alloc [.int .i64 0,.int .i64 0,.str [],.dN])] [0] (sq [O1 3 4 false 1,O3 4 TR [I 3,I8,I8],I3 4 2 4] [1,3,4] .ret)),false⟩
def nu:dZ:=⟨2,14,[],(.region [mo 2 (.jB none (I 0)),mo 3 (.nilCheck (I 2)),mf 4 0 3,mo 5 (.jB none (I 4)),mo 6 (.jB none (I 1)),mo 7 (.jB none (I 0)),mo 8 (.nilCheck (I 7)),mf 9 0 8,mo 10 (.jB none (I 9)),I9 11 10,O0 12 4 5 6,mf 13 1 12,⟨none,.nM 1 (I 13) (I 11),none⟩] (some [0,1,2,3,4,5,6,7,8,9,10,11,12]) [0,1,2,3,4,5,6,7,8,9,10,11,12,13]),false⟩
def RV:dZ:=⟨3,48,[.cell 6 (some 4)],(sq [mo 3 (.box (I 0)),mo 6 (.alloc [.int .i64 0,.int .i64 0,.str [],.dN])] [0] (.seq (sq [mf 8 0 3,ml 9 8] [8] (.block 0 (sq [I1 11 .eql 9 2,mw 10 11] [11] (O7 10 (sq [mt 12 1,mf 13 2 3,ml 14 13,O3 15 Yb [I 12,I 14],mw 7 15] [1,9,10,12,13,14,15] (sq [mt 16 7,I1 17 .geq 16 0] [16] (O7 17 (sq [mw 18 2,mw 19 7,O0 20 4 18 19,O1 21 4 false 20,O3 22 TS [I 21],I3 4 6 22] [2,3,7,17,18,19,20,21,22] .ret) .skip))) (sq [I1 24 .eql 9 4,mw 23 24] [10,24] (O7 23 (.seq (.region [mf 25 3 3,mo 26 (.fY 3 none (I 25)),mo 27 (.indexAddr 4 (I 26) (ci 0)),mo 28 (.iT (some 4) (I 27)),mt 29 1,mt 30 2,mf 32 3 3,mo 33 (.fY 3 none (I 32)),mo 34 (.indexAddr 4 (I 33) (ci 1)),mo 35 (.iT (some 4) (I 34)),mt 36 1,mt 37 2,mo 31 (.nD [34] TR [I 28,I 29,I 30]),O3 38 TR [I 35,I 36,I 37],O3 39 zmgb [I 31,I 38],⟨none,.lI 6 4 (I 6) (.mv 39),none⟩] (some [0,1,2,3,4,5,7,8,9,10,11,12,6,13,14,15]) [1,2,3,9,23,25,26,27,28,29,30,31,32,33,34,35,36,37,38,39]) .ret) (sq [I1 41 .eql 9 5,mw 40 41] [9,23,41] (O7 40 (sq [O1 42 4 false 3,mw 43 1,mw 44 2,O3 45 zmhb [I 42,I 43,I 44],I3 4 6 45] [1,2,3,40,42,43,44,45] .ret) .skip)))))))) (sq [O1 46 4 false 3,O3 47 TS [I 46],I3 4 6 47] [1,2,3,7,17,40,46,47] .ret))),false⟩
def zjs:eR:=(sq [I0 10 .lss 9 8] [] (.seq (O7 10 .skip (.exit 0)) (.seq (.block 1 (sq [O0 11 4 7 9,O1 12 4 false 11,mo 5 (.alloc [.int .i64 0,.int .i64 0,.str [],.dN]),I3 4 5 12] [10,11,12] (rg [mw 13 3,O1 14 4 false 5,O3 15 TS [I 14],O2 16 U2 15,mo 17 (.append U2 56 (.mv 13) (I 16)),mw 3 17] [5,13,14,15,16,17]))) (rg [I1 18 .add 9 1,mw 9 18] [18]))))
def RX:dZ:=⟨1,22,[.cell 2 (some 4)],(sq [mo 1 (.box (I 0)),mo 2 (.alloc [.int .i64 0,.int .i64 0,.str [],.dN])] [0] (sq [mo 3 (.dO I8)] [] (.seq (sq [mf 6 3 1,ml 7 6,I9 8 7,O6 9 0] [6] (.block 0 (.loop zjs))) (sq [mt 19 3,mf 20 3 1,I3 1 20 19] [3,7,8,9,10,19,20] (sq [O1 21 4 true 1,I3 4 2 21] [1,21] .ret))))),false⟩
end Go.Fu
namespace Go.Mx
open Go
theorem fD.Pg{I0 I:fU}{j0 j:fJ}{iK own:gZ}{w0 w:World}(hE:fD I0 j0 iK w0 I j own w (fun _=>True)):fD I0 j0 iK w0 I j (shared own) w (fun _=>True):=by
 refine⟨hE.os,hE.tape,hE.output,hE.size,hE.qY,hE.lay,fun b hb ht=>?_⟩;have hn:iK b=none:=by
  cases h:iK b with
  |none=>rfl
  |some t=>exact absurd trivial (ht t h)
 obtain⟨k1,k2,k3⟩:=hE.block b hb ht;refine⟨k1,?_,k3⟩;unfold shared;rw[k2,hn]
end Go.Mx
namespace Go.Fu
open Go Go.Mx
def vM:Nat->Nat->List UInt8->List UInt8
 |0,_,acc=>acc
 |k+1,n,acc=>dK (decide (n<10)) (UInt8.ofNat (48+n)::acc) (vM k (n / 10) (UInt8.ofNat (48+n%10)::acc))
def Td(n:Nat):List UInt8:=vM 20 n []
def sK(n:Int):List UInt8:=match n with
 |.ofNat m=>Td m
 |.negSucc m=>45::Td (m+1)
def U0(n:Int):Bool:=decide (-9223372036854775808<=n)&&decide (n<=9223372036854775807)
def JB:List D->Option D
 |[.int .i64 n]=>dK (U0 n) (some (.str (sK n))) none
 |_=>none
def qx(ds:List D)(O:Store):Option (Out×Store):=match ds with
 |[.ptr id 0]=>dH (dC O.fH id) fun t=>dK (t.t==yL) (dH (dC O.dE id) fun cs=>match cs with
  |[c0,c1]=>(match c0.d with
   |.rR=>some (.ret ⟨false,.fN []⟩,{O with dE:=fF O.dE id [⟨false,.ptr id 0⟩,c1]})
   |.ptr id' 0=>dK (id'==id) (some (.ret ⟨false,.fN []⟩,O)) none
   |_=>none)
  |_=>none) none
 |_=>none
def zc6(k:RowK):Bool:=k.el==Ii.el&&k.sz==1
def iw(ds:List D)(O:Store):Option (Out×Store):=match ds with
 |[.ptr id 0]=>dH (dC O.fH id) fun t=>dK (t.t==yL) (dH (dC O.dE id) fun cs=>match cs with
  |[c0,c1]=>(match c1.d with
   |.list k es=>dK (c1.own&&zc6 k&&!es.isEmpty) (dH (Jv es) fun s=>some (.ret ⟨false,.str s⟩,{O with dE:=fF O.dE id [c0,⟨false,c1.d⟩]})) none
   |_=>none)
  |_=>none) none
 |_=>none
def Xa:eV:=fun f ds O=>dK (f==Fh) (dH (JB ds) fun d=>some (.ret ⟨false,d⟩,O)) (dK (f==Yc) (qx ds O) (dK (f==IQ) (iw ds O) none))
open Go Go.RowKit
theorem zys{P:Program}{T:TypeId}{n:Nat}(hd:(P.depth==0)=false)(hc:P.cellsOf T=2)(hs:sameLayout P P.depth T T=true)(hn:2<=n):liesAt P P.depth T (n / P.cellsOf T) 0 T 1=true:=by
 have h0:P.depth≠0:=by simpa using hd
 obtain⟨d,hd⟩:∃d,P.depth=d+1:=⟨P.depth-1,by omega⟩;have hk:1<=n / 2:=by omega
 rw[hd]at hs ⊢;unfold liesAt;rw[hd];unfold rowAt;simp only[hc,hs,Nat.zero_div,Nat.zero_mod];simp[hk]
set_option maxHeartbeats 1000000 in
set_option maxRecDepth 100000 in
theorem zx6(b:Nat)(w:World)(h0:w.cell? ⟨b,0,none⟩=some (.pointer (some ⟨b,0,none⟩))) :
  Calls Go.Proofs.Tryz.prog Yc #[.pointer (some ⟨b,0,none⟩)] w fun e w'=>e=.returned (.tuple #[])/\w'=w:=by
 obtain⟨j,hj,_⟩:=Option.map_eq_some_iff.1 (show(Go.Proofs.Tryz.prog.info? yL).map (·.size)=some 2 by kernel_rfl)
 go_enter Go.Proofs.Tryz.func66,Go.Proofs.Tryz.ntmps66
 go_wp2
 rw[Lib.run_neq_ptr_same w _ Go.Proofs.Tryz.underlying67 hj]
 go_wp2
 go_end0
 exact⟨rfl,rfl⟩
set_option maxHeartbeats 1000000 in
set_option maxRecDepth 100000 in
theorem zux(b:Nat)(w:World)(h0:w.cell? ⟨b,0,none⟩=some (.pointer none)){n:Nat}(hn:2<=n)(hsh:w.shape? b=some (yL,n))(hfz:w.frozen? ⟨b,0,none⟩=false) :
  Calls Go.Proofs.Tryz.prog Yc #[.pointer (some ⟨b,0,none⟩)] w fun e w'=>e=.returned (.tuple #[])/\w'=w.setCell ⟨b,0,none⟩ (.pointer (some ⟨b,0,none⟩)):=by
 obtain⟨j,hj,hjs⟩:=Option.map_eq_some_iff.1 (show(Go.Proofs.Tryz.prog.info? yL).map (·.size)=some 2 by kernel_rfl)
 go_enter Go.Proofs.Tryz.func66,Go.Proofs.Tryz.ntmps66
 go_wp2
 rw[Lib.run_to_unsafe w ⟨b,0,none⟩ Go.Proofs.Tryz.underlying67 Go.Proofs.Tryz.underlying163 hj (by rw[hjs];decide) hsh (by show 0<n;omega)];simp only[Result.andThen];rw[Oper.upon_value]
 go_wp2
 rw[run_callFunc_extern Go.Proofs.Tryz.func117 (by kernel_rfl) (by kernel_rfl) (by kernel_rfl) (e:=Extern.AbiNoEscape.same) (by kernel_rfl)];rw[Lib.run_noEscape];simp only[Result.andThen];rw[Oper.upon_value]
 go_wp2
 rw[Lib.run_from_unsafe w ⟨b,0,none⟩ Go.Proofs.Tryz.underlying163 Go.Proofs.Tryz.underlying67 hj hsh (zys (by kernel_rfl) (by kernel_rfl) (by kernel_rfl) hn)];simp only[Result.andThen];rw[Oper.upon_value]
 go_wp2
 go_end0
 exact⟨rfl,rfl⟩
set_option maxHeartbeats 2000000 in
set_option maxRecDepth 100000 in
theorem ztm(b g cap:Nat)(p:Value)(rest:List Value)(cur:Array Value)(l:List UInt8)(w:World)(h0:l≠[])(hbk:w.heap[b]?=some (.cells ⟨p::.slice (some ⟨g,0,none⟩) l.length cap::rest⟩ yL (0,0)))(hg:w.heap[g]?=some (.cells cur 5 (0,0)))
  (hnc:l.length<=cap) (hcm:cap<=maxLen) (hcs:cur.size=cap*1) (hcells:∀(j:Nat)(x:UInt8),l[j]?=some x->w.cell? ⟨g,j,none⟩=some (.int .u8 x.toNat)) :
  Calls Go.Proofs.Tryz.prog IQ #[.pointer (some ⟨b,0,none⟩)] w fun e w'=>e=.returned (.string ⟨l.toArray⟩)/\w'=w.drew.freeze ⟨g,0,none⟩ l.length:=by
 have hl0:l.length≠0:=by simpa using h0
 have c1:w.drew.cell? ⟨b,1,none⟩=some (.slice (some ⟨g,0,none⟩) l.length cap):=(by have:w.drew.heap[b]?=some (.cells ⟨p::.slice (some ⟨g,0,none⟩) l.length cap::rest⟩ yL (0,0)):=hbk;rw[Lib.cell_of_heap this];rfl);have hSD:(Builtin.unsafeSliceData_ #[68] 114 #[.slice (some ⟨g,0,none⟩) l.length cap]).run Go.Proofs.Tryz.prog w.drew=.ok (.pointer (some ⟨g,0,none⟩)) w.drew :=
  Lib.run_unsafeSliceData_row _ _ _ _ _ _ (by omega)
 have hUS:(Builtin.unsafeString_ #[114,3] 9 #[.pointer (some ⟨g,0,none⟩),.int .i64 l.length]).run Go.Proofs.Tryz.prog w.drew=.ok (.string ⟨l.toArray⟩) (w.drew.freeze ⟨g,0,none⟩ l.length):=(by refine Lib.run_unsafeString_row w.drew 114 3 9 5 Go.Proofs.Tryz.underlying114 (by kernel_rfl) g cur.size (by have hg':w.drew.heap[g]?=some (.cells cur 5 (0,0)):=hg;simp[World.shape?,hg']) l h0 (by omega) (by unfold maxLen at hcm;omega) ?_;intro j x hx;have:=hcells j x hx;simpa[Addr.add_lit]using this);clear hcells
 go_enter Go.Proofs.Tryz.func33,Go.Proofs.Tryz.ntmps33
 go_wp2
 go_region
 all_goals (go_wp2;go_ret;exact⟨rfl,rfl⟩)
open Go Go.Mx Go.Proofs
theorem zmo:eL Tryz.prog Tryz.f5 QV=true:=by kernel_rfl
theorem zoe:eL Tryz.prog Tryz.f9 K7=true:=by kernel_rfl
theorem zo7:eL Tryz.prog Tryz.f10 QX=true:=by kernel_rfl
theorem zsn:eL Tryz.prog Tryz.f11 L9=true:=by kernel_rfl
theorem zoa:eL Tryz.prog Tryz.f13 ziy=true:=by kernel_rfl
theorem zqj:eL Tryz.prog Tryz.f15 zja=true:=by kernel_rfl
theorem zn9:eL Tryz.prog Tryz.f17 zit=true:=by kernel_rfl
theorem zo8:eL Tryz.prog Tryz.f18 wF=true:=by kernel_rfl
theorem znh:eL Tryz.prog Tryz.f19 zix=true:=by kernel_rfl
theorem zso:eL Tryz.prog Tryz.f20 QZ=true:=by kernel_rfl
theorem zql:eL Tryz.prog Tryz.f22 Si=true:=by kernel_rfl
theorem zsk:eL Tryz.prog Tryz.f23 QY=true:=by kernel_rfl
theorem zsp:eL Tryz.prog Tryz.f24 Lq=true:=by kernel_rfl
theorem zsr:eL Tryz.prog Tryz.f25 RA=true:=by kernel_rfl
theorem zsw:eL Tryz.prog Tryz.f26 R3=true:=by kernel_rfl
theorem zsq:eL Tryz.prog Tryz.f27 xZ=true:=by kernel_rfl
theorem zss:eL Tryz.prog Tryz.f28 N7=true:=by kernel_rfl
theorem zlf:eL Tryz.prog Tryz.f29 zjr=true:=by kernel_rfl
theorem zna:eL Tryz.prog Tryz.f31 zi9=true:=by kernel_rfl
theorem zli:eL Tryz.prog Tryz.f32 zjq=true:=by kernel_rfl
theorem zo6:eL Tryz.prog Tryz.f34 FN=true:=by kernel_rfl
theorem zqu:eL Tryz.prog Tryz.f36 FX=true:=by kernel_rfl
theorem zy1:eL Tryz.prog Tryz.f37 FT=true:=by kernel_rfl
theorem zmw:eL Tryz.prog Tryz.f39 zi8=true:=by kernel_rfl
theorem zne:eL Tryz.prog Tryz.f40 ziu=true:=by kernel_rfl
theorem znf:eL Tryz.prog Tryz.f41 ziv=true:=by kernel_rfl
theorem zln:eL Tryz.prog Tryz.f42 FZ=true:=by kernel_rfl
theorem zng:eL Tryz.prog Tryz.f43 ziw=true:=by kernel_rfl
theorem zob:eL Tryz.prog Tryz.f44 zi5=true:=by kernel_rfl
theorem zoc:eL Tryz.prog Tryz.f45 K3=true:=by kernel_rfl
theorem zlg:eL Tryz.prog Tryz.f46 FY=true:=by kernel_rfl
theorem zlj:eL Tryz.prog Tryz.f47 zjk=true:=by kernel_rfl
theorem zod:eL Tryz.prog Tryz.f48 xX=true:=by kernel_rfl
theorem zm1:eL Tryz.prog Tryz.f49 zi1=true:=by kernel_rfl
theorem zo2:eL Tryz.prog Tryz.f50 QK=true:=by kernel_rfl
theorem zo0:eL Tryz.prog Tryz.f51 ziz=true:=by kernel_rfl
theorem zqr:eL Tryz.prog Tryz.f53 RJ=true:=by kernel_rfl
theorem zpa:eL Tryz.prog Tryz.f54 FV=true:=by kernel_rfl
theorem zof:eL Tryz.prog Tryz.f55 FP=true:=by kernel_rfl
theorem zog:eL Tryz.prog Tryz.f56 yA=true:=by kernel_rfl
theorem zst:eL Tryz.prog Tryz.f57 Lt=true:=by kernel_rfl
theorem zv2:eL Tryz.prog Tryz.f58 RI=true:=by kernel_rfl
theorem zsu:eL Tryz.prog Tryz.f59 RH=true:=by kernel_rfl
theorem zy2:eL Tryz.prog Tryz.f60 P9=true:=by kernel_rfl
theorem zo9:eL Tryz.prog Tryz.f61 Hz=true:=by kernel_rfl
theorem zqk:eL Tryz.prog Tryz.f63 Xk=true:=by kernel_rfl
theorem zsv:eL Tryz.prog Tryz.f64 Sm=true:=by kernel_rfl
theorem zqn:eL Tryz.prog Tryz.f65 RF=true:=by kernel_rfl
theorem zl6:eL Tryz.prog Tryz.f70 R9=true:=by kernel_rfl
theorem znj:eL Tryz.prog Tryz.f71 zi6=true:=by kernel_rfl
theorem zni:eL Tryz.prog Tryz.f72 zi2=true:=by kernel_rfl
theorem zo4:eL Tryz.prog Tryz.f74 zi4=true:=by kernel_rfl
theorem zl0:eL Tryz.prog Tryz.f75 RQ=true:=by kernel_rfl
theorem zl1:eL Tryz.prog Tryz.f76 RS=true:=by kernel_rfl
theorem zls:eL Tryz.prog Tryz.f77 zji=true:=by kernel_rfl
theorem zl5:eL Tryz.prog Tryz.f78 zjh=true:=by kernel_rfl
theorem zlo:eL Tryz.prog Tryz.f79 R7=true:=by kernel_rfl
theorem zlt:eL Tryz.prog Tryz.f80 zjl=true:=by kernel_rfl
theorem znk:eL Tryz.prog Tryz.f81 QQ=true:=by kernel_rfl
theorem zlh:eL Tryz.prog Tryz.f82 R5=true:=by kernel_rfl
theorem zm4:eL Tryz.prog Tryz.f83 QR=true:=by kernel_rfl
theorem zo1:eL Tryz.prog Tryz.f84 zQ=true:=by kernel_rfl
theorem zmn:eL Tryz.prog Tryz.f85 QN=true:=by kernel_rfl
theorem zm3:eL Tryz.prog Tryz.f86 QO=true:=by kernel_rfl
theorem znl:eL Tryz.prog Tryz.f87 FM=true:=by kernel_rfl
theorem zml:eL Tryz.prog Tryz.f88 Xj=true:=by kernel_rfl
theorem zm9:eL Tryz.prog Tryz.f89 PY=true:=by kernel_rfl
theorem zlm:eL Tryz.prog Tryz.f90 R4=true:=by kernel_rfl
theorem zm5:eL Tryz.prog Tryz.f91 QS=true:=by kernel_rfl
theorem znm:eL Tryz.prog Tryz.f92 QT=true:=by kernel_rfl
theorem znn:eL Tryz.prog Tryz.f93 QU=true:=by kernel_rfl
theorem zm6:eL Tryz.prog Tryz.f94 K5=true:=by kernel_rfl
theorem zno:eL Tryz.prog Tryz.f95 xY=true:=by kernel_rfl
theorem zm7:eL Tryz.prog Tryz.f96 K6=true:=by kernel_rfl
theorem znw:eL Tryz.prog Tryz.f97 pE=true:=by kernel_rfl
theorem zly:eL Tryz.prog Tryz.f98 zjj=true:=by kernel_rfl
theorem zmm:eL Tryz.prog Tryz.f99 QM=true:=by kernel_rfl
theorem zm2:eL Tryz.prog Tryz.f100 QJ=true:=by kernel_rfl
theorem zmk:eL Tryz.prog Tryz.f101 zi3=true:=by kernel_rfl
theorem zlu:eL Tryz.prog Tryz.f102 S9=true:=by kernel_rfl
theorem zmv:eL Tryz.prog Tryz.f103 QH=true:=by kernel_rfl
theorem znu:eL Tryz.prog Tryz.f104 PZ=true:=by kernel_rfl
theorem zmu:eL Tryz.prog Tryz.f105 Da=true:=by kernel_rfl
theorem zqm:eL Tryz.prog Tryz.f106 RB=true:=by kernel_rfl
theorem zqt:eL Tryz.prog Tryz.f107 zR=true:=by kernel_rfl
theorem zqs:eL Tryz.prog Tryz.f108 RO=true:=by kernel_rfl
theorem zqo:eL Tryz.prog Tryz.f109 FQ=true:=by kernel_rfl
theorem zqq:eL Tryz.prog Tryz.f110 FR=true:=by kernel_rfl
theorem zsl:eL Tryz.prog Tryz.f111 Lp=true:=by kernel_rfl
theorem zqp:eL Tryz.prog Tryz.f112 RG=true:=by kernel_rfl
theorem zsm:eL Tryz.prog Tryz.f113 Et=true:=by kernel_rfl
theorem zv4:eL Tryz.prog Tryz.f114 RN=true:=by kernel_rfl
theorem zsx:eL Tryz.prog Tryz.f115 Ic=true:=by kernel_rfl
theorem zv1:eL Tryz.prog Tryz.f116 Sj=true:=by kernel_rfl
theorem zlr:eL Tryz.prog Tryz.f119 RP=true:=by kernel_rfl
theorem zmf:eL Tryz.prog Tryz.f120 zjm=true:=by kernel_rfl
theorem zlq:eL Tryz.prog Tryz.f121 RU=true:=by kernel_rfl
theorem zlp:eL Tryz.prog Tryz.f122 R8=true:=by kernel_rfl
theorem zlz:eL Tryz.prog Tryz.f123 R6=true:=by kernel_rfl
theorem zqi:eL Tryz.prog Tryz.f124 J9=true:=by kernel_rfl
theorem znb:eL Tryz.prog Tryz.f125 Eo=true:=by kernel_rfl
theorem zme:eL Tryz.prog Tryz.f126 GD=true:=by kernel_rfl
theorem zo3:eL Tryz.prog Tryz.f127 QL=true:=by kernel_rfl
theorem zsf:eL Tryz.prog Tryz.f128 PU=true:=by kernel_rfl
theorem zsg:eL Tryz.prog Tryz.f129 PV=true:=by kernel_rfl
theorem zo5:eL Tryz.prog Tryz.f130 QP=true:=by kernel_rfl
theorem zmd:eL Tryz.prog Tryz.f131 zjf=true:=by kernel_rfl
theorem zmp:eL Tryz.prog Tryz.f132 zjg=true:=by kernel_rfl
theorem zmx:eL Tryz.prog Tryz.f133 zje=true:=by kernel_rfl
theorem znc:eL Tryz.prog Tryz.f134 QW=true:=by kernel_rfl
theorem zmc:eL Tryz.prog Tryz.f135 QI=true:=by kernel_rfl
theorem zm0:eL Tryz.prog Tryz.f136 QC=true:=by kernel_rfl
theorem zmi:eL Tryz.prog Tryz.f137 J4=true:=by kernel_rfl
theorem zma:eL Tryz.prog Tryz.f138 QF=true:=by kernel_rfl
theorem zmb:eL Tryz.prog Tryz.f139 QG=true:=by kernel_rfl
theorem zl9:eL Tryz.prog Tryz.f140 Cm=true:=by kernel_rfl
theorem zmt:eL Tryz.prog Tryz.f141 zi0=true:=by kernel_rfl
theorem zv3:eL Tryz.prog Tryz.f142 FU=true:=by kernel_rfl
theorem zll:eL Tryz.prog Tryz.f147 zjd=true:=by kernel_rfl
theorem zle:eL Tryz.prog Tryz.f148 zjo=true:=by kernel_rfl
theorem znp:eL Tryz.prog Tryz.f149 zjb=true:=by kernel_rfl
theorem znv:eL Tryz.prog Tryz.f150 Ry=true:=by kernel_rfl
theorem zsh:eL Tryz.prog Tryz.f151 PW=true:=by kernel_rfl
theorem zmj:eL Tryz.prog Tryz.f153 QD=true:=by kernel_rfl
theorem zl3:eL Tryz.prog Tryz.f154 QA=true:=by kernel_rfl
theorem zl4:eL Tryz.prog Tryz.f156 QB=true:=by kernel_rfl
theorem zlx:eL Tryz.prog Tryz.f158 QE=true:=by kernel_rfl
theorem zm8:eL Tryz.prog Tryz.f160 zjc=true:=by kernel_rfl
theorem zld:eL Tryz.prog Tryz.f164 zjn=true:=by kernel_rfl
theorem zsi:eL Tryz.prog Tryz.f174 PX=true:=by kernel_rfl
theorem zl8:eL Tryz.prog Tryz.f176 nu=true:=by kernel_rfl
theorem zoh:eL Tryz.prog Tryz.f185 RV=true:=by kernel_rfl
theorem zqv:eL Tryz.prog Tryz.f187 RX=true:=by kernel_rfl
set_option maxRecDepth 100000
instance:kQ:=⟨fun N c c2=>mQ Tryz.prog N true c c2=true⟩
instance:Ql Tryz.prog inferInstance:=⟨fun _ _ _=>Iff.rfl⟩
def Γa:FuncId->Option dZ:=fun f=>match f with
 |5=>some QV
 |9=>some K7
 |10=>some QX
 |11=>some L9
 |13=>some ziy
 |15=>some zja
 |17=>some zit
 |18=>some wF
 |19=>some zix
 |20=>some QZ
 |22=>some Si
 |23=>some QY
 |24=>some Lq
 |25=>some RA
 |26=>some R3
 |27=>some xZ
 |28=>some N7
 |29=>some zjr
 |31=>some zi9
 |32=>some zjq
 |34=>some FN
 |36=>some FX
 |37=>some FT
 |39=>some zi8
 |40=>some ziu
 |41=>some ziv
 |42=>some FZ
 |43=>some ziw
 |44=>some zi5
 |45=>some K3
 |46=>some FY
 |47=>some zjk
 |48=>some xX
 |49=>some zi1
 |50=>some QK
 |51=>some ziz
 |53=>some RJ
 |54=>some FV
 |55=>some FP
 |56=>some yA
 |57=>some Lt
 |58=>some RI
 |59=>some RH
 |60=>some P9
 |61=>some Hz
 |63=>some Xk
 |64=>some Sm
 |65=>some RF
 |70=>some R9
 |71=>some zi6
 |72=>some zi2
 |74=>some zi4
 |75=>some RQ
 |76=>some RS
 |77=>some zji
 |78=>some zjh
 |79=>some R7
 |80=>some zjl
 |81=>some QQ
 |82=>some R5
 |83=>some QR
 |84=>some zQ
 |85=>some QN
 |86=>some QO
 |87=>some FM
 |88=>some Xj
 |89=>some PY
 |90=>some R4
 |91=>some QS
 |92=>some QT
 |93=>some QU
 |94=>some K5
 |95=>some xY
 |96=>some K6
 |97=>some pE
 |98=>some zjj
 |99=>some QM
 |100=>some QJ
 |101=>some zi3
 |102=>some S9
 |103=>some QH
 |104=>some PZ
 |105=>some Da
 |106=>some RB
 |107=>some zR
 |108=>some RO
 |109=>some FQ
 |110=>some FR
 |111=>some Lp
 |112=>some RG
 |113=>some Et
 |114=>some RN
 |115=>some Ic
 |116=>some Sj
 |119=>some RP
 |120=>some zjm
 |121=>some RU
 |122=>some R8
 |123=>some R6
 |124=>some J9
 |125=>some Eo
 |126=>some GD
 |127=>some QL
 |128=>some PU
 |129=>some PV
 |130=>some QP
 |131=>some zjf
 |132=>some zjg
 |133=>some zje
 |134=>some QW
 |135=>some QI
 |136=>some QC
 |137=>some J4
 |138=>some QF
 |139=>some QG
 |140=>some Cm
 |141=>some zi0
 |142=>some FU
 |147=>some zjd
 |148=>some zjo
 |149=>some zjb
 |150=>some Ry
 |151=>some PW
 |153=>some QD
 |154=>some QA
 |156=>some QB
 |158=>some QE
 |160=>some zjc
 |164=>some zjn
 |174=>some PX
 |176=>some nu
 |185=>some RV
 |187=>some RX
 |_=>none
theorem Γa_holds:Holds Tryz.prog Γa:=by
 intro f af h;unfold Γa at h;split at h
 ·cases h;exact⟨rfl,_,Tryz.func5,zmo⟩
 ·cases h;exact⟨rfl,_,Tryz.func9,zoe⟩
 ·cases h;exact⟨rfl,_,Tryz.func10,zo7⟩
 ·cases h;exact⟨rfl,_,Tryz.func11,zsn⟩
 ·cases h;exact⟨rfl,_,Tryz.func13,zoa⟩
 ·cases h;exact⟨rfl,_,Tryz.func15,zqj⟩
 ·cases h;exact⟨rfl,_,Tryz.func17,zn9⟩
 ·cases h;exact⟨rfl,_,Tryz.func18,zo8⟩
 ·cases h;exact⟨rfl,_,Tryz.func19,znh⟩
 ·cases h;exact⟨rfl,_,Tryz.func20,zso⟩
 ·cases h;exact⟨rfl,_,Tryz.func22,zql⟩
 ·cases h;exact⟨rfl,_,Tryz.func23,zsk⟩
 ·cases h;exact⟨rfl,_,Tryz.func24,zsp⟩
 ·cases h;exact⟨rfl,_,Tryz.func25,zsr⟩
 ·cases h;exact⟨rfl,_,Tryz.func26,zsw⟩
 ·cases h;exact⟨rfl,_,Tryz.func27,zsq⟩
 ·cases h;exact⟨rfl,_,Tryz.func28,zss⟩
 ·cases h;exact⟨rfl,_,Tryz.func29,zlf⟩
 ·cases h;exact⟨rfl,_,Tryz.func31,zna⟩
 ·cases h;exact⟨rfl,_,Tryz.func32,zli⟩
 ·cases h;exact⟨rfl,_,Tryz.func34,zo6⟩
 ·cases h;exact⟨rfl,_,Tryz.func36,zqu⟩
 ·cases h;exact⟨rfl,_,Tryz.func37,zy1⟩
 ·cases h;exact⟨rfl,_,Tryz.func39,zmw⟩
 ·cases h;exact⟨rfl,_,Tryz.func40,zne⟩
 ·cases h;exact⟨rfl,_,Tryz.func41,znf⟩
 ·cases h;exact⟨rfl,_,Tryz.func42,zln⟩
 ·cases h;exact⟨rfl,_,Tryz.func43,zng⟩
 ·cases h;exact⟨rfl,_,Tryz.func44,zob⟩
 ·cases h;exact⟨rfl,_,Tryz.func45,zoc⟩
 ·cases h;exact⟨rfl,_,Tryz.func46,zlg⟩
 ·cases h;exact⟨rfl,_,Tryz.func47,zlj⟩
 ·cases h;exact⟨rfl,_,Tryz.func48,zod⟩
 ·cases h;exact⟨rfl,_,Tryz.func49,zm1⟩
 ·cases h;exact⟨rfl,_,Tryz.func50,zo2⟩
 ·cases h;exact⟨rfl,_,Tryz.func51,zo0⟩
 ·cases h;exact⟨rfl,_,Tryz.func53,zqr⟩
 ·cases h;exact⟨rfl,_,Tryz.func54,zpa⟩
 ·cases h;exact⟨rfl,_,Tryz.func55,zof⟩
 ·cases h;exact⟨rfl,_,Tryz.func56,zog⟩
 ·cases h;exact⟨rfl,_,Tryz.func57,zst⟩
 ·cases h;exact⟨rfl,_,Tryz.func58,zv2⟩
 ·cases h;exact⟨rfl,_,Tryz.func59,zsu⟩
 ·cases h;exact⟨rfl,_,Tryz.func60,zy2⟩
 ·cases h;exact⟨rfl,_,Tryz.func61,zo9⟩
 ·cases h;exact⟨rfl,_,Tryz.func63,zqk⟩
 ·cases h;exact⟨rfl,_,Tryz.func64,zsv⟩
 ·cases h;exact⟨rfl,_,Tryz.func65,zqn⟩
 ·cases h;exact⟨rfl,_,Tryz.func70,zl6⟩
 ·cases h;exact⟨rfl,_,Tryz.func71,znj⟩
 ·cases h;exact⟨rfl,_,Tryz.func72,zni⟩
 ·cases h;exact⟨rfl,_,Tryz.func74,zo4⟩
 ·cases h;exact⟨rfl,_,Tryz.func75,zl0⟩
 ·cases h;exact⟨rfl,_,Tryz.func76,zl1⟩
 ·cases h;exact⟨rfl,_,Tryz.func77,zls⟩
 ·cases h;exact⟨rfl,_,Tryz.func78,zl5⟩
 ·cases h;exact⟨rfl,_,Tryz.func79,zlo⟩
 ·cases h;exact⟨rfl,_,Tryz.func80,zlt⟩
 ·cases h;exact⟨rfl,_,Tryz.func81,znk⟩
 ·cases h;exact⟨rfl,_,Tryz.func82,zlh⟩
 ·cases h;exact⟨rfl,_,Tryz.func83,zm4⟩
 ·cases h;exact⟨rfl,_,Tryz.func84,zo1⟩
 ·cases h;exact⟨rfl,_,Tryz.func85,zmn⟩
 ·cases h;exact⟨rfl,_,Tryz.func86,zm3⟩
 ·cases h;exact⟨rfl,_,Tryz.func87,znl⟩
 ·cases h;exact⟨rfl,_,Tryz.func88,zml⟩
 ·cases h;exact⟨rfl,_,Tryz.func89,zm9⟩
 ·cases h;exact⟨rfl,_,Tryz.func90,zlm⟩
 ·cases h;exact⟨rfl,_,Tryz.func91,zm5⟩
 ·cases h;exact⟨rfl,_,Tryz.func92,znm⟩
 ·cases h;exact⟨rfl,_,Tryz.func93,znn⟩
 ·cases h;exact⟨rfl,_,Tryz.func94,zm6⟩
 ·cases h;exact⟨rfl,_,Tryz.func95,zno⟩
 ·cases h;exact⟨rfl,_,Tryz.func96,zm7⟩
 ·cases h;exact⟨rfl,_,Tryz.func97,znw⟩
 ·cases h;exact⟨rfl,_,Tryz.func98,zly⟩
 ·cases h;exact⟨rfl,_,Tryz.func99,zmm⟩
 ·cases h;exact⟨rfl,_,Tryz.func100,zm2⟩
 ·cases h;exact⟨rfl,_,Tryz.func101,zmk⟩
 ·cases h;exact⟨rfl,_,Tryz.func102,zlu⟩
 ·cases h;exact⟨rfl,_,Tryz.func103,zmv⟩
 ·cases h;exact⟨rfl,_,Tryz.func104,znu⟩
 ·cases h;exact⟨rfl,_,Tryz.func105,zmu⟩
 ·cases h;exact⟨rfl,_,Tryz.func106,zqm⟩
 ·cases h;exact⟨rfl,_,Tryz.func107,zqt⟩
 ·cases h;exact⟨rfl,_,Tryz.func108,zqs⟩
 ·cases h;exact⟨rfl,_,Tryz.func109,zqo⟩
 ·cases h;exact⟨rfl,_,Tryz.func110,zqq⟩
 ·cases h;exact⟨rfl,_,Tryz.func111,zsl⟩
 ·cases h;exact⟨rfl,_,Tryz.func112,zqp⟩
 ·cases h;exact⟨rfl,_,Tryz.func113,zsm⟩
 ·cases h;exact⟨rfl,_,Tryz.func114,zv4⟩
 ·cases h;exact⟨rfl,_,Tryz.func115,zsx⟩
 ·cases h;exact⟨rfl,_,Tryz.func116,zv1⟩
 ·cases h;exact⟨rfl,_,Tryz.func119,zlr⟩
 ·cases h;exact⟨rfl,_,Tryz.func120,zmf⟩
 ·cases h;exact⟨rfl,_,Tryz.func121,zlq⟩
 ·cases h;exact⟨rfl,_,Tryz.func122,zlp⟩
 ·cases h;exact⟨rfl,_,Tryz.func123,zlz⟩
 ·cases h;exact⟨rfl,_,Tryz.func124,zqi⟩
 ·cases h;exact⟨rfl,_,Tryz.func125,znb⟩
 ·cases h;exact⟨rfl,_,Tryz.func126,zme⟩
 ·cases h;exact⟨rfl,_,Tryz.func127,zo3⟩
 ·cases h;exact⟨rfl,_,Tryz.func128,zsf⟩
 ·cases h;exact⟨rfl,_,Tryz.func129,zsg⟩
 ·cases h;exact⟨rfl,_,Tryz.func130,zo5⟩
 ·cases h;exact⟨rfl,_,Tryz.func131,zmd⟩
 ·cases h;exact⟨rfl,_,Tryz.func132,zmp⟩
 ·cases h;exact⟨rfl,_,Tryz.func133,zmx⟩
 ·cases h;exact⟨rfl,_,Tryz.func134,znc⟩
 ·cases h;exact⟨rfl,_,Tryz.func135,zmc⟩
 ·cases h;exact⟨rfl,_,Tryz.func136,zm0⟩
 ·cases h;exact⟨rfl,_,Tryz.func137,zmi⟩
 ·cases h;exact⟨rfl,_,Tryz.func138,zma⟩
 ·cases h;exact⟨rfl,_,Tryz.func139,zmb⟩
 ·cases h;exact⟨rfl,_,Tryz.func140,zl9⟩
 ·cases h;exact⟨rfl,_,Tryz.func141,zmt⟩
 ·cases h;exact⟨rfl,_,Tryz.func142,zv3⟩
 ·cases h;exact⟨rfl,_,Tryz.func147,zll⟩
 ·cases h;exact⟨rfl,_,Tryz.func148,zle⟩
 ·cases h;exact⟨rfl,_,Tryz.func149,znp⟩
 ·cases h;exact⟨rfl,_,Tryz.func150,znv⟩
 ·cases h;exact⟨rfl,_,Tryz.func151,zsh⟩
 ·cases h;exact⟨rfl,_,Tryz.func153,zmj⟩
 ·cases h;exact⟨rfl,_,Tryz.func154,zl3⟩
 ·cases h;exact⟨rfl,_,Tryz.func156,zl4⟩
 ·cases h;exact⟨rfl,_,Tryz.func158,zlx⟩
 ·cases h;exact⟨rfl,_,Tryz.func160,zm8⟩
 ·cases h;exact⟨rfl,_,Tryz.func164,zld⟩
 ·cases h;exact⟨rfl,_,Tryz.func174,zsi⟩
 ·cases h;exact⟨rfl,_,Tryz.func176,zl8⟩
 ·cases h;exact⟨rfl,_,Tryz.func185,zoh⟩
 ·cases h;exact⟨rfl,_,Tryz.func187,zqv⟩
 ·cases h
def Ra:sD:=fun _ _ _ _=>none
theorem Gt{κ2:Ctx}:Wv Tryz.prog κ2 Ra:=fun _ _ _ _ _ _ h=>by cases h
def zh3(n:Nat)(f:FuncId):Bool:=match pS Γa Ra Xa n false f [] {dE:=[],fH:=[],dP:=[],next:=0}with
 |some (.ret ⟨false,.bool true⟩,_)=>true
 |_=>false
theorem tq:Tryz.prog.globalNamed "internal/strconv.uint64pow10"=some 0:=by kernel_rfl
def κ:Ctx where
 n:=0+1
 K:=fun w=>Lib.TabIs Tryz.prog w "internal/strconv.uint64pow10" .u64 Lib.pow10Tab
 stable:=fun w w' h k=>by
  unfold Lib.TabIs World.var? at k ⊢;rw[tq]at k ⊢;simp only[Option.bind_some]at k ⊢;rw[h 0 (by omega)];exact k
theorem zgb:∀(k n:Nat)(acc:List UInt8),n<10^k->vM k n acc=if k=0 then acc else Lib.decDigits n++acc
 |0,n,acc,_=>rfl
 |k+1,n,acc,h=>by
  rw[if_neg (by omega)];unfold vM;by_cases h10:n<10
  ·simp only[h10,decide_true,dQ];rw[Lib.decDigits,dif_pos h10];rfl
  ·simp only[h10,decide_false,dX];have hk:n / 10<10^k:=by
    rw[Nat.div_lt_iff_lt_mul (by omega)];rw[Nat.pow_succ]at h;exact h
   have hk0:k≠0:=(by intro e;subst e;simp at hk;omega);rw[zgb k (n / 10) _ hk,if_neg hk0,Lib.decDigits.eq_def n,dif_neg h10];simp
theorem zgd{n:Nat}(h:n<10^20):Td n=Lib.decDigits n:=by unfold Td;rw[zgb 20 n [] h];simp
theorem zbfb{n:Int}(h:U0 n=true):sK n=Lib.itoa n:=by
 simp only[U0,aC,cE]at h;cases n with
 |ofNat m =>have h2:(m:Int)<=9223372036854775807:=h.2;simp only[sK,Lib.itoa];rw[if_neg (by simp),zgd (by omega)];rfl
 |negSucc m =>have h1:-9223372036854775808<=Int.negSucc m:=h.1;simp only[sK,Lib.itoa];rw[if_pos (Int.negSucc_lt_zero m),zgd (by omega)];rfl
theorem IV{I:fU}{j:fJ}{d:D}{vs:List Value}(h:dV I j [d] vs):∃v,vs=[v]/\dL I j d v:=by simp only[dV]at h;obtain⟨x,r,rfl,h1,rfl⟩:=h;exact⟨x,rfl,h1⟩
theorem zdkb{ds:List D}{d:D}(h:JB ds=some d)(O:Store):uL Tryz.prog κ 30 ds O (.ret ⟨false,d⟩) O:=by
 unfold JB at h;split at h
 ·rename_i n;obtain⟨h1,h⟩:=gQ h;cases h;refine zzf rfl ⟨_,_,Tryz.func30,by kernel_rfl,rfl⟩ (fun I j own w vs hB hG hr=>?_);obtain⟨v,rfl,hv⟩:=IV hr;simp only[dL]at hv;subst hv;have hb:=h1;simp only[U0,aC,cE]at hb;refine(Tryz.strconv_Itoa n hb.1 hb.2 w hB.K).mono ?_;rintro e w' ⟨rfl,k,os,rfl⟩;refine⟨_,rfl,?_,by simp only[dL];rw[zbfb h1]⟩;have hd:RowKit.Below w.heap.size w (w.drewN k):=⟨rfl,rfl,rfl,aM _,fun _ _=>rfl⟩;refine hd.trans ⟨rfl,rfl,rfl,by simp[Sort.grow],fun i hi=>?_⟩;show(w.heap++os)[i]?=w.heap[i]?;rw[Array.getElem?_append_left hi]
 ·cases h
theorem zq0{w:World}{b:Nat}{vs:List Value}{T:TypeId}(h:w.heap[b]?=some (.cells ⟨vs⟩ T (0,0)))(v:Value):(w.setCell ⟨b,0,none⟩ v).heap[b]?=some (.cells ⟨vs.set 0 v⟩ T (0,0)):=by have hlt:=(Array.getElem?_eq_some_iff.1 h).1;have hv:=(Array.getElem?_eq_some_iff.1 h).2;simp only[World.setCell,Array.getElem?_modify,if_true,h,bN];simp
theorem zdjb{ds:List D}{O O':Store}{out:Out}(h:qx ds O=some (out,O')):uL Tryz.prog κ 66 ds O out O':=by
 refine(wY (show jK 66=false from rfl)).2 ⟨⟨_,_,Tryz.func66,by kernel_rfl,rfl⟩,fun I j own w vs hS hB hG hr=>?_⟩;unfold qx at h;split at h
 ·rename_i id;obtain⟨t,h1,ha⟩:=dJ h;obtain⟨h2,hb⟩:=gQ ha;obtain⟨cs,h3,hc⟩:=dJ hb;clear h ha hb;have ht:t.t=yL:=by simpa using h2
  obtain⟨v,rfl,hv⟩:=IV hr;simp only[dL]at hv;obtain⟨b,hjb,rfl⟩:=hv;obtain⟨b',hjb',hown,row,T,hheap,hlen,hcell⟩:=hG.dE id cs h3;rw[hjb]at hjb';cases hjb';obtain⟨row',hrow',_⟩:=hG.fH id t cs h1 h3 b hjb;rw[ht,hheap]at hrow';cases hrow';split at hc
  ·rename_i c0 c1;obtain⟨v0,hv0,_,hr0,_⟩:=hcell 0 c0 rfl;have hc0:w.cell? ⟨b,0,none⟩=some v0:=by
    rw[cell_of_row w b 0 _ _ _ hheap];simpa using hv0
   split at hc
   ·rename_i hd;cases hc;rw[hd]at hr0;simp only[dL]at hr0;subst hr0;have hl:2<=row.length:=by simpa using hlen
    have hsh:w.shape? b=some (yL,row.length):=by simp[World.shape?,hheap]
    have hfz:w.frozen? ⟨b,0,none⟩=false:=Lib.frozen_of_heap hheap 0;refine(zux b w hc0 hl hsh hfz).mono ?_;rintro e w' ⟨rfl,rfl⟩;have hnew:=zq0 hheap (.pointer (some ⟨b,0,none⟩));have hrest:∀k,k≠b->(w.setCell ⟨b,0,none⟩ (.pointer (some ⟨b,0,none⟩))).heap[k]?=w.heap[k]?:=fun k hk=>RowKit.Below.heap_setCell w ⟨b,0,none⟩ _ k hk;have hcl:∀(i:Nat)(c:Cell),[(⟨false,.ptr id 0⟩:Cell),c1][i]?=some c->∃v,(row.set 0 (.pointer (some ⟨b,0,none⟩)))[i]?=some v/\v.oneCell'=true/\uG I j own (w.setCell ⟨b,0,none⟩ (.pointer (some ⟨b,0,none⟩))) (.uV id i) c v:=by
     intro i c hi
     match i with
     |0 =>simp only[List.getElem?_cons_zero,aA]at hi;subst hi;refine⟨_,List.getElem?_set_self (by omega),rfl,?_,fun h=>by cases h⟩;simp only[dL];exact⟨b,hjb,rfl⟩
     |1 =>obtain⟨v1,q1,q2,q3,q4⟩:=hcell 1 c1 rfl;simp only[List.getElem?_cons_succ,List.getElem?_cons_zero,aA]at hi;subst hi;exact⟨v1,by rw[List.getElem?_set_ne (by omega)];exact q1,q2,q3,fun ho=>On (B:=b) (by rw[hown];intro h;cases h) hrest (q4 ho)⟩
     |n+2=>simp at hi
    obtain⟨g1,g2⟩:=hG.setObj (w':=w.setCell ⟨b,0,none⟩ (.pointer (some ⟨b,0,none⟩))) h3 hjb hown rfl rfl rfl (by simp[World.setCell]) hrest hheap hnew (by simpa using hl) (by simp) hcl;exact⟨I,j,own,g1,g2.weaken (fun _ _=>trivial),hS,by simp[dL,dV],fun h=>by cases h⟩
   ·rename_i id' hd;obtain⟨h4,hc⟩:=gQ hc;cases hc;have hid:id'=id:=by simpa using h4
    subst hid;rw[hd]at hr0;simp only[dL]at hr0;obtain⟨b2,hjb2,rfl⟩:=hr0;rw[hjb]at hjb2;cases hjb2;refine(zx6 b w hc0).mono ?_;rintro e w' ⟨rfl,rfl⟩;exact⟨I,j,own,hG,fD.refl _ _ _ _ _,hS,by simp[dL,dV],fun h=>by cases h⟩
   ·cases hc
  ·cases hc
 ·cases h
theorem zrz{w:World}{g n:Nat}{cur:Array Value}{T:TypeId}(h:w.heap[g]?=some (.cells cur T (0,0))):∃fr,(w.freeze ⟨g,0,none⟩ n).heap[g]?=some (.cells cur T fr):=by
 unfold World.freeze;split
 ·exact⟨_,h⟩
 ·simp only[Array.getElem?_modify,if_true,h,bN];exact⟨_,rfl⟩
theorem zp8{w:World}{g n b:Nat}(hb:b≠g):(w.freeze ⟨g,0,none⟩ n).heap[b]?=w.heap[b]?:=by
 unfold World.freeze;split
 ·rfl
 ·simp only[Array.getElem?_modify];rw[if_neg (fun e=>hb e.symm)]
theorem zp7{w:World}{g n:Nat}:(w.freeze ⟨g,0,none⟩ n).os=w.os/\(w.freeze ⟨g,0,none⟩ n).tape=w.tape/\(w.freeze ⟨g,0,none⟩ n).output=w.output/\(w.freeze ⟨g,0,none⟩ n).heap.size=w.heap.size:=by
 unfold World.freeze;split
 ·exact⟨rfl,rfl,rfl,rfl⟩
 ·exact⟨rfl,rfl,rfl,by simp⟩
theorem zu8{I:fU}{j:fJ}{own:gZ}{O:Store}{w w':World}{g id:Nat}{c0 c1:Cell}{cur:Array Value}{T:TypeId}{fr:Nat×Nat}(hG:eH I j own O w)(hg:w.heap[g]?=some (.cells cur T (0,0)))(hown:own g=some (.uV id 1))
  (hcs:dC O.dE id=some [c0,c1]) (h1:w'.heap[g]?=some (.cells cur T fr)) (hoth:∀b,b≠g->w'.heap[b]?=w.heap[b]?) (hos:w'.os=w.os) (ht:w'.tape=w.tape) (hout:w'.output=w.output) (hsz:w'.heap.size=w.heap.size) :
  ∃own',eH I j own' {O with dE:=fF O.dE id [c0,⟨false,c1.d⟩]} w'/\fD I j own w I j own' w' (fun _=>True)/\(zA own->zA own'):=by
 classical
 let own':gZ:=fun b=>if b=g then none else own b
 have hsub:∀b t,own' b=some t->own b=some t/\b≠g:=by
  intro b t h;by_cases hb:b=g
  ·simp only[own',if_pos hb]at h;cases h
  ·simp only[own',if_neg hb]at h;exact⟨h,hb⟩
 have hkeep:∀b t,own b=some t->t≠.uV id 1->own' b=some t/\b≠g:=by
  intro b t h hne;have hb:b≠g:=fun e=>by subst e;rw[hown]at h;cases h;exact hne rfl
  exact⟨by simp only[own',if_neg hb];exact h,hb⟩
 have hown':∀{t:Tag}{d:D}{v:Value},t≠.uV id 1->mD I own w t d v->mD I own' w' t d v:=by
  intro t d v hne k;unfold mD at k ⊢;cases hp:yJ d v with
  |none=>trivial
  |some p =>
   rw[hp]at k;rcases k with k|⟨b,cap,cur',T',k1,k2,k3,k4⟩
   ·exact .inl k
   ·obtain⟨q1,q2⟩:=hkeep b t k2 hne;exact .inr ⟨b,cap,cur',T',k1,q1,(hoth b q2).trans k3,k4⟩
 refine⟨own',⟨fun b o v h=>?_,fun b t h hu=>hG.kS b t (hsub b t h).1 hu,fun id' cs h=>?_,fun id' t cs k1 k2 b hb=>?_,fun id' x h=>?_,hG.mG,fun b t h=>by rw[hsz];exact hG.jU b t (hsub b t h).1⟩,
  ⟨hos,ht,hout,Nat.le_of_eq hsz.symm,fun _ _ _ h=>h,fun _ _ h=>h,fun b hb hn=>?_⟩,fun hS b t h=>hS b t (hsub b t h).1⟩
 ·by_cases hb:b=g
  ·subst hb;have:=hG.holds b o v h;rw[cell_of_row w b o cur T (0,0) hg]at this;rw[cell_of_row w' b o cur T fr h1];exact this
  ·rw[World.cell?_of_block (w:=w) (w':=w') (a:=⟨b,o,none⟩) (hoth b hb)];exact hG.holds b o v h
 ·have hex:∃cs0,dC O.dE id'=some cs0/\cs0.length=cs.length/\∀(i:Nat)(c:Cell),cs[i]?=some c->∃c0,cs0[i]?=some c0/\c0.d=c.d/\(c.own=true->c0.own=true/\Tag.uV id' i≠.uV id 1):=by
   simp only[jM]at h;by_cases hid:id=id'
   ·subst hid;rw[if_pos rfl]at h;cases h;refine⟨_,hcs,rfl,fun i c hi=>?_⟩
    match i with
    |0 =>simp only[List.getElem?_cons_zero,aA]at hi;subst hi;exact⟨c0,rfl,rfl,fun ho=>⟨ho,by simp⟩⟩
    |1 =>simp only[List.getElem?_cons_succ,List.getElem?_cons_zero,aA]at hi;subst hi;exact⟨c1,rfl,rfl,fun ho=>by cases ho⟩
    |n+2=>simp at hi
   ·rw[if_neg hid]at h;exact⟨cs,h,rfl,fun i c hi=>⟨c,hi,rfl,fun ho=>⟨ho,fun e=>by cases e;exact hid rfl⟩⟩⟩
  obtain⟨cs0,e1,e2,e3⟩:=hex;obtain⟨b,q1,q2,vs,T',r1,r2,r3⟩:=hG.dE id' cs0 e1;obtain⟨k1,k2⟩:=hkeep b _ q2 (by simp);refine⟨b,q1,k1,vs,T',(hoth b k2).trans r1,by omega,fun i c hi=>?_⟩;obtain⟨c0',f1,f2,f3⟩:=e3 i c hi;obtain⟨v,s1,s2,s3,s4⟩:=r3 i c0' f1;exact⟨v,s1,s2,f2▸s3,fun ho=>f2▸hown' (f3 ho).2 (s4 (f3 ho).1)⟩
 ·have hex:∃cs0,dC O.dE id'=some cs0:=by
   simp only[jM]at k2;split at k2
   ·rename_i hh;subst hh;exact⟨_,hcs⟩
   ·exact⟨cs,k2⟩
  obtain⟨cs0,e1⟩:=hex;have hty:=hG.fH id' t cs0 k1 e1 b hb;obtain⟨B2,q1,q2,_⟩:=hG.dE id' cs0 e1;rw[hb]at q1;cases q1;exact hty.keep (hoth b (hkeep b _ q2 (by simp)).2) (fun _ _ h=>h)
 ·obtain⟨b,q1,q2,q3⟩:=hG.dP id' x h;obtain⟨k1,k2⟩:=hkeep b _ q2 (by simp);exact⟨b,q1,k1,q3.keep (hoth b k2) (fun _ _ _ h=>h) (fun _ _ h=>h)⟩
 ·have hbg:b≠g:=fun e=>by subst e;exact hn _ hown trivial
  exact⟨hoth b hbg,by simp only[own',if_neg hbg],fun _=>rfl⟩
theorem zxc{ds:List D}{O O':Store}{out:Out}(h:iw ds O=some (out,O')):uL Tryz.prog κ 33 ds O out O':=by
 refine(wY (show jK 33=false from rfl)).2 ⟨⟨_,_,Tryz.func33,by kernel_rfl,rfl⟩,fun I j own w vs hS hB hG hr=>?_⟩;unfold iw at h;split at h
 ·rename_i id;obtain⟨t,h1,ha⟩:=dJ h;obtain⟨h2,hb⟩:=gQ ha;obtain⟨cs,h3,hc⟩:=dJ hb;clear h ha hb;have ht:t.t=yL:=by simpa using h2
  obtain⟨v,rfl,hv⟩:=IV hr;simp only[dL]at hv;obtain⟨b,hjb,rfl⟩:=hv;obtain⟨b',hjb',hown,row,T,hheap,hlen,hcell⟩:=hG.dE id cs h3;rw[hjb]at hjb';cases hjb';obtain⟨row',hrow',_⟩:=hG.fH id t cs h1 h3 b hjb;rw[ht,hheap]at hrow';cases hrow';split at hc
  ·rename_i c0 c1;split at hc
   ·rename_i k es hd;obtain⟨h4,hc⟩:=gQ hc;obtain⟨s,h5,hc⟩:=dJ hc;cases hc;simp only[aC,Bool.not_eq_true',List.isEmpty_eq_false_iff]at h4;obtain⟨⟨ho,hk⟩,hne⟩:=h4;obtain⟨hk1,hk2⟩:k.el=5/\k.sz=1:=by simpa[zc6,Ii]using hk
    obtain⟨b1,b2⟩:=WK h5;obtain⟨v0,q0,_⟩:=hcell 0 c0 rfl;obtain⟨v1,q1,_,q3,q4⟩:=hcell 1 c1 rfl;have hO:=q4 ho;rw[hd]at hO q3;simp only[dL]at q3;obtain⟨ad,cap,hv1,hle,hmax,hrow⟩:=q3;obtain⟨g0,o0,hg0,hrr⟩:=hrow.resolve_left hne;simp only[mD]at hO;obtain⟨g,cap',cur,T',e1,e2,e3,⟨e4,e5⟩,e6⟩:=hO.resolve_left (fun⟨_,_,h⟩=>hne (h hk1));rw[hv1,hg0]at e1;simp only[Value.slice.injEq,aA,Addr.mk.injEq,and_true,true_and]at e1;obtain⟨⟨rfl,rfl⟩,rfl⟩:=e1;rw[hk1]at e4;subst e4;rw[hk2]at e5 hrr;obtain⟨rest,hrow2⟩:∃rest,row=v0::v1::rest:=by
     have hl:2<=row.length:=by simpa using hlen
     match row,hl with
     |x::y::r,_ =>simp at q0 q1;exact⟨r,by rw[q0,q1]⟩
    have hs0:s≠[]:=(by intro e;subst e;exact hne (bL b1.symm));have hbk:w.heap[b]?=some (.cells ⟨v0::.slice (some ⟨g0,0,none⟩) s.length cap::rest⟩ yL (0,0)):=(by rw[hheap,hrow2,hv1,hg0,b1]);refine(ztm b g0 cap v0 rest cur s w hs0 hbk e3 (by omega) hmax e5 (fun jx x hx=>?_)).mono ?_
    ·obtain⟨u,r1,_,r3⟩:=hrr.at jx _ (b2 jx x hx);simp only[dL]at r3;subst r3;have:=hG.holds _ _ _ (r1 0 (.int .u8 x.toNat) rfl);simpa using this
    ·rintro e w' ⟨rfl,rfl⟩;obtain⟨fr,hfr⟩:=zrz (w:=w.drew) (g:=g0) (n:=s.length) (show w.drew.heap[g0]?=some (.cells cur 5 (0,0))from e3);obtain⟨f1,f2,f3,f4⟩:=zp7 (w:=w.drew) (g:=g0) (n:=s.length);obtain⟨own',g1,g2,g3⟩:=zu8 hG e3 e2 h3 hfr (fun b hb=>zp8 (w:=w.drew) hb) f1 f2 f3 f4;rw[hd]at g1;refine⟨I,j,own',?_,g2,g3 hS,by simp only[dL],fun h=>by cases h⟩;rw[hd];exact g1
   ·cases hc
  ·cases hc
 ·cases h
end Go.Fu
