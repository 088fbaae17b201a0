/- A part of the proof. -/
import Derived.Test.YtldfbnbckiifeaaGreatDoorFgEc
set_option maxHeartbeats 4000000
set_option linter.all false
namespace Go.Fu
open Go Go.Mx
set_option maxRecDepth 10000
open Classical in
def kM:fC:=[(wM,H7),(tB,H6),(Ad,WW),(yG,zke),(HV,zcb),(GZ,zca)]
theorem zcdb{S:fC}(hs:iV S HY=false)(n:Nat)(O:Store):W S (n+1) HY [] O=some (.ret ⟨false,.map O.next⟩,GM O (.map Tu 6)):=by rw[fW (af:=J9) hs rfl rfl];have f0:nQ (.str [97,100,100]) []=some none:=rfl;have f1:nQ (.str [115,117,98]) [(.str [97,100,100],.str [65,68,68],0)]=some none:=rfl;have f2:nQ (.str [109,117,108]) [(.str [97,100,100],.str [65,68,68],0),(.str [115,117,98],.str [83,85,66],1)]=some none:=rfl;have f3:nQ (.str [100,105,118]) [(.str [97,100,100],.str [65,68,68],0),(.str [115,117,98],.str [83,85,66],1),(.str [109,117,108],.str [77,85,76],2)]=some none:=rfl;have f4:nQ (.str [101,113]) [(.str [97,100,100],.str [65,68,68],0),(.str [115,117,98],.str [83,85,66],1),(.str [109,117,108],.str [77,85,76],2),(.str [100,105,118],.str [68,73,86],3)]=some none:=rfl;have f5:nQ (.str [108,116]) [(.str [97,100,100],.str [65,68,68],0),(.str [115,117,98],.str [83,85,66],1),(.str [109,117,108],.str [77,85,76],2),(.str [100,105,118],.str [68,73,86],3),(.str [101,113],.str [69,81],4)]=some none:=rfl;simp only[J9,sA,Nat.reduceAdd,Nat.reduceBEq,kn,fP,mB,zeo,tW,f0,f1,f2,f3,f4,f5,zik,Nat.reduceAdd];rfl
theorem zizb(c:Co):lenOf (kD c)=some c.ks.length:=uK _ _
end Go.Fu
