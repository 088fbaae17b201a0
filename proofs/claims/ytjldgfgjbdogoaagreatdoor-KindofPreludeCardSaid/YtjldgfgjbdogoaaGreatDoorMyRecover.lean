/-
  The program's functions as the machine's code (printed by gen2.py).
-/
import Derived.Test.YtjldgfgjbdogoaaGreatDoorFkCode5
import Derived.Test.YtjldgfgjbdogoaaGreatDoorProg
import Derived.Recover
import Derived.Test.YtjldgfgjbdogoaaGreatDoorFkIds
set_option linter.unusedSimpArgs false
set_option linter.unusedVariables false
set_option linter.unusedSectionVars false
namespace Go.Fu
open Go Go.Mx
def a_412 : ACode := (.seq (.seq (.region [ ⟨(some 18), .mov (.tmp 10), none⟩, ⟨(some 19), .mov (.tmp 11), none⟩, ⟨(some 20), .bin .neq (.tmp 18) (.tmp 19), none⟩] none [18, 19]) (.cond (.tmp 20) .skip (.exit 0))) (.block 1 (.seq (.region [ ⟨(some 21), .mov (.tmp 10), none⟩,
 ⟨(some 22), .mov (.tmp 11), none⟩, ⟨(some 23), .bin .gtr (.tmp 21) (.tmp 22), none⟩] none [20, 21, 22]) (.cond (.tmp 23) (.seq (.region [ ⟨(some 24), .mov (.tmp 0), none⟩, ⟨(some 25), .mov (.tmp 2), none⟩, ⟨(some 26), .mov (.tmp 10), none⟩, ⟨(some 27), .bin .sub (.tmp 25) (.tmp 26), none⟩,
 ⟨(some 28), .mov (.tmp 2), none⟩, ⟨(some 29), .mov (.tmp 11), none⟩, ⟨(some 30), .mov (.tmp 4), none⟩, ⟨(some 31), .call n_260 [(.tmp 24), (.tmp 27), (.tmp 28), (.tmp 29), (.tmp 30)], none⟩] none [23, 24, 25, 26, 27, 28, 29, 30, 31]) (.region [
 ⟨(some 32), .mov (.tmp 10), none⟩, ⟨(some 33), .mov (.tmp 11), none⟩, ⟨(some 34), .bin .sub (.tmp 32) (.tmp 33), none⟩, ⟨(some 10), .mov (.mv 34), none⟩] none [32, 33, 34])) (.seq (.region [ ⟨(some 35), .mov (.tmp 0), none⟩, ⟨(some 36), .mov (.tmp 2), none⟩, ⟨(some 37), .mov (.tmp 10), none⟩,
 ⟨(some 38), .bin .sub (.tmp 36) (.tmp 37), none⟩, ⟨(some 39), .mov (.tmp 2), none⟩, ⟨(some 40), .mov (.tmp 11), none⟩, ⟨(some 41), .bin .add (.tmp 39) (.tmp 40), none⟩, ⟨(some 42), .mov (.tmp 10), none⟩, ⟨(some 43), .bin .sub (.tmp 41) (.tmp 42), none⟩, ⟨(some 44), .mov (.tmp 10), none⟩,
 ⟨(some 45), .mov (.tmp 4), none⟩, ⟨(some 46), .call n_260 [(.tmp 35), (.tmp 38), (.tmp 43), (.tmp 44), (.tmp 45)], none⟩] none [23, 35, 36, 37, 38, 39, 40, 41, 42, 43, 44, 45, 46]) (.region [ ⟨(some 47), .mov (.tmp 11), none⟩, ⟨(some 48), .mov (.tmp 10), none⟩,
 ⟨(some 49), .bin .sub (.tmp 47) (.tmp 48), none⟩, ⟨(some 11), .mov (.mv 49), none⟩] none [47, 48, 49]))))))
def a_238 : AFun := { nargs := 5, ntmps := 58, res := [], gc := false, body := (.seq (.region [ ⟨(some 12), .mov (.tmp 2), none⟩, ⟨(some 13), .mov (.tmp 1), none⟩, ⟨(some 14), .bin .sub (.tmp 12) (.tmp 13), none⟩, ⟨(some 10), .mov (.mv 14), none⟩] none [1, 12, 13, 14]) (.seq
 (.region [ ⟨(some 15), .mov (.tmp 3), none⟩, ⟨(some 16), .mov (.tmp 2), none⟩, ⟨(some 17), .bin .sub (.tmp 15) (.tmp 16), none⟩, ⟨(some 11), .mov (.mv 17), none⟩] none [3, 15, 16, 17]) (.seq (.block 0 (.loop a_412)) (.region [ ⟨(some 50), .mov (.tmp 0), none⟩,
 ⟨(some 51), .mov (.tmp 2), none⟩, ⟨(some 52), .mov (.tmp 10), none⟩, ⟨(some 53), .bin .sub (.tmp 51) (.tmp 52), none⟩, ⟨(some 54), .mov (.tmp 2), none⟩, ⟨(some 55), .mov (.tmp 10), none⟩, ⟨(some 56), .mov (.tmp 4), none⟩,
 ⟨(some 57), .call n_260 [(.tmp 50), (.tmp 53), (.tmp 54), (.tmp 55), (.tmp 56)], none⟩] none [0, 2, 4, 10, 11, 20, 50, 51, 52, 53, 54, 55, 56, 57])))) }
def a_89 : AFun := { nargs := 1, ntmps := 17, res := [.tmp 2], gc := false, body := (.seq (.region [ ⟨(some 2), .mov (.const (.str [])), none⟩] none [2]) (.seq (.region [ ⟨(some 4), .mov (.tmp 0), none⟩, ⟨(some 5), .bin .rem (.tmp 4) (.const (.int .i64 26)), none⟩,
 ⟨(some 6), .bin .add (.const (.int .i64 97)) (.tmp 5), none⟩, ⟨(some 7), .toInt .i32 (.tmp 6), none⟩, ⟨(some 8), .runeStr (.tmp 7), none⟩, ⟨(some 3), .mov (.mv 8), none⟩] none [4, 5, 6, 7, 8]) (.seq (.seq (.region [ ⟨(some 9), .mov (.tmp 0), none⟩,
 ⟨(some 10), .bin .lss (.tmp 9) (.const (.int .i64 26)), none⟩] none [9]) (.cond (.tmp 10) (.seq (.region [ ⟨(some 11), .mov (.mv 3), none⟩, ⟨(some 2), .mov (.mv 11), none⟩] none [0, 3, 10, 11]) .ret) .skip)) (.seq (.region [ ⟨(some 12), .mov (.mv 3), none⟩, ⟨(some 13), .mov (.mv 0), none⟩,
 ⟨(some 14), .bin .quo (.tmp 13) (.const (.int .i64 26)), none⟩, ⟨(some 15), .call n_504 [(.tmp 14)], none⟩, ⟨(some 16), .bin .add (.tmp 12) (.tmp 15), none⟩, ⟨(some 2), .mov (.mv 16), none⟩] none [0, 3, 10, 12, 13, 14, 15, 16]) .ret)))) }
def a_229 : AFun := { nargs := 2, ntmps := 9, res := [.tmp 4], gc := false, body := (.seq (.region [ ⟨(some 4), .mov (.const (.bool false)), none⟩] none [4]) (.seq (.region [ ⟨(some 5), .mov (.mv 0), none⟩, ⟨(some 6), .mov (.mv 1), none⟩,
 ⟨(some 7), .call n_500 [(.tmp 5), (.tmp 6)], none⟩, ⟨(some 8), .bin .geq (.tmp 7) (.const (.int .i64 0)), none⟩, ⟨(some 4), .mov (.mv 8), none⟩] none [0, 1, 5, 6, 7, 8]) .ret)) }
def a_142 : AFun := { nargs := 3, ntmps := 9, res := [.tmp 4], gc := false, body := (.seq (.region [ ⟨(some 3), .box (.tmp 0), none⟩, ⟨(some 4), .mov (.const (.bool false)), none⟩] none [0, 4]) (.seq (.region [ ⟨(some 5), .load none false (.tmp 1), none⟩,
 ⟨(some 6), .load none false (.tmp 2), none⟩, ⟨(some 7), .load (some 3) false (.tmp 3), none⟩, ⟨(some 8), .call n_278 [(.tmp 5), (.tmp 6), (.tmp 7)], none⟩, ⟨(some 4), .mov (.mv 8), none⟩] none [1, 2, 3, 5, 6, 7, 8]) .ret)) }
def a_203 : AFun := { nargs := 2, ntmps := 74, res := [.cell 4 (some 10), .tmp 5], gc := false, body := (.seq (.region [ ⟨(some 4), .alloc [.int .i64 0, .int .i64 0, .int .i64 0, .str [], .nils, .int .i64 0, .int .i64 0, .str [], .nils, .nils], none⟩,
 ⟨(some 5), .mov (.const (.bool false)), none⟩] none [5]) (.seq (.seq (.region [ ⟨(some 8), .mov (.tmp 0), none⟩, ⟨(some 9), .call n_18 [(.tmp 8)], none⟩, ⟨(some 10), .un .not (.tmp 9), none⟩] none [8, 9]) (.cond (.tmp 10) (.seq (.region [
 ⟨(some 11), .build [.int .i64 0, .int .i64 0, .int .i64 0, .str [], .nils, .int .i64 0, .int .i64 0, .str [], .nils, .nils] [], none⟩, ⟨none, .store 10 (.tmp 4) (.mv 11), none⟩, ⟨(some 5), .mov (.const (.bool false)), none⟩] none [0, 1, 10, 11]) .ret) .skip)) (.seq (.region [
 ⟨(some 12), .mov (.tmp 0), none⟩, ⟨(some 13), .call n_21 [(.tmp 12)], none⟩, ⟨(some 6), .alloc [.int .i64 0, .str [], .int .i64 0, .int .i64 0], none⟩, ⟨none, .store 4 (.tmp 6) (.mv 13), none⟩] none [10, 12, 13]) (.seq (.seq (.region [ ⟨(some 14), .fieldAddr 0 none (.tmp 6), none⟩,
 ⟨(some 15), .load none false (.tmp 14), none⟩, ⟨(some 16), .bin .gtr (.tmp 15) (.const (.int .i64 0)), none⟩, ⟨(some 17), .mov (.mv 16), none⟩, ⟨(some 18), .fieldAddr 0 none (.tmp 6), (some (17, true))⟩, ⟨(some 19), .load none false (.tmp 18), (some (17, true))⟩,
 ⟨(some 20), .bin .lss (.tmp 19) (.const (.int .i64 4)), (some (17, true))⟩, ⟨(some 21), .pick (.tmp 17) (.tmp 20) (.const (.bool false)), none⟩] none [14, 15, 16, 17, 18, 19, 20]) (.cond (.tmp 21) (.seq (.region [ ⟨(some 22), .mov (.tmp 0), none⟩, ⟨(some 23), .mov (.tmp 0), none⟩,
 ⟨(some 24), .nilCheck (.tmp 23), none⟩, ⟨(some 25), .fieldAddr 1 none (.tmp 24), none⟩, ⟨(some 26), .load none false (.tmp 25), none⟩, ⟨(some 27), .bin .add (.tmp 26) (.const (.int .i64 1)), none⟩, ⟨(some 28), .nilCheck (.tmp 22), none⟩, ⟨(some 29), .fieldAddr 1 none (.tmp 28), none⟩,
 ⟨none, .store 1 (.tmp 29) (.mv 27), none⟩] none [0, 1, 21, 22, 23, 24, 25, 26, 27, 28, 29]) (.seq (.region [ ⟨(some 30), .buildSlice k_int [(.const (.int .i64 0)), (.const (.int .i64 2)), (.const (.int .i64 4)), (.const (.int .i64 3))], none⟩, ⟨(some 31), .fieldAddr 0 none (.tmp 6), none⟩,
 ⟨(some 32), .loadB 6 none (.tmp 31), none⟩, ⟨(some 33), .indexAddr 1 (.tmp 30) (.tmp 32), none⟩, ⟨(some 34), .loadG none (.tmp 33), none⟩, ⟨(some 35), .fieldAddr 3 none (.tmp 6), none⟩, ⟨(some 36), .loadB 6 none (.tmp 35), none⟩, ⟨(some 37), .fieldAddr 2 none (.tmp 6), none⟩,
 ⟨(some 38), .loadB 6 none (.tmp 37), none⟩, ⟨(some 39), .fieldAddr 1 none (.tmp 6), none⟩, ⟨(some 40), .loadB 6 none (.tmp 39), none⟩, ⟨(some 41), .fieldAddr 1 none (.tmp 6), none⟩, ⟨(some 42), .loadB 6 none (.tmp 41), none⟩,
 ⟨(some 43), .buildSlice k_0 [(.const (.str [])), (.tmp 40), (.tmp 42), (.const (.str []))], none⟩, ⟨(some 44), .fieldAddr 0 none (.tmp 6), none⟩, ⟨(some 45), .loadB 6 none (.tmp 44), none⟩, ⟨(some 46), .indexAddr 1 (.tmp 43) (.tmp 45), none⟩, ⟨(some 47), .loadG none (.tmp 46), none⟩,
 ⟨(some 48), .build [.int .i64 0, .int .i64 0, .int .i64 0, .str [], .nils, .int .i64 0, .int .i64 0, .str [], .nils, .nils] [(0, 1, (.tmp 34)), (1, 1, (.tmp 36)), (2, 1, (.tmp 38)), (3, 1, (.tmp 47))], none⟩, ⟨none, .storeB 4 10 (.tmp 4) (.mv 48), none⟩,
 ⟨(some 5), .mov (.const (.bool true)), none⟩] (some [0, 1, 2, 3, 4, 5, 6, 7, 8, 9, 10, 11, 12, 13, 14, 15, 16, 17, 18, 19, 20]) [6, 30, 31, 32, 33, 34, 35, 36, 37, 38, 39, 40, 41, 42, 43, 44, 45, 46, 47, 48]) .ret)) .skip)) (.seq (.seq (.region [ ⟨(some 49), .mov (.tmp 0), none⟩,
 ⟨(some 50), .call n_25 [(.tmp 49), (.const (.str [95]))], none⟩] none [21, 49]) (.cond (.tmp 50) (.seq (.region [ ⟨(some 51), .fieldAddr 3 none (.tmp 6), none⟩, ⟨(some 52), .load none false (.tmp 51), none⟩,
 ⟨(some 53), .build [.int .i64 0, .int .i64 0, .int .i64 0, .str [], .nils, .int .i64 0, .int .i64 0, .str [], .nils, .nils] [(0, 1, (.const (.int .i64 1))), (1, 1, (.tmp 52))], none⟩, ⟨none, .store 10 (.tmp 4) (.mv 53), none⟩,
 ⟨(some 5), .mov (.const (.bool true)), none⟩] none [0, 1, 6, 50, 51, 52, 53]) .ret) .skip)) (.seq (.seq (.region [ ⟨(some 54), .mov (.tmp 0), none⟩, ⟨(some 55), .call n_66 [(.tmp 54), (.const (.str [40]))], none⟩, ⟨(some 56), .un .not (.tmp 55), none⟩] none [50, 54, 55]) (.cond (.tmp 56) (.seq
 (.region [ ⟨(some 57), .build [.int .i64 0, .int .i64 0, .int .i64 0, .str [], .nils, .int .i64 0, .int .i64 0, .str [], .nils, .nils] [], none⟩, ⟨none, .store 10 (.tmp 4) (.mv 57), none⟩, ⟨(some 5), .mov (.const (.bool false)), none⟩] none [0, 1, 6, 56, 57]) .ret) .skip)) (.seq (.seq (.region [
 ⟨(some 58), .mov (.tmp 1), none⟩, ⟨(some 59), .bin .geq (.tmp 58) (.const (.int .i64 40)), none⟩] none [56, 58]) (.cond (.tmp 59) (.seq (.region [ ⟨(some 60), .mov (.tmp 0), none⟩, ⟨(some 61), .fieldAddr 3 none (.tmp 6), none⟩, ⟨(some 62), .load none false (.tmp 61), none⟩,
 ⟨(some 63), .call n_22 [(.tmp 60), (.const (.int .i64 13)), (.tmp 62)], none⟩] none [0, 1, 6, 59, 60, 61, 62, 63]) (.seq (.region [ ⟨(some 64), .build [.int .i64 0, .int .i64 0, .int .i64 0, .str [], .nils, .int .i64 0, .int .i64 0, .str [], .nils, .nils] [], none⟩,
 ⟨none, .store 10 (.tmp 4) (.mv 64), none⟩, ⟨(some 5), .mov (.const (.bool false)), none⟩] none [64]) .ret)) .skip)) (.seq (.region [ ⟨(some 65), .mov (.tmp 0), none⟩, ⟨(some 66), .call n_20 [(.tmp 65), (.const (.str [40]))], none⟩] none [6, 59, 65, 66]) (.seq (.region [
 ⟨(some 67), .mov (.tmp 0), none⟩, ⟨(some 68), .mov (.tmp 1), none⟩, ⟨(some 69), .bin .add (.tmp 68) (.const (.int .i64 1)), none⟩, ⟨(some 70), .call n_292 [(.tmp 67), (.tmp 69)], none⟩,
 ⟨(some 7), .alloc [.int .i64 0, .int .i64 0, .int .i64 0, .str [], .nils, .int .i64 0, .int .i64 0, .str [], .nils, .nils], none⟩, ⟨none, .store 10 (.tmp 7) (.mv 70), none⟩] none [1, 67, 68, 69, 70]) (.seq (.region [ ⟨(some 71), .mov (.tmp 0), none⟩,
 ⟨(some 72), .call n_20 [(.tmp 71), (.const (.str [41]))], none⟩] none [0, 71, 72]) (.seq (.region [ ⟨(some 73), .load (some 10) true (.tmp 7), none⟩, ⟨none, .store 10 (.tmp 4) (.mv 73), none⟩, ⟨(some 5), .mov (.const (.bool true)), none⟩] none [7, 73]) .ret))))))))))) }
def a_416 : ACode := (.seq (.seq (.region [ ⟨(some 11), .mov (.tmp 10), none⟩, ⟨(some 12), .mov (.tmp 3), none⟩, ⟨(some 13), .bin .lss (.tmp 11) (.tmp 12), none⟩] none [11, 12]) (.cond (.tmp 13) .skip (.exit 0))) (.seq (.block 1 (.region [ ⟨(some 16), .mov (.tmp 0), none⟩,
 ⟨(some 17), .mov (.tmp 1), none⟩, ⟨(some 18), .mov (.tmp 10), none⟩, ⟨(some 19), .bin .add (.tmp 17) (.tmp 18), none⟩, ⟨(some 20), .mov (.tmp 0), none⟩, ⟨(some 21), .mov (.tmp 2), none⟩, ⟨(some 22), .mov (.tmp 10), none⟩, ⟨(some 23), .bin .add (.tmp 21) (.tmp 22), none⟩,
 ⟨(some 24), .mov (.tmp 0), none⟩, ⟨(some 25), .mov (.tmp 2), none⟩, ⟨(some 26), .mov (.tmp 10), none⟩, ⟨(some 27), .bin .add (.tmp 25) (.tmp 26), none⟩, ⟨(some 28), .indexAddr 1 (.tmp 24) (.tmp 27), none⟩, ⟨(some 29), .loadG none (.tmp 28), none⟩, ⟨(some 30), .mov (.tmp 0), none⟩,
 ⟨(some 31), .mov (.tmp 1), none⟩, ⟨(some 32), .mov (.tmp 10), none⟩, ⟨(some 33), .bin .add (.tmp 31) (.tmp 32), none⟩, ⟨(some 34), .indexAddr 1 (.tmp 30) (.tmp 33), none⟩, ⟨(some 35), .loadG none (.tmp 34), none⟩, ⟨(some 36), .indexAddr 1 (.tmp 16) (.tmp 19), none⟩,
 ⟨none, .storeP 1 (.tmp 36) (.tmp 29), none⟩, ⟨(some 37), .indexAddr 1 (.tmp 20) (.tmp 23), none⟩,
 ⟨none, .storeP 1 (.tmp 37) (.tmp 35), none⟩] (some [0, 1, 2, 3, 4, 5, 6, 7, 8, 9, 10, 11, 12, 13, 14, 15, 16, 17, 18, 19, 20, 21, 22, 23]) [13, 16, 17, 18, 19, 20, 21, 22, 23, 24, 25, 26, 27, 28, 29, 30, 31, 32, 33, 34, 35, 36, 37])) (.region [ ⟨(some 14), .mov (.tmp 10), none⟩,
 ⟨(some 15), .bin .add (.tmp 14) (.const (.int .i64 1)), none⟩, ⟨(some 10), .mov (.mv 15), none⟩] none [14, 15])))
def a_240 : AFun := { nargs := 5, ntmps := 38, res := [], gc := false, body := (.seq (.region [ ⟨(some 10), .mov (.const (.int .i64 0)), none⟩] none [4]) (.block 0 (.loop a_416))) }
def a_408 : ACode := (.seq (.region [ ⟨(some 9), .bin .lss (.tmp 8) (.tmp 7), none⟩] none []) (.seq (.cond (.tmp 9) .skip (.exit 0)) (.seq (.block 1 (.seq (.region [ ⟨(some 10), .mov (.tmp 8), none⟩, ⟨(some 5), .mov (.mv 10), none⟩] none [9, 10]) (.seq (.region [
 ⟨(some 11), .mov (.tmp 1), none⟩, ⟨(some 12), .mov (.tmp 0), none⟩, ⟨(some 13), .mov (.tmp 5), none⟩, ⟨(some 14), .indexAddr 3 (.tmp 12) (.tmp 13), none⟩, ⟨(some 15), .load (some 3) false (.tmp 14), none⟩, ⟨(some 16), .callv (.tmp 11) [(.tmp 15)], none⟩] none [11, 12, 13, 14, 15]) (.cond (.tmp 16)
 (.seq (.region [ ⟨(some 17), .mov (.mv 5), none⟩, ⟨(some 4), .mov (.mv 17), none⟩] none [0, 1, 5, 7, 8, 16, 17]) .ret) .skip)))) (.region [ ⟨(some 18), .bin .add (.tmp 8) (.const (.int .i64 1)), none⟩, ⟨(some 8), .mov (.mv 18), none⟩] none [5, 16, 18]))))
def a_234 : AFun := { nargs := 2, ntmps := 19, res := [.tmp 4], gc := false, body := (.seq (.region [ ⟨(some 4), .mov (.const (.int .i64 0)), none⟩] none [4]) (.seq (.seq (.region [ ⟨(some 6), .mov (.tmp 0), none⟩, ⟨(some 7), .len (.tmp 6), none⟩,
 ⟨(some 8), .mov (.const (.int .i64 0)), none⟩] none [6]) (.block 0 (.loop a_408))) (.seq (.region [ ⟨(some 4), .mov (.const (.int .i64 (-1))), none⟩] none [0, 1, 7, 8, 9]) .ret))) }
end Go.Fu
namespace Go.Fu
open Go Go.Mx
theorem zka : okFun Go.Proofs.Tryz.prog Go.Proofs.Tryz.f3 a_38 = true := by kernel_rfl
theorem zmg : okFun Go.Proofs.Tryz.prog Go.Proofs.Tryz.f4 a_94 = true := by kernel_rfl
theorem zq7 : okFun Go.Proofs.Tryz.prog Go.Proofs.Tryz.f5 a_42 = true := by kernel_rfl
theorem zp3 : okFun Go.Proofs.Tryz.prog Go.Proofs.Tryz.f6 a_210 = true := by kernel_rfl
theorem znq : okFun Go.Proofs.Tryz.prog Go.Proofs.Tryz.f7 a_211 = true := by kernel_rfl
theorem zno : okFun Go.Proofs.Tryz.prog Go.Proofs.Tryz.f8 a_151 = true := by kernel_rfl
theorem ztk : okFun Go.Proofs.Tryz.prog Go.Proofs.Tryz.f9 a_60 = true := by kernel_rfl
theorem ztl : okFun Go.Proofs.Tryz.prog Go.Proofs.Tryz.f10 a_61 = true := by kernel_rfl
theorem zu2 : okFun Go.Proofs.Tryz.prog Go.Proofs.Tryz.f11 a_59 = true := by kernel_rfl
theorem zs0 : okFun Go.Proofs.Tryz.prog Go.Proofs.Tryz.f12 a_147 = true := by kernel_rfl
theorem zq6 : okFun Go.Proofs.Tryz.prog Go.Proofs.Tryz.f13 a_144 = true := by kernel_rfl
theorem zu7 : okFun Go.Proofs.Tryz.prog Go.Proofs.Tryz.f14 a_164 = true := by kernel_rfl
theorem ztn : okFun Go.Proofs.Tryz.prog Go.Proofs.Tryz.f15 a_63 = true := by kernel_rfl
theorem zp5 : okFun Go.Proofs.Tryz.prog Go.Proofs.Tryz.f16 a_62 = true := by kernel_rfl
theorem zsx : okFun Go.Proofs.Tryz.prog Go.Proofs.Tryz.f17 a_55 = true := by kernel_rfl
theorem zpy : okFun Go.Proofs.Tryz.prog Go.Proofs.Tryz.f18 a_177 = true := by kernel_rfl
theorem zon : okFun Go.Proofs.Tryz.prog Go.Proofs.Tryz.f19 a_92 = true := by kernel_rfl
theorem zs6 : okFun Go.Proofs.Tryz.prog Go.Proofs.Tryz.f20 a_163 = true := by kernel_rfl
theorem znk : okFun Go.Proofs.Tryz.prog Go.Proofs.Tryz.f21 a_102 = true := by kernel_rfl
theorem zov : okFun Go.Proofs.Tryz.prog Go.Proofs.Tryz.f22 a_58 = true := by kernel_rfl
theorem zps : okFun Go.Proofs.Tryz.prog Go.Proofs.Tryz.f23 a_56 = true := by kernel_rfl
theorem zj7 : okFun Go.Proofs.Tryz.prog Go.Proofs.Tryz.f24 a_137 = true := by kernel_rfl
theorem zls : okFun Go.Proofs.Tryz.prog Go.Proofs.Tryz.f25 a_26 = true := by kernel_rfl
theorem zq5 : okFun Go.Proofs.Tryz.prog Go.Proofs.Tryz.f26 a_131 = true := by kernel_rfl
theorem zou : okFun Go.Proofs.Tryz.prog Go.Proofs.Tryz.f27 a_129 = true := by kernel_rfl
theorem ztg : okFun Go.Proofs.Tryz.prog Go.Proofs.Tryz.f28 a_207 = true := by kernel_rfl
theorem zve : okFun Go.Proofs.Tryz.prog Go.Proofs.Tryz.f29 a_195 = true := by kernel_rfl
theorem znp : okFun Go.Proofs.Tryz.prog Go.Proofs.Tryz.f30 a_200 = true := by kernel_rfl
theorem zs8 : okFun Go.Proofs.Tryz.prog Go.Proofs.Tryz.f31 a_183 = true := by kernel_rfl
theorem zkc : okFun Go.Proofs.Tryz.prog Go.Proofs.Tryz.f32 a_221 = true := by kernel_rfl
theorem zjc : okFun Go.Proofs.Tryz.prog Go.Proofs.Tryz.f33 a_220 = true := by kernel_rfl
theorem zkd : okFun Go.Proofs.Tryz.prog Go.Proofs.Tryz.f34 a_223 = true := by kernel_rfl
theorem zos : okFun Go.Proofs.Tryz.prog Go.Proofs.Tryz.f35 a_113 = true := by kernel_rfl
theorem zmj : okFun Go.Proofs.Tryz.prog Go.Proofs.Tryz.f36 a_106 = true := by kernel_rfl
theorem zjd : okFun Go.Proofs.Tryz.prog Go.Proofs.Tryz.f37 a_228 = true := by kernel_rfl
theorem zmf : okFun Go.Proofs.Tryz.prog Go.Proofs.Tryz.f38 a_93 = true := by kernel_rfl
theorem zj5 : okFun Go.Proofs.Tryz.prog Go.Proofs.Tryz.f39 a_121 = true := by kernel_rfl
theorem zmo : okFun Go.Proofs.Tryz.prog Go.Proofs.Tryz.f40 a_126 = true := by kernel_rfl
theorem zq4 : okFun Go.Proofs.Tryz.prog Go.Proofs.Tryz.f41 a_99 = true := by kernel_rfl
theorem znj : okFun Go.Proofs.Tryz.prog Go.Proofs.Tryz.f42 a_95 = true := by kernel_rfl
theorem zsy : okFun Go.Proofs.Tryz.prog Go.Proofs.Tryz.f43 a_133 = true := by kernel_rfl
theorem zor : okFun Go.Proofs.Tryz.prog Go.Proofs.Tryz.f44 a_105 = true := by kernel_rfl
theorem zu1 : okFun Go.Proofs.Tryz.prog Go.Proofs.Tryz.f45 a_134 = true := by kernel_rfl
theorem zj9 : okFun Go.Proofs.Tryz.prog Go.Proofs.Tryz.f47 a_140 = true := by kernel_rfl
theorem zpw : okFun Go.Proofs.Tryz.prog Go.Proofs.Tryz.f48 a_132 = true := by kernel_rfl
theorem zot : okFun Go.Proofs.Tryz.prog Go.Proofs.Tryz.f49 a_57 = true := by kernel_rfl
theorem zja : okFun Go.Proofs.Tryz.prog Go.Proofs.Tryz.f50 a_136 = true := by kernel_rfl
theorem zj6 : okFun Go.Proofs.Tryz.prog Go.Proofs.Tryz.f51 a_123 = true := by kernel_rfl
theorem zoq : okFun Go.Proofs.Tryz.prog Go.Proofs.Tryz.f52 a_101 = true := by kernel_rfl
theorem zxp : okFun Go.Proofs.Tryz.prog Go.Proofs.Tryz.f53 a_157 = true := by kernel_rfl
theorem zrh : okFun Go.Proofs.Tryz.prog Go.Proofs.Tryz.f54 a_192 = true := by kernel_rfl
theorem ztc : okFun Go.Proofs.Tryz.prog Go.Proofs.Tryz.f55 a_191 = true := by kernel_rfl
theorem zrd : okFun Go.Proofs.Tryz.prog Go.Proofs.Tryz.f56 a_181 = true := by kernel_rfl
theorem zp0 : okFun Go.Proofs.Tryz.prog Go.Proofs.Tryz.f57 a_180 = true := by kernel_rfl
theorem zrf : okFun Go.Proofs.Tryz.prog Go.Proofs.Tryz.f58 a_186 = true := by kernel_rfl
theorem zox : okFun Go.Proofs.Tryz.prog Go.Proofs.Tryz.f59 a_182 = true := by kernel_rfl
theorem zrj : okFun Go.Proofs.Tryz.prog Go.Proofs.Tryz.f60 a_197 = true := by kernel_rfl
theorem ztd : okFun Go.Proofs.Tryz.prog Go.Proofs.Tryz.f61 a_194 = true := by kernel_rfl
theorem zre : okFun Go.Proofs.Tryz.prog Go.Proofs.Tryz.f62 a_185 = true := by kernel_rfl
theorem zif : okFun Go.Proofs.Tryz.prog Go.Proofs.Tryz.f63 a_125 = true := by kernel_rfl
theorem zmk : okFun Go.Proofs.Tryz.prog Go.Proofs.Tryz.f64 a_114 = true := by kernel_rfl
theorem zpt : okFun Go.Proofs.Tryz.prog Go.Proofs.Tryz.f65 a_110 = true := by kernel_rfl
theorem zrn : okFun Go.Proofs.Tryz.prog Go.Proofs.Tryz.f66 a_212 = true := by kernel_rfl
theorem zi8 : okFun Go.Proofs.Tryz.prog Go.Proofs.Tryz.f67 a_120 = true := by kernel_rfl
theorem zmi : okFun Go.Proofs.Tryz.prog Go.Proofs.Tryz.f68 a_103 = true := by kernel_rfl
theorem zml : okFun Go.Proofs.Tryz.prog Go.Proofs.Tryz.f69 a_115 = true := by kernel_rfl
theorem zmm : okFun Go.Proofs.Tryz.prog Go.Proofs.Tryz.f70 a_116 = true := by kernel_rfl
theorem zpv : okFun Go.Proofs.Tryz.prog Go.Proofs.Tryz.f71 a_128 = true := by kernel_rfl
theorem zie : okFun Go.Proofs.Tryz.prog Go.Proofs.Tryz.f72 a_122 = true := by kernel_rfl
theorem zh7 : okFun Go.Proofs.Tryz.prog Go.Proofs.Tryz.f73 a_124 = true := by kernel_rfl
theorem zkv : okFun Go.Proofs.Tryz.prog Go.Proofs.Tryz.f74 a_107 = true := by kernel_rfl
theorem zoo : okFun Go.Proofs.Tryz.prog Go.Proofs.Tryz.f75 a_97 = true := by kernel_rfl
theorem zkw : okFun Go.Proofs.Tryz.prog Go.Proofs.Tryz.f76 a_108 = true := by kernel_rfl
theorem zkx : okFun Go.Proofs.Tryz.prog Go.Proofs.Tryz.f77 a_109 = true := by kernel_rfl
theorem zi7 : okFun Go.Proofs.Tryz.prog Go.Proofs.Tryz.f78 a_119 = true := by kernel_rfl
theorem zkz : okFun Go.Proofs.Tryz.prog Go.Proofs.Tryz.f79 a_225 = true := by kernel_rfl
theorem znm : okFun Go.Proofs.Tryz.prog Go.Proofs.Tryz.f80 a_112 = true := by kernel_rfl
theorem zk1 : okFun Go.Proofs.Tryz.prog Go.Proofs.Tryz.f81 a_232 = true := by kernel_rfl
theorem ztj : okFun Go.Proofs.Tryz.prog Go.Proofs.Tryz.f82 a_243 = true := by kernel_rfl
theorem ztm : okFun Go.Proofs.Tryz.prog Go.Proofs.Tryz.f83 a_246 = true := by kernel_rfl
theorem zop : okFun Go.Proofs.Tryz.prog Go.Proofs.Tryz.f84 a_100 = true := by kernel_rfl
theorem zpu : okFun Go.Proofs.Tryz.prog Go.Proofs.Tryz.f85 a_127 = true := by kernel_rfl
theorem zlr : okFun Go.Proofs.Tryz.prog Go.Proofs.Tryz.f86 a_96 = true := by kernel_rfl
theorem zj4 : okFun Go.Proofs.Tryz.prog Go.Proofs.Tryz.f87 a_118 = true := by kernel_rfl
theorem zgh : okFun Go.Proofs.Tryz.prog Go.Proofs.Tryz.f88 a_217 = true := by kernel_rfl
theorem zpx : okFun Go.Proofs.Tryz.prog Go.Proofs.Tryz.f89 a_143 = true := by kernel_rfl
theorem zsz : okFun Go.Proofs.Tryz.prog Go.Proofs.Tryz.f90 a_146 = true := by kernel_rfl
theorem zi9 : okFun Go.Proofs.Tryz.prog Go.Proofs.Tryz.f91 a_135 = true := by kernel_rfl
theorem zs4 : okFun Go.Proofs.Tryz.prog Go.Proofs.Tryz.f92 a_158 = true := by kernel_rfl
theorem zxq : okFun Go.Proofs.Tryz.prog Go.Proofs.Tryz.f93 a_160 = true := by kernel_rfl
theorem zvd : okFun Go.Proofs.Tryz.prog Go.Proofs.Tryz.f94 a_187 = true := by kernel_rfl
theorem zrk : okFun Go.Proofs.Tryz.prog Go.Proofs.Tryz.f95 a_202 = true := by kernel_rfl
theorem zrg : okFun Go.Proofs.Tryz.prog Go.Proofs.Tryz.f96 a_190 = true := by kernel_rfl
theorem zrm : okFun Go.Proofs.Tryz.prog Go.Proofs.Tryz.f97 a_205 = true := by kernel_rfl
theorem zp2 : okFun Go.Proofs.Tryz.prog Go.Proofs.Tryz.f98 a_206 = true := by kernel_rfl
theorem zth : okFun Go.Proofs.Tryz.prog Go.Proofs.Tryz.f99 a_208 = true := by kernel_rfl
theorem zri : okFun Go.Proofs.Tryz.prog Go.Proofs.Tryz.f100 a_193 = true := by kernel_rfl
theorem zrl : okFun Go.Proofs.Tryz.prog Go.Proofs.Tryz.f101 a_204 = true := by kernel_rfl
theorem zva : okFun Go.Proofs.Tryz.prog Go.Proofs.Tryz.f102 a_169 = true := by kernel_rfl
theorem zp1 : okFun Go.Proofs.Tryz.prog Go.Proofs.Tryz.f103 a_199 = true := by kernel_rfl
theorem zoy : okFun Go.Proofs.Tryz.prog Go.Proofs.Tryz.f104 a_201 = true := by kernel_rfl
theorem zrc : okFun Go.Proofs.Tryz.prog Go.Proofs.Tryz.f105 a_178 = true := by kernel_rfl
theorem znl : okFun Go.Proofs.Tryz.prog Go.Proofs.Tryz.f106 a_111 = true := by kernel_rfl
theorem zmn : okFun Go.Proofs.Tryz.prog Go.Proofs.Tryz.f107 a_117 = true := by kernel_rfl
theorem zvg : okFun Go.Proofs.Tryz.prog Go.Proofs.Tryz.f108 a_214 = true := by kernel_rfl
theorem zo0 : okFun Go.Proofs.Tryz.prog Go.Proofs.Tryz.f109 a_213 = true := by kernel_rfl
theorem zk0 : okFun Go.Proofs.Tryz.prog Go.Proofs.Tryz.f110 a_226 = true := by kernel_rfl
theorem zgs : okFun Go.Proofs.Tryz.prog Go.Proofs.Tryz.f111 a_236 = true := by kernel_rfl
theorem zku : okFun Go.Proofs.Tryz.prog Go.Proofs.Tryz.f112 a_104 = true := by kernel_rfl
theorem zlq : okFun Go.Proofs.Tryz.prog Go.Proofs.Tryz.f113 a_90 = true := by kernel_rfl
theorem zmh : okFun Go.Proofs.Tryz.prog Go.Proofs.Tryz.f114 a_98 = true := by kernel_rfl
theorem zit : okFun Go.Proofs.Tryz.prog Go.Proofs.Tryz.f115 a_227 = true := by kernel_rfl
theorem zke : okFun Go.Proofs.Tryz.prog Go.Proofs.Tryz.f116 a_224 = true := by kernel_rfl
theorem zp4 : okFun Go.Proofs.Tryz.prog Go.Proofs.Tryz.f117 a_245 = true := by kernel_rfl
theorem zkb : okFun Go.Proofs.Tryz.prog Go.Proofs.Tryz.f118 a_219 = true := by kernel_rfl
theorem znn : okFun Go.Proofs.Tryz.prog Go.Proofs.Tryz.f119 a_130 = true := by kernel_rfl
theorem zf6 : okFun Go.Proofs.Tryz.prog Go.Proofs.Tryz.f120 a_218 = true := by kernel_rfl
theorem zh9 : okFun Go.Proofs.Tryz.prog Go.Proofs.Tryz.f121 a_148 = true := by kernel_rfl
theorem zjb : okFun Go.Proofs.Tryz.prog Go.Proofs.Tryz.f122 a_139 = true := by kernel_rfl
theorem zs5 : okFun Go.Proofs.Tryz.prog Go.Proofs.Tryz.f123 a_159 = true := by kernel_rfl
theorem zs1 : okFun Go.Proofs.Tryz.prog Go.Proofs.Tryz.f124 a_150 = true := by kernel_rfl
theorem zs2 : okFun Go.Proofs.Tryz.prog Go.Proofs.Tryz.f125 a_152 = true := by kernel_rfl
theorem zu6 : okFun Go.Proofs.Tryz.prog Go.Proofs.Tryz.f126 a_161 = true := by kernel_rfl
theorem zxo : okFun Go.Proofs.Tryz.prog Go.Proofs.Tryz.f127 a_149 = true := by kernel_rfl
theorem zu5 : okFun Go.Proofs.Tryz.prog Go.Proofs.Tryz.f128 a_156 = true := by kernel_rfl
theorem zq9 : okFun Go.Proofs.Tryz.prog Go.Proofs.Tryz.f129 a_162 = true := by kernel_rfl
theorem zzm : okFun Go.Proofs.Tryz.prog Go.Proofs.Tryz.f130 a_171 = true := by kernel_rfl
theorem zxt : okFun Go.Proofs.Tryz.prog Go.Proofs.Tryz.f131 a_170 = true := by kernel_rfl
theorem zvb : okFun Go.Proofs.Tryz.prog Go.Proofs.Tryz.f132 a_174 = true := by kernel_rfl
theorem zs7 : okFun Go.Proofs.Tryz.prog Go.Proofs.Tryz.f133 a_172 = true := by kernel_rfl
theorem zra : okFun Go.Proofs.Tryz.prog Go.Proofs.Tryz.f134 a_173 = true := by kernel_rfl
theorem zs9 : okFun Go.Proofs.Tryz.prog Go.Proofs.Tryz.f135 a_184 = true := by kernel_rfl
theorem zvf : okFun Go.Proofs.Tryz.prog Go.Proofs.Tryz.f136 a_209 = true := by kernel_rfl
theorem zvh : okFun Go.Proofs.Tryz.prog Go.Proofs.Tryz.f137 a_215 = true := by kernel_rfl
theorem zg6 : okFun Go.Proofs.Tryz.prog Go.Proofs.Tryz.f138 a_239 = true := by kernel_rfl
theorem zni : okFun Go.Proofs.Tryz.prog Go.Proofs.Tryz.f139 a_91 = true := by kernel_rfl
theorem ziu : okFun Go.Proofs.Tryz.prog Go.Proofs.Tryz.f140 a_235 = true := by kernel_rfl
theorem zp6 : okFun Go.Proofs.Tryz.prog Go.Proofs.Tryz.f141 a_248 = true := by kernel_rfl
theorem zky : okFun Go.Proofs.Tryz.prog Go.Proofs.Tryz.f142 a_222 = true := by kernel_rfl
theorem zj8 : okFun Go.Proofs.Tryz.prog Go.Proofs.Tryz.f144 a_138 = true := by kernel_rfl
theorem zu4 : okFun Go.Proofs.Tryz.prog Go.Proofs.Tryz.f145 a_153 = true := by kernel_rfl
theorem zrb : okFun Go.Proofs.Tryz.prog Go.Proofs.Tryz.f146 a_175 = true := by kernel_rfl
theorem zxr : okFun Go.Proofs.Tryz.prog Go.Proofs.Tryz.f147 a_166 = true := by kernel_rfl
theorem zvc : okFun Go.Proofs.Tryz.prog Go.Proofs.Tryz.f148 a_176 = true := by kernel_rfl
theorem zu8 : okFun Go.Proofs.Tryz.prog Go.Proofs.Tryz.f149 a_165 = true := by kernel_rfl
theorem zta : okFun Go.Proofs.Tryz.prog Go.Proofs.Tryz.f150 a_188 = true := by kernel_rfl
theorem ztb : okFun Go.Proofs.Tryz.prog Go.Proofs.Tryz.f151 a_189 = true := by kernel_rfl
theorem zpz : okFun Go.Proofs.Tryz.prog Go.Proofs.Tryz.f152 a_179 = true := by kernel_rfl
theorem zte : okFun Go.Proofs.Tryz.prog Go.Proofs.Tryz.f153 a_196 = true := by kernel_rfl
theorem zia : okFun Go.Proofs.Tryz.prog Go.Proofs.Tryz.f154 a_231 = true := by kernel_rfl
theorem zro : okFun Go.Proofs.Tryz.prog Go.Proofs.Tryz.f155 a_216 = true := by kernel_rfl
theorem zfg : okFun Go.Proofs.Tryz.prog Go.Proofs.Tryz.f156 a_237 = true := by kernel_rfl
theorem zgi : okFun Go.Proofs.Tryz.prog Go.Proofs.Tryz.f157 a_241 = true := by kernel_rfl
theorem zrp : okFun Go.Proofs.Tryz.prog Go.Proofs.Tryz.f158 a_244 = true := by kernel_rfl
theorem zhn : okFun Go.Proofs.Tryz.prog Go.Proofs.Tryz.f159 a_230 = true := by kernel_rfl
theorem zo1 : okFun Go.Proofs.Tryz.prog Go.Proofs.Tryz.f160 a_247 = true := by kernel_rfl
theorem zti : okFun Go.Proofs.Tryz.prog Go.Proofs.Tryz.f161 a_242 = true := by kernel_rfl
theorem zis : okFun Go.Proofs.Tryz.prog Go.Proofs.Tryz.f162 a_141 = true := by kernel_rfl
theorem zow : okFun Go.Proofs.Tryz.prog Go.Proofs.Tryz.f163 a_145 = true := by kernel_rfl
theorem zs3 : okFun Go.Proofs.Tryz.prog Go.Proofs.Tryz.f164 a_154 = true := by kernel_rfl
theorem zq8 : okFun Go.Proofs.Tryz.prog Go.Proofs.Tryz.f165 a_155 = true := by kernel_rfl
theorem zxs : okFun Go.Proofs.Tryz.prog Go.Proofs.Tryz.f166 a_167 = true := by kernel_rfl
theorem zu9 : okFun Go.Proofs.Tryz.prog Go.Proofs.Tryz.f167 a_168 = true := by kernel_rfl
theorem ztf : okFun Go.Proofs.Tryz.prog Go.Proofs.Tryz.f168 a_198 = true := by kernel_rfl
theorem zig : okFun Go.Proofs.Tryz.prog Go.Proofs.Tryz.f169 a_233 = true := by kernel_rfl
theorem zg5 : okFun Go.Proofs.Tryz.prog Go.Proofs.Tryz.f170 a_238 = true := by kernel_rfl
theorem znh : okFun Go.Proofs.Tryz.prog Go.Proofs.Tryz.f171 a_89 = true := by kernel_rfl
theorem zfl : okFun Go.Proofs.Tryz.prog Go.Proofs.Tryz.f172 a_229 = true := by kernel_rfl
theorem zh8 : okFun Go.Proofs.Tryz.prog Go.Proofs.Tryz.f173 a_142 = true := by kernel_rfl
theorem zoz : okFun Go.Proofs.Tryz.prog Go.Proofs.Tryz.f174 a_203 = true := by kernel_rfl
theorem zge : okFun Go.Proofs.Tryz.prog Go.Proofs.Tryz.f175 a_240 = true := by kernel_rfl
theorem zgd : okFun Go.Proofs.Tryz.prog Go.Proofs.Tryz.f177 a_234 = true := by kernel_rfl
end Go.Fu
namespace Go.Mx
open Go
theorem Evo.toShared {ι0 ι : Imm} {j0 j : Lay} {own0 own : Own} {w0 w : World} (hE : Evo ι0 j0 own0 w0 ι j own w (fun _ => True)) : Evo ι0 j0 own0 w0 ι j (shared own) w (fun _ => True) := by
  refine ⟨hE.os, hE.tape, hE.output, hE.size, hE.imm, hE.lay, fun b hb ht => ?_⟩
  have hn : own0 b = none := by
    cases h : own0 b with
    | none => rfl
    | some t => exact absurd trivial (ht t h)
  obtain ⟨k1, k2, k3⟩ := hE.block b hb ht
  refine ⟨k1, ?_, k3⟩
  unfold shared
  rw [k2, hn]
def ztu (ds : List D) (s0 s1 : Nat) (m : Option D) : Env := ((zb1 ds).put (some s0) ⟨false, m.getD .niliface⟩).put (some s1) ⟨false, m.getD .niliface⟩
def zlx (C : CallF) (n : Nat) (body : ACode) (nargs s0 s1 : Nat) (ds : List D) (m : Option D) (σ : Store) : Option (Option D × Store) :=
  ifB (ds.length == nargs) (match exec C n none body (ztu ds s0 s1 m) σ with
    | some (.normal, e, σ') => ifB e.defers.isEmpty (some (none, σ')) none
    | some (.ret, e, σ') => ifB e.defers.isEmpty (some (none, σ')) none
    | _ => none) none
theorem zzu [LoopKit] {P : Program} [K : KitOf P ‹LoopKit›] {κ : Ctx} {C : CallF} (hC : zef P κ C) {n : Nat} {f : FuncId} {fn : Func} {id : Nat} {o0 o1 : Oper} {rest : Code} {rest' : ACode} {nargs s0 s1 : Nat} (hf : P.funcs[f]? = some fn) (hname : (fn.name == "runtime.NumGoroutine") = false)
    (hb : fn.body = some (.seq (.region id #[o0, o1] false) rest)) (h0 : o0.op = .call { callee := .builtin .recover, args := #[], argTypes := #[] }) (g0 : o0.guard = none) (d0 : o0.dst = some s0)
    (h1 : o1.op = .assign (.tmp s0)) (g1 : o1.guard = none) (d1 : o1.dst = some s1) (l0 : s0 < fn.ntmps) (l1 : s1 < fn.ntmps) (hres : fn.results = #[]) (hN : nargs ≤ fn.ntmps) (hok : zcn P fn.ntmps false rest rest' = true)
    {ds : List D} {m m' : Option D} {σ σ' : Store} (h : zlx C n rest' nargs s0 s1 ds m σ = some (m', σ')) : zhq P f ∧ ∀ ι j own w vs u, zd2 own → Base κ own w → GSim ι j own σ w → RepL ι j ds vs → zda ι j m u →
      CallsD P f ⟨vs⟩ u w fun e u' w' => ∃ v ι' j' own', e = .returned v ∧ GSim ι' j' own' σ' w' ∧ Evo ι j own w ι' j' own' w' (fun _ => True) ∧ zd2 own' ∧ zda ι' j' m' (settle u') := by
  refine ⟨⟨fn, _, hf, hname, hb⟩, fun ι j own w vs u hS hB hG hr hm => ?_⟩
  unfold zlx at h
  obtain ⟨hlen, h⟩ := zas h
  have hlen : ds.length = nargs := by simpa using hlen
  cases hx : exec C n none rest' (ztu ds s0 s1 m) σ with
  | none => rw [hx] at h; cases h
  | some r =>
    rw [hx] at h
    obtain ⟨x, e1, σ1⟩ := r
    have hL := zsp (N := fn.ntmps) hG hr (by omega)
    -- what recover answers
    have go : ∀ (vv : Value) (c₀ : Frame) (cs cs' : List Frame) (u' : FrameMode), Rep ι j (m.getD .niliface) vv → cs' = { c₀ with mode := u' } :: cs → settle u' = .returning →
        rest.wpS P (bodyPostS P fn c₀ cs fun e u' w' => ∃ v ι' j' own', e = .returned v ∧ GSim ι' j' own' σ' w' ∧ Evo ι j own w ι' j' own' w' (fun _ => True) ∧ zd2 own' ∧ zda ι' j' m' (settle u'))
          (((({ tmps := (⟨vs⟩ : Array Value) ++ Array.replicate (fn.ntmps - vs.length) undef, defers := [] } : Go.Act).put (some s0) vv)).put (some s1) vv) cs' w := by
      rintro vv c₀ cs cs' u' hv rfl hset
      have hL1 := (hL.putC l0 (c := ⟨false, m.getD .niliface⟩) (x := vv) ⟨hv, fun h => by cases h⟩).putC l1 (c := ⟨false, m.getD .niliface⟩) (x := vv) ⟨hv, fun h => by cases h⟩
      refine wpS_of_wp (wpIn_wide.1 (zc2 (own0 := own) (w0 := w) hC hB n (ro := none) (rr := none) (rd := false) rfl (.inl rfl) rest' rest hok hx ⟨ι, j, own, _, hG, hL1, Evo.refl _ _ _ _ _⟩ ?_))
      have last : ∀ a1 w1, e1.defers = [] → σ1 = σ' → m' = none → St ι j own w fn.ntmps e1 σ1 a1 w1 → a1.defers = [] ∧ ∃ u'', ({ c₀ with mode := u' } :: cs : List Frame) = { c₀ with mode := u'' } :: cs ∧ ∃ v, (results fn a1.tmps).run P w1 = .ok v w1 ∧
          ∃ v' ι' j' own', (Ending.returned v) = .returned v' ∧ GSim ι' j' own' σ' w1 ∧ Evo ι j own w ι' j' own' w1 (fun _ => True) ∧ zd2 own' ∧ zda ι' j' m' (settle u'') := by
        rintro a1 w1 hd rfl rfl ⟨ι', j', own', lb', k1, k2, k3⟩
        have hdd := k2.defers
        rw [hd] at hdd
        simp only [zeg] at hdd
        refine ⟨hdd, u', rfl, .tuple #[], ?_, _, ι', j', shared own', rfl, k1.toShared, k3.toShared, zdi own', by simp only [zda]; exact hset⟩
        rw [zo5, hres]
        simp
      cases x with
      | normal =>
        simp only at h
        obtain ⟨hd, h⟩ := zas h
        cases h
        exact fun a1 w1 hs => last a1 w1 (by simpa using hd) rfl rfl hs
      | ret =>
        simp only at h
        obtain ⟨hd, h⟩ := zas h
        cases h
        exact fun a1 w1 hs => last a1 w1 (by simpa using hd) rfl rfl hs
      | exit id => cases h
      | panic d => cases h
      | goto l => cases h
    refine callsD_of_wpS hf hb fun c₀ cs hu => ?_
    apply wpS_seq
    apply wpS_region
    have hsz : (#[o0, o1] : Array Oper).size = 2 := rfl
    have hrange : List.range (#[o0, o1] : Array Oper).size = [0, 1] := rfl
    have hex0 : ∀ a : Go.Act, (execOp a.eval o0).run P w = .ok .recover w := fun a => by
      simp only [execOp, h0]
      rfl
    have w0' : ∀ t : Array Value, Region.wanted o0 (yielded #[o0, o1] t) = true := fun t => by simp [Region.wanted, g0]
    have w1' : ∀ t : Array Value, Region.wanted o1 (yielded #[o0, o1] t) = true := fun t => by simp [Region.wanted, g1]
    have hex1 : ∀ (a : Go.Act) (vv : Value), s0 < a.tmps.size → (execOp (a.put (some s0) vv).eval o1).run P w = .ok (.value vv) w := fun a vv hlt => by
      have : (a.put (some s0) vv).eval (.tmp s0) = vv := zfn hlt
      simp only [execOp, h1, this]
      rfl
    have hlt : s0 < ((⟨vs⟩ : Array Value) ++ Array.replicate (fn.ntmps - vs.length) undef).size := by
      have := hr.length
      simp
      omega
    rw [hrange]
    cases m with
    | none =>
      simp only [zda] at hm
      subst hm
      have hrd : recoverD (c₀ :: cs) = none := by simp [recoverD, hu]
      have hc0 : ({ c₀ with mode := .returning } : Frame) = c₀ := by rw [← hu]
      simp only [wpOpsS, List.getElem?_toArray, List.getElem?_cons_zero, List.getElem?_cons_succ, w0', if_true, hex0, hrd, w1']
      rw [d0, hex1 _ _ hlt]
      simp only [Oper.upon, d1, Exit.thenS]
      exact go .nilIface c₀ cs (c₀ :: cs) .returning (by simp [Rep]) (by rw [hc0]) rfl
    | some d =>
      obtain ⟨v, rfl, hv⟩ := hm
      have hrd : recoverD (c₀ :: cs) = some (v, { c₀ with mode := .panicking [{ v := v, recovered := true }] } :: cs) := by simp [recoverD, hu]
      simp only [wpOpsS, List.getElem?_toArray, List.getElem?_cons_zero, List.getElem?_cons_succ, w0', if_true, hex0, hrd, w1']
      rw [d0, hex1 _ _ hlt]
      simp only [Oper.upon, d1, Exit.thenS]
      exact go v c₀ cs _ _ hv rfl rfl
end Go.Mx
