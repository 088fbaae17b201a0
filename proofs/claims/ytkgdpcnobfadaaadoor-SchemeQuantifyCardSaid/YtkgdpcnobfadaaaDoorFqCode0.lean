/-
  The program's functions as the machine's code (printed by gen2.py).
-/
import Derived.Test.YtkgdpcnobfadaaaDoorFqIds
set_option linter.unusedSimpArgs false
set_option linter.unusedVariables false
namespace Go.Fu
open Go Go.Mx
def a_l13_SchemeQuantify_l0 : ACode :=
  (.seq
  (.seq
  (.region [
  ⟨(some 33), .mov (.tmp 12), none⟩,
  ⟨(some 34), .mov (.tmp 8), none⟩,
  ⟨(some 35), .len (.tmp 34), none⟩,
  ⟨(some 36), .bin .lss (.tmp 33) (.tmp 35), none⟩] none [33, 34, 35])
  (.cond (.tmp 36)
  .skip
  (.exit 2)))
  (.seq
  (.block 3
  (.region [
  ⟨(some 39), .mov (.tmp 11), none⟩,
  ⟨(some 40), .mov (.mv 39), none⟩,
  ⟨(some 41), .mov (.tmp 8), (some (40, true))⟩,
  ⟨(some 42), .mov (.tmp 12), (some (40, true))⟩,
  ⟨(some 43), .indexAddr 1 (.tmp 41) (.tmp 42), (some (40, true))⟩,
  ⟨(some 44), .load none false (.tmp 43), (some (40, true))⟩,
  ⟨(some 45), .mov (.tmp 10), (some (40, true))⟩,
  ⟨(some 46), .bin .neq (.tmp 44) (.tmp 45), (some (40, true))⟩,
  ⟨(some 47), .pick (.tmp 40) (.tmp 46) (.const (.bool false)), none⟩,
  ⟨(some 11), .mov (.mv 47), none⟩] none [36, 39, 40, 41, 42, 43, 44, 45, 46, 47]))
  (.region [
  ⟨(some 37), .mov (.tmp 12), none⟩,
  ⟨(some 38), .bin .add (.tmp 37) (.const (.int .i64 1)), none⟩,
  ⟨(some 12), .mov (.mv 38), none⟩] none [37, 38])))
def a_l13_SchemeQuantify_l1 : ACode :=
  (.seq
  (.seq
  (.region [
  ⟨(some 18), .mov (.tmp 9), none⟩,
  ⟨(some 19), .mov (.tmp 2), none⟩,
  ⟨(some 20), .len (.tmp 19), none⟩,
  ⟨(some 21), .bin .lss (.tmp 18) (.tmp 20), none⟩,
  ⟨(some 22), .mov (.mv 21), none⟩,
  ⟨(some 23), .mov (.tmp 9), (some (22, true))⟩,
  ⟨(some 24), .bin .lss (.tmp 23) (.const (.int .i64 5)), (some (22, true))⟩,
  ⟨(some 25), .pick (.tmp 22) (.tmp 24) (.const (.bool false)), none⟩] none [18, 19, 20, 21, 22, 23, 24])
  (.cond (.tmp 25)
  .skip
  (.exit 0)))
  (.seq
  (.block 1
  (.seq
  (.region [
  ⟨(some 28), .mov (.tmp 2), none⟩,
  ⟨(some 29), .mov (.tmp 9), none⟩,
  ⟨(some 30), .indexAddr 1 (.tmp 28) (.tmp 29), none⟩,
  ⟨(some 31), .load none false (.tmp 30), none⟩,
  ⟨(some 32), .call n_r01_Around [(.tmp 31), (.const (.int .i64 6))], none⟩,
  ⟨(some 10), .mov (.mv 32), none⟩] none [25, 28, 29, 30, 31, 32])
  (.seq
  (.region [
  ⟨(some 11), .mov (.const (.bool true)), none⟩] none [])
  (.seq
  (.seq
  (.region [
  ⟨(some 12), .mov (.const (.int .i64 0)), none⟩] none [])
  (.block 2
  (.loop a_l13_SchemeQuantify_l0)))
  (.seq
  (.region [
  ⟨(some 48), .mov (.tmp 11), none⟩] none [11, 12, 36])
  (.cond (.tmp 48)
  (.region [
  ⟨(some 49), .mov (.mv 8), none⟩,
  ⟨(some 50), .mov (.tmp 10), none⟩,
  ⟨(some 51), .buildSlice k_int [(.tmp 50)], none⟩,
  ⟨(some 52), .append k_int 8 (.mv 49) (.tmp 51), none⟩,
  ⟨(some 8), .mov (.mv 52), none⟩] none [10, 48, 49, 50, 51, 52])
  .skip))))))
  (.region [
  ⟨(some 26), .mov (.tmp 9), none⟩,
  ⟨(some 27), .bin .add (.tmp 26) (.const (.int .i64 1)), none⟩,
  ⟨(some 9), .mov (.mv 27), none⟩] none [10, 26, 27, 48])))
/-- fugue/fuguelaw13.SchemeQuantify -/
def a_l13_SchemeQuantify : AFun :=
  { nargs := 3, ntmps := 80, res := [.tmp 6], gc := false, body :=
  (.seq
  (.region [
  ⟨(some 6), .mov (.const (.bool false)), none⟩] none [6])
  (.seq
  (.region [
  ⟨(some 15), .mov (.tmp 0), none⟩,
  ⟨(some 16), .mov (.tmp 1), none⟩,
  ⟨(some 17), .call n_r13_Made [(.tmp 15), (.tmp 16), (.const (.int .i64 2))], none⟩,
  ⟨(some 7), .alloc [.nils, .nils, .nils, .int .i64 0, .int .i64 0, .str [], .nils], none⟩,
  ⟨none, .store 7 (.tmp 7) (.mv 17), none⟩] none [0, 1, 15, 16, 17])
  (.seq
  (.region [
  ⟨(some 8), .mov (.const (.nils)), none⟩] none [])
  (.seq
  (.seq
  (.region [
  ⟨(some 9), .mov (.const (.int .i64 0)), none⟩] none [])
  (.block 0
  (.loop a_l13_SchemeQuantify_l1)))
  (.seq
  (.region [
  ⟨(some 53), .mov (.tmp 8), none⟩,
  ⟨(some 54), .fieldAddr 2 none (.tmp 7), none⟩,
  ⟨(some 55), .load none false (.tmp 54), none⟩,
  ⟨(some 56), .fieldAddr 3 (some 4) (.tmp 7), none⟩,
  ⟨(some 57), .load (some 4) false (.tmp 56), none⟩,
  ⟨(some 58), .call n_scheme_Quantify [(.tmp 53), (.tmp 55), (.tmp 57)], none⟩,
  ⟨(some 13), .alloc [.nils, .nils, .nils, .int .i64 0, .int .i64 0, .str [], .nils], none⟩,
  ⟨none, .store 7 (.tmp 13) (.mv 58), none⟩] none [2, 9, 25, 53, 54, 55, 56, 57, 58])
  (.seq
  (.region [
  ⟨(some 59), .fieldAddr 3 (some 4) (.tmp 7), none⟩,
  ⟨(some 60), .load (some 4) false (.tmp 59), none⟩,
  ⟨(some 61), .call n_scheme_Mono [(.tmp 60)], none⟩,
  ⟨(some 14), .alloc [.nils, .nils, .nils, .int .i64 0, .int .i64 0, .str [], .nils], none⟩,
  ⟨none, .store 7 (.tmp 14) (.mv 61), none⟩] none [59, 60, 61])
  (.seq
  (.region [
  ⟨(some 62), .loadB 13 (some 7) (.tmp 13), none⟩,
  ⟨(some 63), .mov (.mv 8), none⟩,
  ⟨(some 64), .fieldAddr 2 none (.tmp 7), none⟩,
  ⟨(some 65), .loadB 7 none (.tmp 64), none⟩,
  ⟨(some 66), .fieldAddr 3 (some 4) (.tmp 7), none⟩,
  ⟨(some 67), .loadB 7 (some 4) (.tmp 66), none⟩,
  ⟨(some 68), .call n_r13_Quantify [(.tmp 63), (.tmp 65), (.tmp 67)], none⟩,
  ⟨(some 69), .call n_r13_Equal [(.tmp 62), (.tmp 68)], none⟩,
  ⟨(some 70), .mov (.mv 69), none⟩,
  ⟨(some 71), .loadB 14 (some 7) (.tmp 14), (some (70, true))⟩,
  ⟨(some 72), .fieldAddr 3 (some 4) (.tmp 7), (some (70, true))⟩,
  ⟨(some 73), .loadB 7 (some 4) (.tmp 72), (some (70, true))⟩,
  ⟨(some 74), .build [.nils, .nils, .nils, .int .i64 0, .int .i64 0, .str [], .nils] [(3, 4, (.tmp 73))], (some (70, true))⟩,
  ⟨(some 75), .call n_r13_Equal [(.tmp 71), (.tmp 74)], (some (70, true))⟩,
  ⟨(some 76), .pick (.tmp 70) (.tmp 75) (.const (.bool false)), none⟩,
  ⟨(some 77), .mov (.mv 76), none⟩,
  ⟨(some 78), .call n_l13_lives [], (some (77, true))⟩,
  ⟨(some 79), .pick (.tmp 77) (.tmp 78) (.const (.bool false)), none⟩,
  ⟨(some 6), .mov (.mv 79), none⟩] (some [0, 1, 2, 3, 4, 5, 6, 7, 8, 9, 10, 11, 12, 13, 14, 15, 16, 17, 18]) [7, 8, 13, 14, 62, 63, 64, 65, 66, 67, 68, 69, 70, 71, 72, 73, 74, 75, 76, 77, 78, 79])
  .ret))))))) }
def a_r13_Made_l0 : ACode :=
  (.seq
  (.seq
  (.region [
  ⟨(some 24), .mov (.tmp 9), none⟩,
  ⟨(some 25), .mov (.tmp 8), none⟩,
  ⟨(some 26), .bin .lss (.tmp 24) (.tmp 25), none⟩] none [24, 25])
  (.cond (.tmp 26)
  .skip
  (.exit 0)))
  (.seq
  (.block 1
  (.seq
  (.region [
  ⟨(some 29), .fieldAddr 0 none (.tmp 7), none⟩,
  ⟨(some 30), .loadL none true (.tmp 29), none⟩,
  ⟨(some 31), .buildSlice k_string [(.const (.str [97])), (.const (.str [98])), (.const (.str [99])), (.const (.str [120])), (.const (.str [102]))], none⟩,
  ⟨(some 32), .mov (.tmp 9), none⟩,
  ⟨(some 33), .mov (.tmp 2), none⟩,
  ⟨(some 34), .bin .quo (.tmp 33) (.const (.int .i64 18)), none⟩,
  ⟨(some 35), .call n_r01_Around [(.tmp 34), (.const (.int .i64 5))], none⟩,
  ⟨(some 36), .bin .add (.tmp 32) (.tmp 35), none⟩,
  ⟨(some 37), .bin .rem (.tmp 36) (.const (.int .i64 5)), none⟩,
  ⟨(some 38), .indexAddr 1 (.tmp 31) (.tmp 37), none⟩,
  ⟨(some 39), .loadE none (.tmp 38), none⟩,
  ⟨(some 40), .buildSlice k_string [(.tmp 39)], none⟩,
  ⟨(some 41), .append k_string 16 (.mv 30) (.tmp 40), none⟩,
  ⟨(some 42), .fieldAddr 0 none (.tmp 7), none⟩,
  ⟨none, .storeB 7 1 (.tmp 42) (.mv 41), none⟩] (some [0, 1, 2, 3, 4, 5, 6, 7, 8, 9, 10, 11, 12, 13, 14]) [26, 29, 30, 31, 32, 33, 34, 35, 36, 37, 38, 39, 40, 41, 42])
  (.seq
  (.region [
  ⟨(some 43), .mov (.tmp 2), none⟩,
  ⟨(some 44), .bin .quo (.tmp 43) (.const (.int .i64 90)), none⟩,
  ⟨(some 45), .call n_r01_Around [(.tmp 44), (.const (.int .i64 2))], none⟩,
  ⟨(some 46), .bin .eql (.tmp 45) (.const (.int .i64 1)), none⟩] none [43, 44, 45])
  (.cond (.tmp 46)
  (.region [
  ⟨(some 47), .fieldAddr 1 none (.tmp 7), none⟩,
  ⟨(some 48), .loadL none true (.tmp 47), none⟩,
  ⟨(some 49), .mov (.tmp 2), none⟩,
  ⟨(some 50), .mov (.tmp 9), none⟩,
  ⟨(some 51), .bin .add (.tmp 49) (.tmp 50), none⟩,
  ⟨(some 52), .mov (.tmp 9), none⟩,
  ⟨(some 53), .mov (.tmp 2), none⟩,
  ⟨(some 54), .bin .quo (.tmp 53) (.const (.int .i64 7)), none⟩,
  ⟨(some 55), .mov (.tmp 9), none⟩,
  ⟨(some 56), .mov (.tmp 2), none⟩,
  ⟨(some 57), .bin .mul (.tmp 55) (.tmp 56), none⟩,
  ⟨(some 58), .buildSlice k_int [(.tmp 51), (.tmp 52), (.tmp 54), (.tmp 57)], none⟩,
  ⟨(some 59), .call n_r03_Kind [(.tmp 58)], none⟩,
  ⟨(some 60), .buildSlice k_api_Kind [(.tmp 59)], none⟩,
  ⟨(some 61), .append k_api_Kind 24 (.mv 48) (.tmp 60), none⟩,
  ⟨(some 62), .fieldAddr 1 none (.tmp 7), none⟩,
  ⟨none, .storeB 7 1 (.tmp 62) (.mv 61), none⟩] (some [0, 1, 2, 3, 4, 5, 6, 7, 8, 9, 10, 11, 12, 13, 14, 15, 16]) [46, 47, 48, 49, 50, 51, 52, 53, 54, 55, 56, 57, 58, 59, 60, 61, 62])
  .skip))))
  (.region [
  ⟨(some 27), .mov (.tmp 9), none⟩,
  ⟨(some 28), .bin .add (.tmp 27) (.const (.int .i64 1)), none⟩,
  ⟨(some 9), .mov (.mv 28), none⟩] none [27, 28, 46])))
/-- fugue/fugueref13.Made -/
def a_r13_Made : AFun :=
  { nargs := 3, ntmps := 64, res := [.cell 6 (some 7)], gc := false, body :=
  (.seq
  (.region [
  ⟨(some 6), .alloc [.nils, .nils, .nils, .int .i64 0, .int .i64 0, .str [], .nils], none⟩] none [])
  (.seq
  (.region [
  ⟨(some 10), .mov (.tmp 0), none⟩,
  ⟨(some 11), .call n_r12_Type [(.tmp 10)], none⟩,
  ⟨(some 12), .mov (.tmp 1), none⟩,
  ⟨(some 13), .call n_r12_Preds [(.tmp 12), (.const (.int .i64 4))], none⟩,
  ⟨(some 14), .build [.nils, .nils, .nils, .int .i64 0, .int .i64 0, .str [], .nils] [(3, 4, (.tmp 11)), (2, 1, (.tmp 13))], none⟩,
  ⟨(some 7), .alloc [.nils, .nils, .nils, .int .i64 0, .int .i64 0, .str [], .nils], none⟩,
  ⟨none, .store 7 (.tmp 7) (.mv 14), none⟩] none [1, 10, 11, 12, 13, 14])
  (.seq
  (.seq
  (.region [
  ⟨(some 15), .mov (.tmp 2), none⟩,
  ⟨(some 16), .call n_r01_Around [(.tmp 15), (.const (.int .i64 3))], none⟩,
  ⟨(some 17), .bin .eql (.tmp 16) (.const (.int .i64 2)), none⟩] none [15, 16])
  (.cond (.tmp 17)
  (.region [
  ⟨(some 18), .mov (.tmp 0), none⟩,
  ⟨(some 19), .call n_r04_Plain [(.tmp 18)], none⟩,
  ⟨(some 20), .fieldAddr 3 (some 4) (.tmp 7), none⟩,
  ⟨none, .store 4 (.tmp 20) (.mv 19), none⟩] none [0, 17, 18, 19, 20])
  .skip))
  (.seq
  (.region [
  ⟨(some 21), .mov (.tmp 2), none⟩,
  ⟨(some 22), .bin .quo (.tmp 21) (.const (.int .i64 3)), none⟩,
  ⟨(some 23), .call n_r01_Around [(.tmp 22), (.const (.int .i64 6))], none⟩,
  ⟨(some 8), .mov (.mv 23), none⟩] none [0, 17, 21, 22, 23])
  (.seq
  (.seq
  (.region [
  ⟨(some 9), .mov (.const (.int .i64 0)), none⟩] none [])
  (.block 0
  (.loop a_r13_Made_l0)))
  (.seq
  (.region [
  ⟨(some 63), .load (some 7) true (.tmp 7), none⟩,
  ⟨none, .store 7 (.tmp 6) (.mv 63), none⟩] none [2, 7, 8, 9, 26, 63])
  .ret)))))) }
/-- fugue/fugueref01.Around -/
def a_r01_Around : AFun :=
  { nargs := 2, ntmps := 13, res := [.tmp 4], gc := false, body :=
  (.seq
  (.region [
  ⟨(some 4), .mov (.const (.int .i64 0)), none⟩] none [4])
  (.seq
  (.seq
  (.region [
  ⟨(some 5), .mov (.tmp 0), none⟩,
  ⟨(some 6), .bin .lss (.tmp 5) (.const (.int .i64 0)), none⟩] none [5])
  (.cond (.tmp 6)
  (.region [
  ⟨(some 7), .mov (.tmp 0), none⟩,
  ⟨(some 8), .bin .add (.tmp 7) (.const (.int .i64 1)), none⟩,
  ⟨(some 9), .un .neg (.tmp 8), none⟩,
  ⟨(some 0), .mov (.mv 9), none⟩] none [6, 7, 8, 9])
  .skip))
  (.seq
  (.region [
  ⟨(some 10), .mov (.mv 0), none⟩,
  ⟨(some 11), .mov (.mv 1), none⟩,
  ⟨(some 12), .bin .rem (.tmp 10) (.tmp 11), none⟩,
  ⟨(some 4), .mov (.mv 12), none⟩] none [0, 1, 6, 10, 11, 12])
  .ret))) }
def a_scheme_Quantify_l0 : ACode :=
  (.seq
  (.region [
  ⟨(some 16), .bin .lss (.tmp 15) (.tmp 14), none⟩] none [])
  (.seq
  (.cond (.tmp 16)
  .skip
  (.exit 0))
  (.seq
  (.block 1
  (.seq
  (.region [
  ⟨(some 17), .indexAddr 1 (.tmp 13) (.tmp 15), none⟩,
  ⟨(some 18), .load none false (.tmp 17), none⟩,
  ⟨(some 9), .mov (.mv 18), none⟩] none [16, 17, 18])
  (.region [
  ⟨(some 19), .fieldAddr 0 none (.tmp 7), none⟩,
  ⟨(some 20), .loadP none (.tmp 19), none⟩,
  ⟨(some 21), .mov (.tmp 9), none⟩,
  ⟨(some 22), .callW n_strconv_Itoa [(.tmp 21)], none⟩,
  ⟨(some 23), .bin .add (.const (.str [116])) (.tmp 22), none⟩,
  ⟨(some 24), .buildSlice k_string [(.tmp 23)], none⟩,
  ⟨(some 25), .appendA k_string 16 (.mv 20) (.tmp 24), none⟩,
  ⟨(some 26), .fieldAddr 0 none (.tmp 7), none⟩,
  ⟨none, .storeP 1 (.tmp 26) (.tmp 25), none⟩] (some [0, 1, 2, 3, 4, 5, 6, 7, 8]) [9, 19, 20, 21, 22, 23, 24, 25, 26])))
  (.region [
  ⟨(some 27), .bin .add (.tmp 15) (.const (.int .i64 1)), none⟩,
  ⟨(some 15), .mov (.mv 27), none⟩] none [27]))))
def a_scheme_Quantify_l1 : ACode :=
  (.seq
  (.region [
  ⟨(some 32), .bin .lss (.tmp 31) (.tmp 30), none⟩] none [])
  (.seq
  (.cond (.tmp 32)
  .skip
  (.exit 2))
  (.seq
  (.block 3
  (.seq
  (.region [
  ⟨(some 33), .indexAddr 5 (.tmp 29) (.tmp 31), none⟩,
  ⟨(some 34), .load (some 5) false (.tmp 33), none⟩,
  ⟨(some 12), .alloc [.str [], .int .i64 0, .int .i64 0, .str [], .nils], none⟩,
  ⟨none, .store 5 (.tmp 12) (.mv 34), none⟩] none [32, 33, 34])
  (.region [
  ⟨(some 35), .fieldAddr 2 none (.tmp 7), none⟩,
  ⟨(some 36), .loadP none (.tmp 35), none⟩,
  ⟨(some 37), .fieldAddr 0 none (.tmp 12), none⟩,
  ⟨(some 38), .loadB 12 none (.tmp 37), none⟩,
  ⟨(some 39), .mov (.tmp 10), none⟩,
  ⟨(some 40), .fieldAddr 1 (some 4) (.tmp 12), none⟩,
  ⟨(some 41), .loadB 12 (some 4) (.tmp 40), none⟩,
  ⟨(some 42), .callvW (.tmp 39) [(.tmp 41)], none⟩,
  ⟨(some 43), .build [.str [], .int .i64 0, .int .i64 0, .str [], .nils] [(0, 1, (.tmp 38)), (1, 4, (.tmp 42))], none⟩,
  ⟨(some 44), .buildSlice k_api_Pred [(.tmp 43)], none⟩,
  ⟨(some 45), .appendA k_api_Pred 72 (.mv 36) (.tmp 44), none⟩,
  ⟨(some 46), .fieldAddr 2 none (.tmp 7), none⟩,
  ⟨none, .storeP 1 (.tmp 46) (.tmp 45), none⟩] (some [0, 1, 2, 3, 4, 5, 6, 7, 8, 9, 10, 11, 12]) [12, 35, 36, 37, 38, 39, 40, 41, 42, 43, 44, 45, 46])))
  (.region [
  ⟨(some 47), .bin .add (.tmp 31) (.const (.int .i64 1)), none⟩,
  ⟨(some 31), .mov (.mv 47), none⟩] none [47]))))
/-- fugue/scheme.Quantify -/
def a_scheme_Quantify : AFun :=
  { nargs := 3, ntmps := 53, res := [.cell 6 (some 7)], gc := true, body :=
  (.seq
  (.region [
  ⟨(some 3), .gbox t_L_int (.tmp 0), none⟩,
  ⟨(some 5), .box (.tmp 2), none⟩,
  ⟨(some 6), .alloc [.nils, .nils, .nils, .int .i64 0, .int .i64 0, .str [], .nils], none⟩] none [0, 2])
  (.seq
  (.region [
  ⟨(some 7), .galloc t_api_Scheme [.nils, .nils, .nils, .int .i64 0, .int .i64 0, .str [], .nils], none⟩] none [])
  (.seq
  (.seq
  (.region [
  ⟨(some 13), .load none false (.tmp 3), none⟩,
  ⟨(some 14), .len (.tmp 13), none⟩,
  ⟨(some 15), .mov (.const (.int .i64 0)), none⟩] none [])
  (.block 0
  (.loop a_scheme_Quantify_l0)))
  (.frz [.obj 7] (.seq
  (.region [
  ⟨(some 28), .mkFunc (.func n_scheme_Quantify_1) [] [(.tmp 3), (.tmp 7)], none⟩,
  ⟨(some 10), .mov (.mv 28), none⟩] none [3, 13, 14, 15, 16, 28])
  (.seq
  (.seq
  (.region [
  ⟨(some 29), .mov (.tmp 1), none⟩,
  ⟨(some 30), .len (.tmp 29), none⟩,
  ⟨(some 31), .mov (.const (.int .i64 0)), none⟩] none [1])
  (.block 2
  (.loop a_scheme_Quantify_l1)))
  (.seq
  (.region [
  ⟨(some 48), .mov (.tmp 10), none⟩,
  ⟨(some 49), .load (some 4) false (.tmp 5), none⟩,
  ⟨(some 50), .callv (.tmp 48) [(.tmp 49)], none⟩,
  ⟨(some 51), .fieldAddr 3 (some 4) (.tmp 7), none⟩,
  ⟨none, .store 4 (.tmp 51) (.mv 50), none⟩] none [5, 10, 29, 30, 31, 32, 48, 49, 50, 51])
  (.frz [.obj 7] (.seq
  (.region [
  ⟨(some 52), .load (some 7) true (.tmp 7), none⟩,
  ⟨none, .store 7 (.tmp 6) (.mv 52), none⟩] none [7, 52])
  .ret))))))))) }
/-- fugue/scheme.Mono -/
def a_scheme_Mono : AFun :=
  { nargs := 1, ntmps := 6, res := [.cell 2 (some 7)], gc := false, body :=
  (.seq
  (.region [
  ⟨(some 1), .box (.tmp 0), none⟩,
  ⟨(some 2), .alloc [.nils, .nils, .nils, .int .i64 0, .int .i64 0, .str [], .nils], none⟩] none [0])
  (.seq
  (.region [
  ⟨(some 3), .load (some 4) false (.tmp 1), none⟩,
  ⟨(some 4), .call n_types_Subst [(.tmp 3), (.const (.nils)), (.const (.nils))], none⟩,
  ⟨(some 5), .build [.nils, .nils, .nils, .int .i64 0, .int .i64 0, .str [], .nils] [(3, 4, (.tmp 4))], none⟩,
  ⟨none, .store 7 (.tmp 2) (.mv 5), none⟩] none [1, 3, 4, 5])
  .ret)) }
def a_r13_Equal_l0 : ACode :=
  (.seq
  (.seq
  (.region [
  ⟨(some 37), .mov (.tmp 5), none⟩,
  ⟨(some 38), .fieldAddr 1 none (.tmp 2), none⟩,
  ⟨(some 39), .load none false (.tmp 38), none⟩,
  ⟨(some 40), .len (.tmp 39), none⟩,
  ⟨(some 41), .bin .lss (.tmp 37) (.tmp 40), none⟩] none [37, 38, 39, 40])
  (.cond (.tmp 41)
  .skip
  (.exit 0)))
  (.seq
  (.block 1
  (.seq
  (.region [
  ⟨(some 44), .fieldAddr 1 none (.tmp 2), none⟩,
  ⟨(some 45), .loadB 2 none (.tmp 44), none⟩,
  ⟨(some 46), .mov (.tmp 5), none⟩,
  ⟨(some 47), .indexAddr 1 (.tmp 45) (.tmp 46), none⟩,
  ⟨(some 48), .loadE (some 1) (.tmp 47), none⟩,
  ⟨(some 49), .fieldAddr 1 none (.tmp 3), none⟩,
  ⟨(some 50), .loadB 3 none (.tmp 49), none⟩,
  ⟨(some 51), .mov (.tmp 5), none⟩,
  ⟨(some 52), .indexAddr 1 (.tmp 50) (.tmp 51), none⟩,
  ⟨(some 53), .loadE (some 1) (.tmp 52), none⟩,
  ⟨(some 54), .call n_r03_Same [(.tmp 48), (.tmp 53)], none⟩,
  ⟨(some 55), .un .not (.tmp 54), none⟩] (some [0, 1, 2, 3, 4, 5, 6, 7, 8, 9, 10, 11]) [41, 44, 45, 46, 47, 48, 49, 50, 51, 52, 53, 54])
  (.cond (.tmp 55)
  (.seq
  (.region [
  ⟨(some 4), .mov (.const (.bool false)), none⟩] none [2, 3, 5, 55])
  .ret)
  .skip)))
  (.region [
  ⟨(some 42), .mov (.tmp 5), none⟩,
  ⟨(some 43), .bin .add (.tmp 42) (.const (.int .i64 1)), none⟩,
  ⟨(some 5), .mov (.mv 43), none⟩] none [42, 43, 55])))
/-- fugue/fugueref13.Equal -/
def a_r13_Equal : AFun :=
  { nargs := 2, ntmps := 56, res := [.tmp 4], gc := false, body :=
  (.seq
  (.region [
  ⟨(some 2), .box (.tmp 0), none⟩,
  ⟨(some 3), .box (.tmp 1), none⟩,
  ⟨(some 4), .mov (.const (.bool false)), none⟩] none [0, 1, 4])
  (.seq
  (.seq
  (.region [
  ⟨(some 6), .fieldAddr 0 none (.tmp 2), none⟩,
  ⟨(some 7), .load none false (.tmp 6), none⟩,
  ⟨(some 8), .fieldAddr 0 none (.tmp 3), none⟩,
  ⟨(some 9), .load none false (.tmp 8), none⟩,
  ⟨(some 10), .call n_r01_SameTexts [(.tmp 7), (.tmp 9)], none⟩,
  ⟨(some 11), .un .not (.tmp 10), none⟩,
  ⟨(some 12), .mov (.mv 11), none⟩,
  ⟨(some 13), .fieldAddr 1 none (.tmp 2), (some (12, false))⟩,
  ⟨(some 14), .load none false (.tmp 13), (some (12, false))⟩,
  ⟨(some 15), .len (.tmp 14), (some (12, false))⟩,
  ⟨(some 16), .fieldAddr 1 none (.tmp 3), (some (12, false))⟩,
  ⟨(some 17), .load none false (.tmp 16), (some (12, false))⟩,
  ⟨(some 18), .len (.tmp 17), (some (12, false))⟩,
  ⟨(some 19), .bin .neq (.tmp 15) (.tmp 18), (some (12, false))⟩,
  ⟨(some 20), .pick (.tmp 12) (.const (.bool true)) (.tmp 19), none⟩,
  ⟨(some 21), .mov (.mv 20), none⟩,
  ⟨(some 22), .fieldAddr 3 (some 4) (.tmp 2), (some (21, false))⟩,
  ⟨(some 23), .load (some 4) false (.tmp 22), (some (21, false))⟩,
  ⟨(some 24), .fieldAddr 3 (some 4) (.tmp 3), (some (21, false))⟩,
  ⟨(some 25), .load (some 4) false (.tmp 24), (some (21, false))⟩,
  ⟨(some 26), .call n_r04_Equal [(.tmp 23), (.tmp 25)], (some (21, false))⟩,
  ⟨(some 27), .un .not (.tmp 26), (some (21, false))⟩,
  ⟨(some 28), .pick (.tmp 21) (.const (.bool true)) (.tmp 27), none⟩,
  ⟨(some 29), .mov (.mv 28), none⟩,
  ⟨(some 30), .fieldAddr 2 none (.tmp 2), (some (29, false))⟩,
  ⟨(some 31), .load none false (.tmp 30), (some (29, false))⟩,
  ⟨(some 32), .fieldAddr 2 none (.tmp 3), (some (29, false))⟩,
  ⟨(some 33), .load none false (.tmp 32), (some (29, false))⟩,
  ⟨(some 34), .call n_r12_Same [(.tmp 31), (.tmp 33)], (some (29, false))⟩,
  ⟨(some 35), .un .not (.tmp 34), (some (29, false))⟩,
  ⟨(some 36), .pick (.tmp 29) (.const (.bool true)) (.tmp 35), none⟩] none [6, 7, 8, 9, 10, 11, 12, 13, 14, 15, 16, 17, 18, 19, 20, 21, 22, 23, 24, 25, 26, 27, 28, 29, 30, 31, 32, 33, 34, 35])
  (.cond (.tmp 36)
  (.seq
  (.region [
  ⟨(some 4), .mov (.const (.bool false)), none⟩] none [2, 3, 36])
  .ret)
  .skip))
  (.seq
  (.seq
  (.region [
  ⟨(some 5), .mov (.const (.int .i64 0)), none⟩] none [36])
  (.block 0
  (.loop a_r13_Equal_l0)))
  (.seq
  (.region [
  ⟨(some 4), .mov (.const (.bool true)), none⟩] none [2, 3, 5, 41])
  .ret)))) }
def a_r13_Quantify_l0 : ACode :=
  (.seq
  (.seq
  (.region [
  ⟨(some 14), .mov (.tmp 8), none⟩,
  ⟨(some 15), .mov (.tmp 0), none⟩,
  ⟨(some 16), .len (.tmp 15), none⟩,
  ⟨(some 17), .bin .lss (.tmp 14) (.tmp 16), none⟩] none [14, 15, 16])
  (.cond (.tmp 17)
  .skip
  (.exit 0)))
  (.seq
  (.block 1
  (.region [
  ⟨(some 20), .fieldAddr 0 none (.tmp 7), none⟩,
  ⟨(some 21), .loadL none true (.tmp 20), none⟩,
  ⟨(some 22), .mov (.tmp 0), none⟩,
  ⟨(some 23), .mov (.tmp 8), none⟩,
  ⟨(some 24), .indexAddr 1 (.tmp 22) (.tmp 23), none⟩,
  ⟨(some 25), .loadE none (.tmp 24), none⟩,
  ⟨(some 26), .call n_r01_Decimal [(.tmp 25)], none⟩,
  ⟨(some 27), .bin .add (.const (.str [116])) (.tmp 26), none⟩,
  ⟨(some 28), .buildSlice k_string [(.tmp 27)], none⟩,
  ⟨(some 29), .append k_string 16 (.mv 21) (.tmp 28), none⟩,
  ⟨(some 30), .fieldAddr 0 none (.tmp 7), none⟩,
  ⟨none, .storeB 7 1 (.tmp 30) (.mv 29), none⟩] (some [0, 1, 2, 3, 4, 5, 6, 7, 8, 9, 10, 11]) [17, 20, 21, 22, 23, 24, 25, 26, 27, 28, 29, 30]))
  (.region [
  ⟨(some 18), .mov (.tmp 8), none⟩,
  ⟨(some 19), .bin .add (.tmp 18) (.const (.int .i64 1)), none⟩,
  ⟨(some 8), .mov (.mv 19), none⟩] none [18, 19])))
def a_r13_Quantify_l1 : ACode :=
  (.seq
  (.seq
  (.region [
  ⟨(some 31), .mov (.tmp 9), none⟩,
  ⟨(some 32), .mov (.tmp 1), none⟩,
  ⟨(some 33), .len (.tmp 32), none⟩,
  ⟨(some 34), .bin .lss (.tmp 31) (.tmp 33), none⟩] none [31, 32, 33])
  (.cond (.tmp 34)
  .skip
  (.exit 2)))
  (.seq
  (.block 3
  (.region [
  ⟨(some 37), .fieldAddr 2 none (.tmp 7), none⟩,
  ⟨(some 38), .loadL none true (.tmp 37), none⟩,
  ⟨(some 39), .mov (.tmp 1), none⟩,
  ⟨(some 40), .mov (.tmp 9), none⟩,
  ⟨(some 41), .indexAddr 5 (.tmp 39) (.tmp 40), none⟩,
  ⟨(some 42), .fieldAddr 0 none (.tmp 41), none⟩,
  ⟨(some 43), .loadE none (.tmp 42), none⟩,
  ⟨(some 44), .mov (.tmp 1), none⟩,
  ⟨(some 45), .mov (.tmp 9), none⟩,
  ⟨(some 46), .indexAddr 5 (.tmp 44) (.tmp 45), none⟩,
  ⟨(some 47), .fieldAddr 1 (some 4) (.tmp 46), none⟩,
  ⟨(some 48), .loadE (some 4) (.tmp 47), none⟩,
  ⟨(some 49), .mov (.tmp 0), none⟩,
  ⟨(some 50), .call n_r13_variables [(.tmp 48), (.tmp 49)], none⟩,
  ⟨(some 51), .build [.str [], .int .i64 0, .int .i64 0, .str [], .nils] [(0, 1, (.tmp 43)), (1, 4, (.tmp 50))], none⟩,
  ⟨(some 52), .buildSlice k_api_Pred [(.tmp 51)], none⟩,
  ⟨(some 53), .append k_api_Pred 72 (.mv 38) (.tmp 52), none⟩,
  ⟨(some 54), .fieldAddr 2 none (.tmp 7), none⟩,
  ⟨none, .storeB 7 1 (.tmp 54) (.mv 53), none⟩] (some [0, 1, 2, 3, 4, 5, 6, 7, 8, 9, 10, 11, 12, 13, 14, 15, 16, 17, 18]) [34, 37, 38, 39, 40, 41, 42, 43, 44, 45, 46, 47, 48, 49, 50, 51, 52, 53, 54]))
  (.region [
  ⟨(some 35), .mov (.tmp 9), none⟩,
  ⟨(some 36), .bin .add (.tmp 35) (.const (.int .i64 1)), none⟩,
  ⟨(some 9), .mov (.mv 36), none⟩] none [35, 36])))
/-- fugue/fugueref13.Quantify -/
def a_r13_Quantify : AFun :=
  { nargs := 3, ntmps := 56, res := [.cell 6 (some 7)], gc := false, body :=
  (.seq
  (.region [
  ⟨(some 5), .box (.tmp 2), none⟩,
  ⟨(some 6), .alloc [.nils, .nils, .nils, .int .i64 0, .int .i64 0, .str [], .nils], none⟩] none [2])
  (.seq
  (.region [
  ⟨(some 10), .load (some 4) false (.tmp 5), none⟩,
  ⟨(some 11), .mov (.tmp 0), none⟩,
  ⟨(some 12), .call n_r13_variables [(.tmp 10), (.tmp 11)], none⟩,
  ⟨(some 13), .build [.nils, .nils, .nils, .int .i64 0, .int .i64 0, .str [], .nils] [(3, 4, (.tmp 12))], none⟩,
  ⟨(some 7), .alloc [.nils, .nils, .nils, .int .i64 0, .int .i64 0, .str [], .nils], none⟩,
  ⟨none, .store 7 (.tmp 7) (.mv 13), none⟩] none [5, 10, 11, 12, 13])
  (.seq
  (.seq
  (.region [
  ⟨(some 8), .mov (.const (.int .i64 0)), none⟩] none [])
  (.block 0
  (.loop a_r13_Quantify_l0)))
  (.seq
  (.seq
  (.region [
  ⟨(some 9), .mov (.const (.int .i64 0)), none⟩] none [8, 17])
  (.block 2
  (.loop a_r13_Quantify_l1)))
  (.seq
  (.region [
  ⟨(some 55), .load (some 7) true (.tmp 7), none⟩,
  ⟨none, .store 7 (.tmp 6) (.mv 55), none⟩] none [0, 1, 7, 9, 34, 55])
  .ret))))) }
/-- fugue/fuguelaw13.lives -/
def a_l13_lives : AFun :=
  { nargs := 0, ntmps := 25, res := [.tmp 0], gc := false, body :=
  (.seq
  (.region [
  ⟨(some 0), .mov (.const (.bool false)), none⟩] none [0])
  (.seq
  (.region [
  ⟨(some 2), .buildSlice k_string [(.const (.str [97])), (.const (.str [98]))], none⟩,
  ⟨(some 3), .call n_types_Var [(.const (.str [98]))], none⟩,
  ⟨(some 4), .build [.str [], .int .i64 0, .int .i64 0, .str [], .nils] [(0, 1, (.const (.str [79]))), (1, 4, (.tmp 3))], none⟩,
  ⟨(some 5), .call n_types_Var [(.const (.str [97]))], none⟩,
  ⟨(some 6), .build [.str [], .int .i64 0, .int .i64 0, .str [], .nils] [(0, 1, (.const (.str [69]))), (1, 4, (.tmp 5))], none⟩,
  ⟨(some 7), .buildSlice k_api_Pred [(.tmp 4), (.tmp 6)], none⟩,
  ⟨(some 8), .call n_types_Con [(.const (.str [76]))], none⟩,
  ⟨(some 9), .call n_types_Var [(.const (.str [97]))], none⟩,
  ⟨(some 10), .buildSlice k_api_Type [(.tmp 9)], none⟩,
  ⟨(some 11), .call n_types_App [(.tmp 8), (.tmp 10)], none⟩,
  ⟨(some 12), .call n_types_Var [(.const (.str [98]))], none⟩,
  ⟨(some 13), .buildSlice k_api_Type [(.tmp 12)], none⟩,
  ⟨(some 14), .call n_types_Fun [(.tmp 11), (.tmp 13)], none⟩,
  ⟨(some 15), .build [.nils, .nils, .nils, .int .i64 0, .int .i64 0, .str [], .nils] [(0, 1, (.tmp 2)), (2, 1, (.tmp 7)), (3, 4, (.tmp 14))], none⟩,
  ⟨(some 1), .alloc [.nils, .nils, .nils, .int .i64 0, .int .i64 0, .str [], .nils], none⟩,
  ⟨none, .store 7 (.tmp 1) (.mv 15), none⟩] none [2, 3, 4, 5, 6, 7, 8, 9, 10, 11, 12, 13, 14, 15])
  (.seq
  (.region [
  ⟨(some 16), .load (some 7) false (.tmp 1), none⟩,
  ⟨(some 17), .call n_scheme_Print [(.tmp 16)], none⟩,
  ⟨(some 18), .bin .eql (.tmp 17) (.const (.str [40, 69, 32, 98, 44, 32, 79, 32, 97, 41, 32, 61, 62, 32, 97, 32, 45, 62, 32, 76, 32, 98])), none⟩,
  ⟨(some 19), .mov (.mv 18), none⟩,
  ⟨(some 20), .call n_types_Con [(.const (.str [73, 110, 116]))], (some (19, true))⟩,
  ⟨(some 21), .call n_scheme_Mono [(.tmp 20)], (some (19, true))⟩,
  ⟨(some 22), .call n_scheme_Print [(.tmp 21)], (some (19, true))⟩,
  ⟨(some 23), .bin .eql (.tmp 22) (.const (.str [73, 110, 116])), (some (19, true))⟩,
  ⟨(some 24), .pick (.tmp 19) (.tmp 23) (.const (.bool false)), none⟩,
  ⟨(some 0), .mov (.mv 24), none⟩] none [1, 16, 17, 18, 19, 20, 21, 22, 23, 24])
  .ret))) }
/-- fugue/fugueref12.Type -/
def a_r12_Type : AFun :=
  { nargs := 1, ntmps := 12, res := [.cell 2 (some 4)], gc := false, body :=
  (.seq
  (.region [
  ⟨(some 2), .alloc [.int .i64 0, .int .i64 0, .str [], .nils], none⟩] none [])
  (.seq
  (.region [
  ⟨(some 6), .mov (.tmp 0), none⟩,
  ⟨(some 7), .call n_r01_Ints [(.tmp 6), (.const (.int .i64 12))], none⟩,
  ⟨(some 8), .call n_r12_typ [(.tmp 7), (.const (.int .i64 0))], none⟩,
  ⟨(some 5), .mov (.mv 8), none⟩,
  ⟨(some 9), .extract (.tmp 5) 0, none⟩,
  ⟨(some 10), .extract (.tmp 5) 1, none⟩,
  ⟨(some 3), .alloc [.int .i64 0, .int .i64 0, .str [], .nils], none⟩,
  ⟨none, .store 4 (.tmp 3) (.mv 9), none⟩,
  ⟨(some 4), .mov (.mv 10), none⟩] none [0, 4, 5, 6, 7, 8, 9, 10])
  (.seq
  (.region [
  ⟨(some 11), .load (some 4) true (.tmp 3), none⟩,
  ⟨none, .store 4 (.tmp 2) (.mv 11), none⟩] none [3, 11])
  .ret))) }
def a_r12_Preds_l0 : ACode :=
  (.seq
  (.seq
  (.region [
  ⟨(some 17), .mov (.tmp 0), none⟩,
  ⟨(some 18), .len (.tmp 17), none⟩,
  ⟨(some 19), .bin .gtr (.tmp 18) (.const (.int .i64 0)), none⟩,
  ⟨(some 20), .mov (.mv 19), none⟩,
  ⟨(some 21), .mov (.tmp 7), (some (20, true))⟩,
  ⟨(some 22), .len (.tmp 21), (some (20, true))⟩,
  ⟨(some 23), .mov (.tmp 1), (some (20, true))⟩,
  ⟨(some 24), .bin .lss (.tmp 22) (.tmp 23), (some (20, true))⟩,
  ⟨(some 25), .pick (.tmp 20) (.tmp 24) (.const (.bool false)), none⟩] none [17, 18, 19, 20, 21, 22, 23, 24])
  (.cond (.tmp 25)
  .skip
  (.exit 0)))
  (.block 1
  (.seq
  (.region [
  ⟨(some 26), .mov (.tmp 5), none⟩,
  ⟨(some 27), .mov (.tmp 0), none⟩,
  ⟨(some 28), .call n_r12_pick [(.tmp 27), (.const (.int .i64 0))], none⟩,
  ⟨(some 29), .bin .rem (.tmp 28) (.const (.int .i64 5)), none⟩,
  ⟨(some 30), .indexAddr 1 (.tmp 26) (.tmp 29), none⟩,
  ⟨(some 31), .load none false (.tmp 30), none⟩,
  ⟨(some 8), .mov (.mv 31), none⟩] none [25, 26, 27, 28, 29, 30, 31])
  (.seq
  (.region [
  ⟨(some 33), .mov (.tmp 0), none⟩,
  ⟨(some 34), .slice 1 (.tmp 33) (some (.const (.int .i64 1))) none, none⟩,
  ⟨(some 35), .call n_r12_typ [(.tmp 34), (.const (.int .i64 1))], none⟩,
  ⟨(some 32), .mov (.mv 35), none⟩,
  ⟨(some 36), .extract (.tmp 32) 0, none⟩,
  ⟨(some 37), .extract (.tmp 32) 1, none⟩,
  ⟨(some 9), .alloc [.int .i64 0, .int .i64 0, .str [], .nils], none⟩,
  ⟨none, .store 4 (.tmp 9) (.mv 36), none⟩,
  ⟨(some 10), .mov (.mv 37), none⟩] none [0, 32, 33, 34, 35, 36, 37])
  (.seq
  (.region [
  ⟨(some 38), .mov (.tmp 10), none⟩,
  ⟨(some 0), .mov (.mv 38), none⟩] none [10, 38])
  (.region [
  ⟨(some 39), .mov (.mv 7), none⟩,
  ⟨(some 40), .mov (.tmp 8), none⟩,
  ⟨(some 41), .load (some 4) false (.tmp 9), none⟩,
  ⟨(some 42), .build [.str [], .int .i64 0, .int .i64 0, .str [], .nils] [(0, 1, (.tmp 40)), (1, 4, (.tmp 41))], none⟩,
  ⟨(some 43), .buildSlice k_api_Pred [(.tmp 42)], none⟩,
  ⟨(some 44), .append k_api_Pred 72 (.mv 39) (.tmp 43), none⟩,
  ⟨(some 7), .mov (.mv 44), none⟩] none [8, 9, 39, 40, 41, 42, 43, 44]))))))
/-- fugue/fugueref12.Preds -/
def a_r12_Preds : AFun :=
  { nargs := 2, ntmps := 46, res := [.tmp 4], gc := false, body :=
  (.seq
  (.region [
  ⟨(some 4), .mov (.const (.nils)), none⟩] none [4])
  (.seq
  (.region [
  ⟨(some 12), .call n_r11_Names [], none⟩,
  ⟨(some 11), .mov (.mv 12), none⟩,
  ⟨(some 13), .extract (.tmp 11) 0, none⟩,
  ⟨(some 14), .extract (.tmp 11) 1, none⟩,
  ⟨(some 5), .mov (.mv 13), none⟩,
  ⟨(some 6), .mov (.mv 14), none⟩] none [6, 11, 12, 13, 14])
  (.seq
  (.region [
  ⟨(some 15), .mov (.tmp 0), none⟩,
  ⟨(some 16), .call n_r01_Ints [(.tmp 15), (.const (.int .i64 30))], none⟩,
  ⟨(some 0), .mov (.mv 16), none⟩] none [15, 16])
  (.seq
  (.region [
  ⟨(some 7), .mov (.const (.nils)), none⟩] none [])
  (.seq
  (.block 0
  (.loop a_r12_Preds_l0))
  (.seq
  (.region [
  ⟨(some 45), .mov (.mv 7), none⟩,
  ⟨(some 4), .mov (.mv 45), none⟩] none [0, 1, 5, 7, 25, 45])
  .ret)))))) }
/-- fugue/fugueref04.Plain -/
def a_r04_Plain : AFun :=
  { nargs := 1, ntmps := 12, res := [.cell 2 (some 4)], gc := false, body :=
  (.seq
  (.region [
  ⟨(some 2), .alloc [.int .i64 0, .int .i64 0, .str [], .nils], none⟩] none [])
  (.seq
  (.region [
  ⟨(some 6), .mov (.tmp 0), none⟩,
  ⟨(some 7), .call n_r01_Ints [(.tmp 6), (.const (.int .i64 24))], none⟩,
  ⟨(some 8), .call n_r04_build [(.tmp 7), (.const (.int .i64 0)), (.const (.bool false))], none⟩,
  ⟨(some 5), .mov (.mv 8), none⟩,
  ⟨(some 9), .extract (.tmp 5) 0, none⟩,
  ⟨(some 10), .extract (.tmp 5) 1, none⟩,
  ⟨(some 3), .alloc [.int .i64 0, .int .i64 0, .str [], .nils], none⟩,
  ⟨none, .store 4 (.tmp 3) (.mv 9), none⟩,
  ⟨(some 4), .mov (.mv 10), none⟩] none [0, 4, 5, 6, 7, 8, 9, 10])
  (.seq
  (.region [
  ⟨(some 11), .load (some 4) true (.tmp 3), none⟩,
  ⟨none, .store 4 (.tmp 2) (.mv 11), none⟩] none [3, 11])
  .ret))) }
/-- fugue/fugueref03.Kind -/
def a_r03_Kind : AFun :=
  { nargs := 1, ntmps := 12, res := [.cell 2 (some 1)], gc := false, body :=
  (.seq
  (.region [
  ⟨(some 2), .alloc [.nils], none⟩] none [])
  (.seq
  (.region [
  ⟨(some 6), .mov (.tmp 0), none⟩,
  ⟨(some 7), .call n_r01_Ints [(.tmp 6), (.const (.int .i64 12))], none⟩,
  ⟨(some 8), .call n_r03_Made [(.tmp 7), (.const (.int .i64 0))], none⟩,
  ⟨(some 5), .mov (.mv 8), none⟩,
  ⟨(some 9), .extract (.tmp 5) 0, none⟩,
  ⟨(some 10), .extract (.tmp 5) 1, none⟩,
  ⟨(some 3), .alloc [.nils], none⟩,
  ⟨none, .store 1 (.tmp 3) (.mv 9), none⟩,
  ⟨(some 4), .mov (.mv 10), none⟩] none [0, 4, 5, 6, 7, 8, 9, 10])
  (.seq
  (.region [
  ⟨(some 11), .load (some 1) true (.tmp 3), none⟩,
  ⟨none, .store 1 (.tmp 2) (.mv 11), none⟩] none [3, 11])
  .ret))) }
/-- fugue/scheme.Quantify$1 -/
def a_scheme_Quantify_1 : AFun :=
  { nargs := 3, ntmps := 10, res := [.cell 4 (some 4)], gc := false, body :=
  (.seq
  (.region [
  ⟨(some 3), .box (.tmp 0), none⟩,
  ⟨(some 4), .alloc [.int .i64 0, .int .i64 0, .str [], .nils], none⟩] none [0])
  (.seq
  (.region [
  ⟨(some 5), .load (some 4) false (.tmp 3), none⟩,
  ⟨(some 6), .load none false (.tmp 1), none⟩,
  ⟨(some 7), .fieldAddr 0 none (.tmp 2), none⟩,
  ⟨(some 8), .load none false (.tmp 7), none⟩,
  ⟨(some 9), .call n_scheme_variables [(.tmp 5), (.tmp 6), (.tmp 8)], none⟩,
  ⟨none, .store 4 (.tmp 4) (.mv 9), none⟩] none [1, 2, 3, 5, 6, 7, 8, 9])
  .ret)) }
def a_scheme_variables_l0 : ACode :=
  (.seq
  (.region [
  ⟨(some 32), .bin .lss (.tmp 31) (.tmp 30), none⟩] none [])
  (.seq
  (.cond (.tmp 32)
  .skip
  (.exit 0))
  (.seq
  (.block 1
  (.seq
  (.region [
  ⟨(some 33), .mov (.tmp 31), none⟩,
  ⟨(some 34), .indexAddr 4 (.tmp 29) (.tmp 31), none⟩,
  ⟨(some 35), .load (some 4) false (.tmp 34), none⟩,
  ⟨(some 9), .alloc [.int .i64 0, .int .i64 0, .str [], .nils], none⟩,
  ⟨(some 8), .mov (.mv 33), none⟩,
  ⟨none, .store 4 (.tmp 9) (.mv 35), none⟩] none [32, 33, 34, 35])
  (.region [
  ⟨(some 36), .fieldAddr 3 none (.tmp 3), none⟩,
  ⟨(some 37), .loadB 3 none (.tmp 36), none⟩,
  ⟨(some 38), .mov (.tmp 8), none⟩,
  ⟨(some 39), .loadB 9 (some 4) (.tmp 9), none⟩,
  ⟨(some 40), .mov (.tmp 1), none⟩,
  ⟨(some 41), .mov (.tmp 2), none⟩,
  ⟨(some 42), .call n_scheme_variables [(.tmp 39), (.tmp 40), (.tmp 41)], none⟩,
  ⟨(some 43), .indexAddr 4 (.tmp 37) (.tmp 38), none⟩,
  ⟨none, .storeP 4 (.tmp 43) (.tmp 42), none⟩] (some [0, 1, 2, 3, 4, 5, 6, 7, 8]) [8, 9, 36, 37, 38, 39, 40, 41, 42, 43])))
  (.region [
  ⟨(some 44), .bin .add (.tmp 31) (.const (.int .i64 1)), none⟩,
  ⟨(some 31), .mov (.mv 44), none⟩] none [44]))))
/-- fugue/scheme.variables -/
def a_scheme_variables : AFun :=
  { nargs := 3, ntmps := 46, res := [.cell 6 (some 4)], gc := true, body :=
  (.seq
  (.region [
  ⟨(some 3), .box (.tmp 0), none⟩,
  ⟨(some 6), .alloc [.int .i64 0, .int .i64 0, .str [], .nils], none⟩] none [0])
  (.seq
  (.seq
  (.region [
  ⟨(some 10), .fieldAddr 0 none (.tmp 3), none⟩,
  ⟨(some 11), .load none false (.tmp 10), none⟩,
  ⟨(some 12), .bin .eql (.tmp 11) (.const (.int .i64 1)), none⟩] none [10, 11])
  (.cond (.tmp 12)
  (.seq
  (.region [
  ⟨(some 13), .mov (.tmp 1), none⟩,
  ⟨(some 14), .fieldAddr 1 none (.tmp 3), none⟩,
  ⟨(some 15), .load none false (.tmp 14), none⟩,
  ⟨(some 16), .call n_slices_Index_int [(.tmp 13), (.tmp 15)], none⟩,
  ⟨(some 7), .mov (.mv 16), none⟩] none [12, 13, 14, 15, 16])
  (.seq
  (.region [
  ⟨(some 17), .mov (.tmp 7), none⟩,
  ⟨(some 18), .bin .geq (.tmp 17) (.const (.int .i64 0)), none⟩] none [17])
  (.cond (.tmp 18)
  (.seq
  (.region [
  ⟨(some 19), .mov (.mv 2), none⟩,
  ⟨(some 20), .mov (.mv 7), none⟩,
  ⟨(some 21), .indexAddr 1 (.tmp 19) (.tmp 20), none⟩,
  ⟨(some 22), .load none false (.tmp 21), none⟩,
  ⟨(some 23), .call n_types_Var [(.tmp 22)], none⟩,
  ⟨none, .store 4 (.tmp 6) (.mv 23), none⟩] none [1, 2, 3, 7, 18, 19, 20, 21, 22, 23])
  .ret)
  .skip)))
  .skip))
  (.seq
  (.region [
  ⟨(some 24), .fieldAddr 3 none (.tmp 3), none⟩,
  ⟨(some 25), .load none false (.tmp 24), none⟩,
  ⟨(some 26), .call n_slices_Clone_Type [(.tmp 25)], none⟩,
  ⟨(some 27), .fieldAddr 3 none (.tmp 3), none⟩,
  ⟨none, .store 1 (.tmp 27) (.mv 26), none⟩] none [7, 12, 18, 24, 25, 26, 27])
  (.seq
  (.seq
  (.region [
  ⟨(some 28), .fieldAddr 3 none (.tmp 3), none⟩,
  ⟨(some 29), .load none false (.tmp 28), none⟩,
  ⟨(some 30), .len (.tmp 29), none⟩,
  ⟨(some 31), .mov (.const (.int .i64 0)), none⟩] none [28])
  (.block 0
  (.loop a_scheme_variables_l0)))
  (.frz [.box 3] (.seq
  (.region [
  ⟨(some 45), .load (some 4) true (.tmp 3), none⟩,
  ⟨none, .store 4 (.tmp 6) (.mv 45), none⟩] none [1, 2, 3, 29, 30, 31, 32, 45])
  .ret)))))) }
/-- fugue/types.Subst -/
def a_types_Subst : AFun :=
  { nargs := 3, ntmps := 48, res := [.cell 6 (some 4)], gc := false, body :=
  (.seq
  (.region [
  ⟨(some 3), .box (.tmp 0), none⟩,
  ⟨(some 6), .alloc [.int .i64 0, .int .i64 0, .str [], .nils], none⟩] none [0])
  (.seq
  (.seq
  (.region [
  ⟨(some 8), .fieldAddr 0 none (.tmp 3), none⟩,
  ⟨(some 9), .load none false (.tmp 8), none⟩] none [8])
  (.block 0
  (.seq
  (.region [
  ⟨(some 11), .bin .eql (.tmp 9) (.const (.int .i64 2)), none⟩,
  ⟨(some 10), .mov (.mv 11), none⟩] none [11])
  (.cond (.tmp 10)
  (.seq
  (.region [
  ⟨(some 12), .mov (.tmp 1), none⟩,
  ⟨(some 13), .fieldAddr 2 none (.tmp 3), none⟩,
  ⟨(some 14), .load none false (.tmp 13), none⟩,
  ⟨(some 15), .call n_slices_Index_string [(.tmp 12), (.tmp 14)], none⟩,
  ⟨(some 7), .mov (.mv 15), none⟩] none [1, 9, 10, 12, 13, 14, 15])
  (.seq
  (.region [
  ⟨(some 16), .mov (.tmp 7), none⟩,
  ⟨(some 17), .bin .geq (.tmp 16) (.const (.int .i64 0)), none⟩] none [16])
  (.cond (.tmp 17)
  (.seq
  (.region [
  ⟨(some 18), .mov (.mv 2), none⟩,
  ⟨(some 19), .mov (.mv 7), none⟩,
  ⟨(some 20), .indexAddr 4 (.tmp 18) (.tmp 19), none⟩,
  ⟨(some 21), .load (some 4) false (.tmp 20), none⟩,
  ⟨(some 22), .call n_types_own [(.tmp 21)], none⟩,
  ⟨none, .store 4 (.tmp 6) (.mv 22), none⟩] none [2, 3, 7, 17, 18, 19, 20, 21, 22])
  .ret)
  .skip)))
  (.seq
  (.region [
  ⟨(some 24), .bin .eql (.tmp 9) (.const (.int .i64 4)), none⟩,
  ⟨(some 23), .mov (.mv 24), none⟩] none [10, 24])
  (.cond (.tmp 23)
  (.seq
  (.region [
  ⟨(some 25), .fieldAddr 3 none (.tmp 3), none⟩,
  ⟨(some 26), .loadB 3 none (.tmp 25), none⟩,
  ⟨(some 27), .indexAddr 4 (.tmp 26) (.const (.int .i64 0)), none⟩,
  ⟨(some 28), .loadE (some 4) (.tmp 27), none⟩,
  ⟨(some 29), .mov (.tmp 1), none⟩,
  ⟨(some 30), .mov (.tmp 2), none⟩,
  ⟨(some 32), .fieldAddr 3 none (.tmp 3), none⟩,
  ⟨(some 33), .loadB 3 none (.tmp 32), none⟩,
  ⟨(some 34), .indexAddr 4 (.tmp 33) (.const (.int .i64 1)), none⟩,
  ⟨(some 35), .loadE (some 4) (.tmp 34), none⟩,
  ⟨(some 36), .mov (.tmp 1), none⟩,
  ⟨(some 37), .mov (.tmp 2), none⟩,
  ⟨(some 31), .call n_types_Subst [(.tmp 28), (.tmp 29), (.tmp 30)], none⟩,
  ⟨(some 38), .call n_types_Subst [(.tmp 35), (.tmp 36), (.tmp 37)], none⟩,
  ⟨(some 39), .call n_types_apply [(.tmp 31), (.tmp 38)], none⟩,
  ⟨none, .storeB 6 4 (.tmp 6) (.mv 39), none⟩] (some [0, 1, 2, 3, 4, 5, 7, 8, 9, 10, 11, 12, 6, 13, 14, 15]) [1, 2, 3, 9, 23, 25, 26, 27, 28, 29, 30, 31, 32, 33, 34, 35, 36, 37, 38, 39])
  .ret)
  (.seq
  (.region [
  ⟨(some 41), .bin .eql (.tmp 9) (.const (.int .i64 5)), none⟩,
  ⟨(some 40), .mov (.mv 41), none⟩] none [9, 23, 41])
  (.cond (.tmp 40)
  (.seq
  (.region [
  ⟨(some 42), .load (some 4) false (.tmp 3), none⟩,
  ⟨(some 43), .mov (.mv 1), none⟩,
  ⟨(some 44), .mov (.mv 2), none⟩,
  ⟨(some 45), .call n_types_under [(.tmp 42), (.tmp 43), (.tmp 44)], none⟩,
  ⟨none, .store 4 (.tmp 6) (.mv 45), none⟩] none [1, 2, 3, 40, 42, 43, 44, 45])
  .ret)
  .skip))))))))
  (.seq
  (.region [
  ⟨(some 46), .load (some 4) false (.tmp 3), none⟩,
  ⟨(some 47), .call n_types_own [(.tmp 46)], none⟩,
  ⟨none, .store 4 (.tmp 6) (.mv 47), none⟩] none [1, 2, 3, 7, 17, 40, 46, 47])
  .ret))) }
def a_r01_SameTexts_l0 : ACode :=
  (.seq
  (.seq
  (.region [
  ⟨(some 11), .mov (.tmp 5), none⟩,
  ⟨(some 12), .mov (.tmp 0), none⟩,
  ⟨(some 13), .len (.tmp 12), none⟩,
  ⟨(some 14), .bin .lss (.tmp 11) (.tmp 13), none⟩] none [11, 12, 13])
  (.cond (.tmp 14)
  .skip
  (.exit 0)))
  (.seq
  (.block 1
  (.seq
  (.region [
  ⟨(some 17), .mov (.tmp 0), none⟩,
  ⟨(some 18), .mov (.tmp 5), none⟩,
  ⟨(some 19), .indexAddr 1 (.tmp 17) (.tmp 18), none⟩,
  ⟨(some 20), .loadE none (.tmp 19), none⟩,
  ⟨(some 21), .mov (.tmp 1), none⟩,
  ⟨(some 22), .mov (.tmp 5), none⟩,
  ⟨(some 23), .indexAddr 1 (.tmp 21) (.tmp 22), none⟩,
  ⟨(some 24), .loadE none (.tmp 23), none⟩,
  ⟨(some 25), .bin .neq (.tmp 20) (.tmp 24), none⟩] (some [0, 1, 2, 3, 4, 5, 6, 7, 8]) [14, 17, 18, 19, 20, 21, 22, 23, 24])
  (.cond (.tmp 25)
  (.seq
  (.region [
  ⟨(some 4), .mov (.const (.bool false)), none⟩] none [0, 1, 5, 25])
  .ret)
  .skip)))
  (.region [
  ⟨(some 15), .mov (.tmp 5), none⟩,
  ⟨(some 16), .bin .add (.tmp 15) (.const (.int .i64 1)), none⟩,
  ⟨(some 5), .mov (.mv 16), none⟩] none [15, 16, 25])))
/-- fugue/fugueref01.SameTexts -/
def a_r01_SameTexts : AFun :=
  { nargs := 2, ntmps := 26, res := [.tmp 4], gc := false, body :=
  (.seq
  (.region [
  ⟨(some 4), .mov (.const (.bool false)), none⟩] none [4])
  (.seq
  (.seq
  (.region [
  ⟨(some 6), .mov (.tmp 0), none⟩,
  ⟨(some 7), .len (.tmp 6), none⟩,
  ⟨(some 8), .mov (.tmp 1), none⟩,
  ⟨(some 9), .len (.tmp 8), none⟩,
  ⟨(some 10), .bin .neq (.tmp 7) (.tmp 9), none⟩] none [6, 7, 8, 9])
  (.cond (.tmp 10)
  (.seq
  (.region [
  ⟨(some 4), .mov (.const (.bool false)), none⟩] none [0, 1, 10])
  .ret)
  .skip))
  (.seq
  (.seq
  (.region [
  ⟨(some 5), .mov (.const (.int .i64 0)), none⟩] none [10])
  (.block 0
  (.loop a_r01_SameTexts_l0)))
  (.seq
  (.region [
  ⟨(some 4), .mov (.const (.bool true)), none⟩] none [0, 1, 5, 14])
  .ret)))) }
def a_r04_Equal_l0 : ACode :=
  (.seq
  (.seq
  (.region [
  ⟨(some 35), .mov (.tmp 5), none⟩,
  ⟨(some 36), .fieldAddr 3 none (.tmp 2), none⟩,
  ⟨(some 37), .load none false (.tmp 36), none⟩,
  ⟨(some 38), .len (.tmp 37), none⟩,
  ⟨(some 39), .bin .lss (.tmp 35) (.tmp 38), none⟩] none [35, 36, 37, 38])
  (.cond (.tmp 39)
  .skip
  (.exit 0)))
  (.seq
  (.block 1
  (.seq
  (.region [
  ⟨(some 42), .fieldAddr 3 none (.tmp 2), none⟩,
  ⟨(some 43), .loadB 2 none (.tmp 42), none⟩,
  ⟨(some 44), .mov (.tmp 5), none⟩,
  ⟨(some 45), .indexAddr 4 (.tmp 43) (.tmp 44), none⟩,
  ⟨(some 46), .loadE (some 4) (.tmp 45), none⟩,
  ⟨(some 47), .fieldAddr 3 none (.tmp 3), none⟩,
  ⟨(some 48), .loadB 3 none (.tmp 47), none⟩,
  ⟨(some 49), .mov (.tmp 5), none⟩,
  ⟨(some 50), .indexAddr 4 (.tmp 48) (.tmp 49), none⟩,
  ⟨(some 51), .loadE (some 4) (.tmp 50), none⟩,
  ⟨(some 52), .call n_r04_Equal [(.tmp 46), (.tmp 51)], none⟩,
  ⟨(some 6), .mov (.mv 52), none⟩] (some [0, 1, 2, 3, 4, 5, 6, 7, 8, 9, 10, 11]) [39, 42, 43, 44, 45, 46, 47, 48, 49, 50, 51, 52])
  (.seq
  (.region [
  ⟨(some 53), .mov (.tmp 6), none⟩,
  ⟨(some 54), .un .not (.tmp 53), none⟩] none [6, 53])
  (.cond (.tmp 54)
  (.seq
  (.region [
  ⟨(some 4), .mov (.const (.bool false)), none⟩] none [2, 3, 5, 54])
  .ret)
  .skip))))
  (.region [
  ⟨(some 40), .mov (.tmp 5), none⟩,
  ⟨(some 41), .bin .add (.tmp 40) (.const (.int .i64 1)), none⟩,
  ⟨(some 5), .mov (.mv 41), none⟩] none [40, 41, 54])))
/-- fugue/fugueref04.Equal -/
def a_r04_Equal : AFun :=
  { nargs := 2, ntmps := 55, res := [.tmp 4], gc := false, body :=
  (.seq
  (.region [
  ⟨(some 2), .box (.tmp 0), none⟩,
  ⟨(some 3), .box (.tmp 1), none⟩,
  ⟨(some 4), .mov (.const (.bool false)), none⟩] none [0, 1, 4])
  (.seq
  (.seq
  (.region [
  ⟨(some 7), .fieldAddr 0 none (.tmp 2), none⟩,
  ⟨(some 8), .load none false (.tmp 7), none⟩,
  ⟨(some 9), .fieldAddr 0 none (.tmp 3), none⟩,
  ⟨(some 10), .load none false (.tmp 9), none⟩,
  ⟨(some 11), .bin .neq (.tmp 8) (.tmp 10), none⟩,
  ⟨(some 12), .mov (.mv 11), none⟩,
  ⟨(some 13), .fieldAddr 1 none (.tmp 2), (some (12, false))⟩,
  ⟨(some 14), .load none false (.tmp 13), (some (12, false))⟩,
  ⟨(some 15), .fieldAddr 1 none (.tmp 3), (some (12, false))⟩,
  ⟨(some 16), .load none false (.tmp 15), (some (12, false))⟩,
  ⟨(some 17), .bin .neq (.tmp 14) (.tmp 16), (some (12, false))⟩,
  ⟨(some 18), .pick (.tmp 12) (.const (.bool true)) (.tmp 17), none⟩,
  ⟨(some 19), .mov (.mv 18), none⟩,
  ⟨(some 20), .fieldAddr 2 none (.tmp 2), (some (19, false))⟩,
  ⟨(some 21), .load none false (.tmp 20), (some (19, false))⟩,
  ⟨(some 22), .fieldAddr 2 none (.tmp 3), (some (19, false))⟩,
  ⟨(some 23), .load none false (.tmp 22), (some (19, false))⟩,
  ⟨(some 24), .bin .neq (.tmp 21) (.tmp 23), (some (19, false))⟩,
  ⟨(some 25), .pick (.tmp 19) (.const (.bool true)) (.tmp 24), none⟩,
  ⟨(some 26), .mov (.mv 25), none⟩,
  ⟨(some 27), .fieldAddr 3 none (.tmp 2), (some (26, false))⟩,
  ⟨(some 28), .load none false (.tmp 27), (some (26, false))⟩,
  ⟨(some 29), .len (.tmp 28), (some (26, false))⟩,
  ⟨(some 30), .fieldAddr 3 none (.tmp 3), (some (26, false))⟩,
  ⟨(some 31), .load none false (.tmp 30), (some (26, false))⟩,
  ⟨(some 32), .len (.tmp 31), (some (26, false))⟩,
  ⟨(some 33), .bin .neq (.tmp 29) (.tmp 32), (some (26, false))⟩,
  ⟨(some 34), .pick (.tmp 26) (.const (.bool true)) (.tmp 33), none⟩] none [7, 8, 9, 10, 11, 12, 13, 14, 15, 16, 17, 18, 19, 20, 21, 22, 23, 24, 25, 26, 27, 28, 29, 30, 31, 32, 33])
  (.cond (.tmp 34)
  (.seq
  (.region [
  ⟨(some 4), .mov (.const (.bool false)), none⟩] none [2, 3, 34])
  .ret)
  .skip))
  (.seq
  (.seq
  (.region [
  ⟨(some 5), .mov (.const (.int .i64 0)), none⟩] none [34])
  (.block 0
  (.loop a_r04_Equal_l0)))
  (.seq
  (.region [
  ⟨(some 4), .mov (.const (.bool true)), none⟩] none [2, 3, 5, 39])
  .ret)))) }
def a_r12_Same_l0 : ACode :=
  (.seq
  (.seq
  (.region [
  ⟨(some 12), .mov (.tmp 5), none⟩,
  ⟨(some 13), .mov (.tmp 0), none⟩,
  ⟨(some 14), .len (.tmp 13), none⟩,
  ⟨(some 15), .bin .lss (.tmp 12) (.tmp 14), none⟩] none [12, 13, 14])
  (.cond (.tmp 15)
  .skip
  (.exit 0)))
  (.seq
  (.block 1
  (.seq
  (.region [
  ⟨(some 18), .mov (.tmp 0), none⟩,
  ⟨(some 19), .mov (.tmp 5), none⟩,
  ⟨(some 20), .indexAddr 5 (.tmp 18) (.tmp 19), none⟩,
  ⟨(some 21), .loadE (some 5) (.tmp 20), none⟩,
  ⟨(some 22), .mov (.tmp 1), none⟩,
  ⟨(some 23), .mov (.tmp 5), none⟩,
  ⟨(some 24), .indexAddr 5 (.tmp 22) (.tmp 23), none⟩,
  ⟨(some 25), .loadE (some 5) (.tmp 24), none⟩,
  ⟨(some 26), .call n_r12_same [(.tmp 21), (.tmp 25)], none⟩,
  ⟨(some 6), .mov (.mv 26), none⟩] (some [0, 1, 2, 3, 4, 5, 6, 7, 8, 9]) [15, 18, 19, 20, 21, 22, 23, 24, 25, 26])
  (.seq
  (.region [
  ⟨(some 27), .mov (.tmp 6), none⟩,
  ⟨(some 28), .un .not (.tmp 27), none⟩] none [6, 27])
  (.cond (.tmp 28)
  (.seq
  (.region [
  ⟨(some 4), .mov (.const (.bool false)), none⟩] none [0, 1, 5, 28])
  .ret)
  .skip))))
  (.region [
  ⟨(some 16), .mov (.tmp 5), none⟩,
  ⟨(some 17), .bin .add (.tmp 16) (.const (.int .i64 1)), none⟩,
  ⟨(some 5), .mov (.mv 17), none⟩] none [16, 17, 28])))
/-- fugue/fugueref12.Same -/
def a_r12_Same : AFun :=
  { nargs := 2, ntmps := 29, res := [.tmp 4], gc := false, body :=
  (.seq
  (.region [
  ⟨(some 4), .mov (.const (.bool false)), none⟩] none [4])
  (.seq
  (.seq
  (.region [
  ⟨(some 7), .mov (.tmp 0), none⟩,
  ⟨(some 8), .len (.tmp 7), none⟩,
  ⟨(some 9), .mov (.tmp 1), none⟩,
  ⟨(some 10), .len (.tmp 9), none⟩,
  ⟨(some 11), .bin .neq (.tmp 8) (.tmp 10), none⟩] none [7, 8, 9, 10])
  (.cond (.tmp 11)
  (.seq
  (.region [
  ⟨(some 4), .mov (.const (.bool false)), none⟩] none [0, 1, 11])
  .ret)
  .skip))
  (.seq
  (.seq
  (.region [
  ⟨(some 5), .mov (.const (.int .i64 0)), none⟩] none [11])
  (.block 0
  (.loop a_r12_Same_l0)))
  (.seq
  (.region [
  ⟨(some 4), .mov (.const (.bool true)), none⟩] none [0, 1, 5, 15])
  .ret)))) }
def a_r03_Same_l0 : ACode :=
  (.seq
  (.seq
  (.region [
  ⟨(some 14), .mov (.tmp 5), none⟩,
  ⟨(some 15), .fieldAddr 0 none (.tmp 2), none⟩,
  ⟨(some 16), .load none false (.tmp 15), none⟩,
  ⟨(some 17), .len (.tmp 16), none⟩,
  ⟨(some 18), .bin .lss (.tmp 14) (.tmp 17), none⟩] none [14, 15, 16, 17])
  (.cond (.tmp 18)
  .skip
  (.exit 0)))
  (.seq
  (.block 1
  (.seq
  (.region [
  ⟨(some 21), .fieldAddr 0 none (.tmp 2), none⟩,
  ⟨(some 22), .loadB 2 none (.tmp 21), none⟩,
  ⟨(some 23), .mov (.tmp 5), none⟩,
  ⟨(some 24), .indexAddr 1 (.tmp 22) (.tmp 23), none⟩,
  ⟨(some 25), .loadE (some 1) (.tmp 24), none⟩,
  ⟨(some 26), .fieldAddr 0 none (.tmp 3), none⟩,
  ⟨(some 27), .loadB 3 none (.tmp 26), none⟩,
  ⟨(some 28), .mov (.tmp 5), none⟩,
  ⟨(some 29), .indexAddr 1 (.tmp 27) (.tmp 28), none⟩,
  ⟨(some 30), .loadE (some 1) (.tmp 29), none⟩,
  ⟨(some 31), .call n_r03_Same [(.tmp 25), (.tmp 30)], none⟩,
  ⟨(some 6), .mov (.mv 31), none⟩] (some [0, 1, 2, 3, 4, 5, 6, 7, 8, 9, 10, 11]) [18, 21, 22, 23, 24, 25, 26, 27, 28, 29, 30, 31])
  (.seq
  (.region [
  ⟨(some 32), .mov (.tmp 6), none⟩,
  ⟨(some 33), .un .not (.tmp 32), none⟩] none [6, 32])
  (.cond (.tmp 33)
  (.seq
  (.region [
  ⟨(some 4), .mov (.const (.bool false)), none⟩] none [2, 3, 5, 33])
  .ret)
  .skip))))
  (.region [
  ⟨(some 19), .mov (.tmp 5), none⟩,
  ⟨(some 20), .bin .add (.tmp 19) (.const (.int .i64 1)), none⟩,
  ⟨(some 5), .mov (.mv 20), none⟩] none [19, 20, 33])))
/-- fugue/fugueref03.Same -/
def a_r03_Same : AFun :=
  { nargs := 2, ntmps := 34, res := [.tmp 4], gc := false, body :=
  (.seq
  (.region [
  ⟨(some 2), .box (.tmp 0), none⟩,
  ⟨(some 3), .box (.tmp 1), none⟩,
  ⟨(some 4), .mov (.const (.bool false)), none⟩] none [0, 1, 4])
  (.seq
  (.seq
  (.region [
  ⟨(some 7), .fieldAddr 0 none (.tmp 2), none⟩,
  ⟨(some 8), .load none false (.tmp 7), none⟩,
  ⟨(some 9), .len (.tmp 8), none⟩,
  ⟨(some 10), .fieldAddr 0 none (.tmp 3), none⟩,
  ⟨(some 11), .load none false (.tmp 10), none⟩,
  ⟨(some 12), .len (.tmp 11), none⟩,
  ⟨(some 13), .bin .neq (.tmp 9) (.tmp 12), none⟩] none [7, 8, 9, 10, 11, 12])
  (.cond (.tmp 13)
  (.seq
  (.region [
  ⟨(some 4), .mov (.const (.bool false)), none⟩] none [2, 3, 13])
  .ret)
  .skip))
  (.seq
  (.seq
  (.region [
  ⟨(some 5), .mov (.const (.int .i64 0)), none⟩] none [13])
  (.block 0
  (.loop a_r03_Same_l0)))
  (.seq
  (.region [
  ⟨(some 4), .mov (.const (.bool true)), none⟩] none [2, 3, 5, 18])
  .ret)))) }
def a_r13_variables_l0 : ACode :=
  (.seq
  (.seq
  (.region [
  ⟨(some 8), .mov (.tmp 5), none⟩,
  ⟨(some 9), .mov (.tmp 1), none⟩,
  ⟨(some 10), .len (.tmp 9), none⟩,
  ⟨(some 11), .bin .lss (.tmp 8) (.tmp 10), none⟩] none [8, 9, 10])
  (.cond (.tmp 11)
  .skip
  (.exit 0)))
  (.seq
  (.block 1
  (.seq
  (.region [
  ⟨(some 14), .fieldAddr 0 none (.tmp 2), none⟩,
  ⟨(some 15), .loadB 2 none (.tmp 14), none⟩,
  ⟨(some 16), .bin .eql (.tmp 15) (.const (.int .i64 1)), none⟩,
  ⟨(some 17), .mov (.mv 16), none⟩,
  ⟨(some 18), .fieldAddr 1 none (.tmp 2), (some (17, true))⟩,
  ⟨(some 19), .loadB 2 none (.tmp 18), (some (17, true))⟩,
  ⟨(some 20), .mov (.tmp 1), (some (17, true))⟩,
  ⟨(some 21), .mov (.tmp 5), (some (17, true))⟩,
  ⟨(some 22), .indexAddr 1 (.tmp 20) (.tmp 21), (some (17, true))⟩,
  ⟨(some 23), .loadE none (.tmp 22), (some (17, true))⟩,
  ⟨(some 24), .bin .eql (.tmp 19) (.tmp 23), (some (17, true))⟩,
  ⟨(some 25), .pick (.tmp 17) (.tmp 24) (.const (.bool false)), none⟩] (some [0, 1, 2, 3, 4, 5, 6, 7, 8, 9, 10, 11]) [11, 14, 15, 16, 17, 18, 19, 20, 21, 22, 23, 24])
  (.cond (.tmp 25)
  (.seq
  (.region [
  ⟨(some 26), .fieldAddr 1 none (.tmp 2), none⟩,
  ⟨(some 27), .load none false (.tmp 26), none⟩,
  ⟨(some 28), .call n_r01_Decimal [(.tmp 27)], none⟩,
  ⟨(some 29), .bin .add (.const (.str [116])) (.tmp 28), none⟩,
  ⟨(some 30), .build [.int .i64 0, .int .i64 0, .str [], .nils] [(0, 1, (.const (.int .i64 2))), (2, 1, (.tmp 29))], none⟩,
  ⟨none, .store 4 (.tmp 4) (.mv 30), none⟩] none [1, 2, 5, 25, 26, 27, 28, 29, 30])
  .ret)
  .skip)))
  (.region [
  ⟨(some 12), .mov (.tmp 5), none⟩,
  ⟨(some 13), .bin .add (.tmp 12) (.const (.int .i64 1)), none⟩,
  ⟨(some 5), .mov (.mv 13), none⟩] none [12, 13, 25])))
def a_r13_variables_l1 : ACode :=
  (.seq
  (.seq
  (.region [
  ⟨(some 31), .mov (.tmp 7), none⟩,
  ⟨(some 32), .fieldAddr 3 none (.tmp 2), none⟩,
  ⟨(some 33), .load none false (.tmp 32), none⟩,
  ⟨(some 34), .len (.tmp 33), none⟩,
  ⟨(some 35), .bin .lss (.tmp 31) (.tmp 34), none⟩] none [31, 32, 33, 34])
  (.cond (.tmp 35)
  .skip
  (.exit 2)))
  (.seq
  (.block 3
  (.region [
  ⟨(some 38), .mov (.mv 6), none⟩,
  ⟨(some 39), .fieldAddr 3 none (.tmp 2), none⟩,
  ⟨(some 40), .load none false (.tmp 39), none⟩,
  ⟨(some 41), .mov (.tmp 7), none⟩,
  ⟨(some 42), .indexAddr 4 (.tmp 40) (.tmp 41), none⟩,
  ⟨(some 43), .load (some 4) false (.tmp 42), none⟩,
  ⟨(some 44), .mov (.tmp 1), none⟩,
  ⟨(some 45), .call n_r13_variables [(.tmp 43), (.tmp 44)], none⟩,
  ⟨(some 46), .buildSlice k_api_Type [(.tmp 45)], none⟩,
  ⟨(some 47), .append k_api_Type 56 (.mv 38) (.tmp 46), none⟩,
  ⟨(some 6), .mov (.mv 47), none⟩] none [35, 38, 39, 40, 41, 42, 43, 44, 45, 46, 47]))
  (.region [
  ⟨(some 36), .mov (.tmp 7), none⟩,
  ⟨(some 37), .bin .add (.tmp 36) (.const (.int .i64 1)), none⟩,
  ⟨(some 7), .mov (.mv 37), none⟩] none [36, 37])))
/-- fugue/fugueref13.variables -/
def a_r13_variables : AFun :=
  { nargs := 2, ntmps := 51, res := [.cell 4 (some 4)], gc := false, body :=
  (.seq
  (.region [
  ⟨(some 2), .box (.tmp 0), none⟩,
  ⟨(some 4), .alloc [.int .i64 0, .int .i64 0, .str [], .nils], none⟩] none [0])
  (.seq
  (.seq
  (.region [
  ⟨(some 5), .mov (.const (.int .i64 0)), none⟩] none [])
  (.block 0
  (.loop a_r13_variables_l0)))
  (.seq
  (.region [
  ⟨(some 6), .mov (.const (.nils)), none⟩] none [5, 11])
  (.seq
  (.seq
  (.region [
  ⟨(some 7), .mov (.const (.int .i64 0)), none⟩] none [])
  (.block 2
  (.loop a_r13_variables_l1)))
  (.seq
  (.region [
  ⟨(some 48), .mov (.tmp 6), none⟩,
  ⟨(some 49), .fieldAddr 3 none (.tmp 2), none⟩,
  ⟨none, .store 1 (.tmp 49) (.mv 48), none⟩] none [1, 6, 7, 35, 48, 49])
  (.seq
  (.region [
  ⟨(some 50), .load (some 4) true (.tmp 2), none⟩,
  ⟨none, .store 4 (.tmp 4) (.mv 50), none⟩] none [2, 50])
  .ret)))))) }
/-- fugue/fugueref01.Decimal -/
def a_r01_Decimal : AFun :=
  { nargs := 1, ntmps := 32, res := [.tmp 2], gc := false, body :=
  (.seq
  (.region [
  ⟨(some 2), .mov (.const (.str [])), none⟩] none [2])
  (.seq
  (.region [
  ⟨(some 5), .mov (.tmp 0), none⟩,
  ⟨(some 6), .bin .rem (.tmp 5) (.const (.int .i64 10)), none⟩,
  ⟨(some 3), .mov (.mv 6), none⟩] none [5, 6])
  (.seq
  (.seq
  (.region [
  ⟨(some 7), .mov (.tmp 3), none⟩,
  ⟨(some 8), .bin .lss (.tmp 7) (.const (.int .i64 0)), none⟩] none [7])
  (.cond (.tmp 8)
  (.region [
  ⟨(some 9), .mov (.tmp 3), none⟩,
  ⟨(some 10), .un .neg (.tmp 9), none⟩,
  ⟨(some 3), .mov (.mv 10), none⟩] none [8, 9, 10])
  .skip))
  (.seq
  (.region [
  ⟨(some 11), .mov (.tmp 3), none⟩,
  ⟨(some 12), .bin .add (.const (.int .i64 48)) (.tmp 11), none⟩,
  ⟨(some 13), .toInt .u8 (.tmp 12), none⟩,
  ⟨(some 14), .buildSlice k_uint8 [(.tmp 13)], none⟩,
  ⟨(some 15), .bytesToStr (.tmp 14), none⟩,
  ⟨(some 4), .mov (.mv 15), none⟩] none [3, 8, 11, 12, 13, 14, 15])
  (.seq
  (.seq
  (.region [
  ⟨(some 16), .mov (.tmp 0), none⟩,
  ⟨(some 17), .bin .gtr (.tmp 16) (.const (.int .i64 (-10))), none⟩,
  ⟨(some 18), .mov (.mv 17), none⟩,
  ⟨(some 19), .mov (.tmp 0), (some (18, true))⟩,
  ⟨(some 20), .bin .lss (.tmp 19) (.const (.int .i64 10)), (some (18, true))⟩,
  ⟨(some 21), .pick (.tmp 18) (.tmp 20) (.const (.bool false)), none⟩] none [16, 17, 18, 19, 20])
  (.cond (.tmp 21)
  (.seq
  (.seq
  (.region [
  ⟨(some 22), .mov (.tmp 0), none⟩,
  ⟨(some 23), .bin .lss (.tmp 22) (.const (.int .i64 0)), none⟩] none [0, 21, 22])
  (.cond (.tmp 23)
  (.seq
  (.region [
  ⟨(some 24), .mov (.mv 4), none⟩,
  ⟨(some 25), .bin .add (.const (.str [45])) (.tmp 24), none⟩,
  ⟨(some 2), .mov (.mv 25), none⟩] none [4, 23, 24, 25])
  .ret)
  .skip))
  (.seq
  (.region [
  ⟨(some 26), .mov (.mv 4), none⟩,
  ⟨(some 2), .mov (.mv 26), none⟩] none [4, 23, 26])
  .ret))
  .skip))
  (.seq
  (.region [
  ⟨(some 27), .mov (.mv 0), none⟩,
  ⟨(some 28), .bin .quo (.tmp 27) (.const (.int .i64 10)), none⟩,
  ⟨(some 29), .call n_r01_Decimal [(.tmp 28)], none⟩,
  ⟨(some 30), .mov (.mv 4), none⟩,
  ⟨(some 31), .bin .add (.tmp 29) (.tmp 30), none⟩,
  ⟨(some 2), .mov (.mv 31), none⟩] none [0, 4, 21, 27, 28, 29, 30, 31])
  .ret)))))) }
/-- fugue/types.Var -/
def a_types_Var : AFun :=
  { nargs := 1, ntmps := 5, res := [.cell 2 (some 4)], gc := false, body :=
  (.seq
  (.region [
  ⟨(some 2), .alloc [.int .i64 0, .int .i64 0, .str [], .nils], none⟩] none [])
  (.seq
  (.region [
  ⟨(some 3), .mov (.mv 0), none⟩,
  ⟨(some 4), .build [.int .i64 0, .int .i64 0, .str [], .nils] [(0, 1, (.const (.int .i64 2))), (2, 1, (.tmp 3))], none⟩,
  ⟨none, .store 4 (.tmp 2) (.mv 4), none⟩] none [0, 3, 4])
  .ret)) }
def a_types_Fun_l0 : ACode :=
  (.seq
  (.region [
  ⟨(some 12), .bin .lss (.tmp 11) (.tmp 10), none⟩] none [])
  (.seq
  (.cond (.tmp 12)
  .skip
  (.exit 0))
  (.seq
  (.block 1
  (.seq
  (.region [
  ⟨(some 13), .mov (.tmp 11), none⟩,
  ⟨(some 6), .mov (.mv 13), none⟩] none [12, 13])
  (.region [
  ⟨(some 15), .mov (.tmp 1), none⟩,
  ⟨(some 16), .mov (.tmp 1), none⟩,
  ⟨(some 17), .len (.tmp 16), none⟩,
  ⟨(some 18), .bin .sub (.tmp 17) (.const (.int .i64 1)), none⟩,
  ⟨(some 19), .mov (.tmp 6), none⟩,
  ⟨(some 20), .bin .sub (.tmp 18) (.tmp 19), none⟩,
  ⟨(some 21), .indexAddr 4 (.tmp 15) (.tmp 20), none⟩,
  ⟨(some 22), .loadE (some 4) (.tmp 21), none⟩,
  ⟨(some 25), .loadB 5 (some 4) (.tmp 5), none⟩,
  ⟨(some 14), .call n_types_Con [(.const (.str [45, 62]))], none⟩,
  ⟨(some 23), .call n_types_own [(.tmp 22)], none⟩,
  ⟨(some 24), .call n_types_apply [(.tmp 14), (.tmp 23)], none⟩,
  ⟨(some 26), .call n_types_apply [(.tmp 24), (.tmp 25)], none⟩,
  ⟨none, .storeB 5 4 (.tmp 5) (.mv 26), none⟩] (some [1, 2, 3, 4, 5, 6, 7, 8, 11, 0, 9, 10, 12, 13]) [6, 14, 15, 16, 17, 18, 19, 20, 21, 22, 23, 24, 25, 26])))
  (.region [
  ⟨(some 27), .bin .add (.tmp 11) (.const (.int .i64 1)), none⟩,
  ⟨(some 11), .mov (.mv 27), none⟩] none [27]))))
/-- fugue/types.Fun -/
def a_types_Fun : AFun :=
  { nargs := 2, ntmps := 29, res := [.cell 4 (some 4)], gc := false, body :=
  (.seq
  (.region [
  ⟨(some 2), .box (.tmp 0), none⟩,
  ⟨(some 4), .alloc [.int .i64 0, .int .i64 0, .str [], .nils], none⟩] none [0])
  (.seq
  (.region [
  ⟨(some 7), .load (some 4) false (.tmp 2), none⟩,
  ⟨(some 8), .call n_types_own [(.tmp 7)], none⟩,
  ⟨(some 5), .alloc [.int .i64 0, .int .i64 0, .str [], .nils], none⟩,
  ⟨none, .store 4 (.tmp 5) (.mv 8), none⟩] none [2, 7, 8])
  (.seq
  (.seq
  (.region [
  ⟨(some 9), .mov (.tmp 1), none⟩,
  ⟨(some 10), .len (.tmp 9), none⟩,
  ⟨(some 11), .mov (.const (.int .i64 0)), none⟩] none [9])
  (.block 0
  (.loop a_types_Fun_l0)))
  (.seq
  (.region [
  ⟨(some 28), .load (some 4) true (.tmp 5), none⟩,
  ⟨none, .store 4 (.tmp 4) (.mv 28), none⟩] none [1, 5, 10, 11, 12, 28])
  .ret)))) }
def a_types_App_l0 : ACode :=
  (.seq
  (.region [
  ⟨(some 13), .bin .lss (.tmp 12) (.tmp 11), none⟩] none [])
  (.seq
  (.cond (.tmp 13)
  .skip
  (.exit 0))
  (.seq
  (.block 1
  (.seq
  (.region [
  ⟨(some 14), .indexAddr 4 (.tmp 10) (.tmp 12), none⟩,
  ⟨(some 15), .load (some 4) false (.tmp 14), none⟩,
  ⟨(some 7), .alloc [.int .i64 0, .int .i64 0, .str [], .nils], none⟩,
  ⟨none, .store 4 (.tmp 7) (.mv 15), none⟩] none [13, 14, 15])
  (.region [
  ⟨(some 16), .loadB 5 (some 4) (.tmp 5), none⟩,
  ⟨(some 17), .loadB 7 (some 4) (.tmp 7), none⟩,
  ⟨(some 18), .call n_types_own [(.tmp 17)], none⟩,
  ⟨(some 19), .call n_types_apply [(.tmp 16), (.tmp 18)], none⟩,
  ⟨none, .storeB 5 4 (.tmp 5) (.mv 19), none⟩] (some [0, 1, 2, 3, 4]) [7, 16, 17, 18, 19])))
  (.region [
  ⟨(some 20), .bin .add (.tmp 12) (.const (.int .i64 1)), none⟩,
  ⟨(some 12), .mov (.mv 20), none⟩] none [20]))))
/-- fugue/types.App -/
def a_types_App : AFun :=
  { nargs := 2, ntmps := 22, res := [.cell 4 (some 4)], gc := false, body :=
  (.seq
  (.region [
  ⟨(some 2), .box (.tmp 0), none⟩,
  ⟨(some 4), .alloc [.int .i64 0, .int .i64 0, .str [], .nils], none⟩] none [0])
  (.seq
  (.region [
  ⟨(some 8), .load (some 4) false (.tmp 2), none⟩,
  ⟨(some 9), .call n_types_own [(.tmp 8)], none⟩,
  ⟨(some 5), .alloc [.int .i64 0, .int .i64 0, .str [], .nils], none⟩,
  ⟨none, .store 4 (.tmp 5) (.mv 9), none⟩] none [2, 8, 9])
  (.seq
  (.seq
  (.region [
  ⟨(some 10), .mov (.tmp 1), none⟩,
  ⟨(some 11), .len (.tmp 10), none⟩,
  ⟨(some 12), .mov (.const (.int .i64 0)), none⟩] none [1])
  (.block 0
  (.loop a_types_App_l0)))
  (.seq
  (.region [
  ⟨(some 21), .load (some 4) true (.tmp 5), none⟩,
  ⟨none, .store 4 (.tmp 4) (.mv 21), none⟩] none [5, 10, 11, 12, 13, 21])
  .ret)))) }
/-- fugue/types.Con -/
def a_types_Con : AFun :=
  { nargs := 1, ntmps := 5, res := [.cell 2 (some 4)], gc := false, body :=
  (.seq
  (.region [
  ⟨(some 2), .alloc [.int .i64 0, .int .i64 0, .str [], .nils], none⟩] none [])
  (.seq
  (.region [
  ⟨(some 3), .mov (.mv 0), none⟩,
  ⟨(some 4), .build [.int .i64 0, .int .i64 0, .str [], .nils] [(0, 1, (.const (.int .i64 3))), (2, 1, (.tmp 3))], none⟩,
  ⟨none, .store 4 (.tmp 2) (.mv 4), none⟩] none [0, 3, 4])
  .ret)) }
def a_scheme_Print_l0 : ACode :=
  (.seq
  (.region [
  ⟨(some 14), .bin .lss (.tmp 13) (.tmp 12), none⟩] none [])
  (.seq
  (.cond (.tmp 14)
  .skip
  (.exit 0))
  (.seq
  (.block 1
  (.seq
  (.region [
  ⟨(some 15), .indexAddr 5 (.tmp 11) (.tmp 13), none⟩,
  ⟨(some 16), .load (some 5) false (.tmp 15), none⟩,
  ⟨(some 5), .alloc [.str [], .int .i64 0, .int .i64 0, .str [], .nils], none⟩,
  ⟨none, .store 5 (.tmp 5) (.mv 16), none⟩] none [14, 15, 16])
  (.seq
  (.region [
  ⟨(some 17), .fieldAddr 1 (some 4) (.tmp 5), none⟩,
  ⟨(some 18), .load (some 4) false (.tmp 17), none⟩,
  ⟨(some 19), .call n_types_Print [(.tmp 18)], none⟩,
  ⟨(some 6), .mov (.mv 19), none⟩] none [17, 18, 19])
  (.seq
  (.seq
  (.region [
  ⟨(some 20), .fieldAddr 1 (some 4) (.tmp 5), none⟩,
  ⟨(some 21), .fieldAddr 0 none (.tmp 20), none⟩,
  ⟨(some 22), .load none false (.tmp 21), none⟩,
  ⟨(some 23), .bin .eql (.tmp 22) (.const (.int .i64 4)), none⟩] none [20, 21, 22])
  (.cond (.tmp 23)
  (.region [
  ⟨(some 24), .mov (.tmp 6), none⟩,
  ⟨(some 25), .bin .add (.const (.str [40])) (.tmp 24), none⟩,
  ⟨(some 26), .bin .add (.tmp 25) (.const (.str [41])), none⟩,
  ⟨(some 6), .mov (.mv 26), none⟩] none [23, 24, 25, 26])
  .skip))
  (.region [
  ⟨(some 27), .mov (.mv 3), none⟩,
  ⟨(some 28), .fieldAddr 0 none (.tmp 5), none⟩,
  ⟨(some 29), .load none false (.tmp 28), none⟩,
  ⟨(some 30), .bin .add (.tmp 29) (.const (.str [32])), none⟩,
  ⟨(some 31), .mov (.tmp 6), none⟩,
  ⟨(some 32), .bin .add (.tmp 30) (.tmp 31), none⟩,
  ⟨(some 33), .buildSlice k_string [(.tmp 32)], none⟩,
  ⟨(some 34), .append k_string 16 (.mv 27) (.tmp 33), none⟩,
  ⟨(some 3), .mov (.mv 34), none⟩] none [5, 6, 23, 27, 28, 29, 30, 31, 32, 33, 34])))))
  (.region [
  ⟨(some 35), .bin .add (.tmp 13) (.const (.int .i64 1)), none⟩,
  ⟨(some 13), .mov (.mv 35), none⟩] none [35]))))
/-- fugue/scheme.Print -/
def a_scheme_Print : AFun :=
  { nargs := 1, ntmps := 58, res := [.tmp 2], gc := false, body :=
  (.seq
  (.region [
  ⟨(some 1), .box (.tmp 0), none⟩,
  ⟨(some 2), .mov (.const (.str [])), none⟩] none [0, 2])
  (.seq
  (.region [
  ⟨(some 8), .load (some 7) false (.tmp 1), none⟩,
  ⟨(some 9), .call n_scheme_Canon [(.tmp 8)], none⟩,
  ⟨none, .store 7 (.tmp 1) (.mv 9), none⟩] none [8, 9])
  (.seq
  (.region [
  ⟨(some 3), .mov (.const (.nils)), none⟩] none [])
  (.seq
  (.seq
  (.region [
  ⟨(some 10), .fieldAddr 2 none (.tmp 1), none⟩,
  ⟨(some 11), .load none false (.tmp 10), none⟩,
  ⟨(some 12), .len (.tmp 11), none⟩,
  ⟨(some 13), .mov (.const (.int .i64 0)), none⟩] none [10])
  (.block 0
  (.loop a_scheme_Print_l0)))
  (.seq
  (.region [
  ⟨(some 36), .fieldAddr 3 (some 4) (.tmp 1), none⟩,
  ⟨(some 37), .load (some 4) false (.tmp 36), none⟩,
  ⟨(some 38), .call n_types_Print [(.tmp 37)], none⟩,
  ⟨(some 7), .mov (.mv 38), none⟩] none [1, 11, 12, 13, 14, 36, 37, 38])
  (.seq
  (.seq
  (.region [
  ⟨(some 39), .mov (.tmp 3), none⟩,
  ⟨(some 40), .len (.tmp 39), none⟩] none [39])
  (.block 2
  (.seq
  (.region [
  ⟨(some 42), .bin .eql (.tmp 40) (.const (.int .i64 0)), none⟩,
  ⟨(some 41), .mov (.mv 42), none⟩] none [42])
  (.cond (.tmp 41)
  (.seq
  (.region [
  ⟨(some 43), .mov (.mv 7), none⟩,
  ⟨(some 2), .mov (.mv 43), none⟩] none [3, 7, 40, 41, 43])
  .ret)
  (.seq
  (.region [
  ⟨(some 45), .bin .eql (.tmp 40) (.const (.int .i64 1)), none⟩,
  ⟨(some 44), .mov (.mv 45), none⟩] none [40, 41, 45])
  (.cond (.tmp 44)
  (.seq
  (.region [
  ⟨(some 46), .mov (.mv 3), none⟩,
  ⟨(some 47), .indexAddr 1 (.tmp 46) (.const (.int .i64 0)), none⟩,
  ⟨(some 48), .load none false (.tmp 47), none⟩,
  ⟨(some 49), .bin .add (.tmp 48) (.const (.str [32, 61, 62, 32])), none⟩,
  ⟨(some 50), .mov (.mv 7), none⟩,
  ⟨(some 51), .bin .add (.tmp 49) (.tmp 50), none⟩,
  ⟨(some 2), .mov (.mv 51), none⟩] none [3, 7, 44, 46, 47, 48, 49, 50, 51])
  .ret)
  .skip))))))
  (.seq
  (.region [
  ⟨(some 52), .mov (.mv 3), none⟩,
  ⟨(some 53), .call n_strings_Join [(.tmp 52), (.const (.str [44, 32]))], none⟩,
  ⟨(some 54), .bin .add (.const (.str [40])) (.tmp 53), none⟩,
  ⟨(some 55), .bin .add (.tmp 54) (.const (.str [41, 32, 61, 62, 32])), none⟩,
  ⟨(some 56), .mov (.mv 7), none⟩,
  ⟨(some 57), .bin .add (.tmp 55) (.tmp 56), none⟩,
  ⟨(some 2), .mov (.mv 57), none⟩] none [3, 7, 44, 52, 53, 54, 55, 56, 57])
  .ret))))))) }
end Go.Fu

