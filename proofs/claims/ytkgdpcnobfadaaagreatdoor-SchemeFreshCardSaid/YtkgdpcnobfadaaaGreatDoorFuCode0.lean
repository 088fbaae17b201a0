/-
  The program's functions as the machine's code (printed by gen2.py).
-/
import Derived.Test.YtkgdpcnobfadaaaGreatDoorFuIds
set_option linter.unusedSimpArgs false
set_option linter.unusedVariables false
namespace Go.Fu
open Go Go.Mx
def a_l13_SchemeFresh_l0 : ACode :=
  (.seq
  (.seq
  (.region [
  ⟨(some 26), .mov (.tmp 12), none⟩,
  ⟨(some 27), .mov (.tmp 11), none⟩,
  ⟨(some 28), .bin .lss (.tmp 26) (.tmp 27), none⟩] none [26, 27])
  (.cond (.tmp 28)
  .skip
  (.exit 0)))
  (.seq
  (.block 1
  (.region [
  ⟨(some 31), .mov (.tmp 10), none⟩,
  ⟨(some 32), .call n_unify_Subst_Fresh [(.tmp 31)], none⟩] none [28, 31, 32]))
  (.region [
  ⟨(some 29), .mov (.tmp 12), none⟩,
  ⟨(some 30), .bin .add (.tmp 29) (.const (.int .i64 1)), none⟩,
  ⟨(some 12), .mov (.mv 30), none⟩] none [29, 30])))
def a_l13_SchemeFresh_l1 : ACode :=
  (.seq
  (.seq
  (.region [
  ⟨(some 58), .mov (.tmp 16), none⟩,
  ⟨(some 59), .mov (.tmp 15), none⟩,
  ⟨(some 60), .len (.tmp 59), none⟩,
  ⟨(some 61), .bin .lss (.tmp 58) (.tmp 60), none⟩] none [58, 59, 60])
  (.cond (.tmp 61)
  .skip
  (.exit 2)))
  (.seq
  (.block 3
  (.seq
  (.region [
  ⟨(some 64), .mov (.tmp 15), none⟩,
  ⟨(some 65), .mov (.tmp 16), none⟩,
  ⟨(some 66), .indexAddr 4 (.tmp 64) (.tmp 65), none⟩,
  ⟨(some 67), .load (some 4) false (.tmp 66), none⟩,
  ⟨(some 68), .mov (.tmp 11), none⟩,
  ⟨(some 69), .bin .add (.tmp 68) (.const (.int .i64 1)), none⟩,
  ⟨(some 70), .mov (.tmp 16), none⟩,
  ⟨(some 71), .bin .add (.tmp 69) (.tmp 70), none⟩,
  ⟨(some 72), .build [.int .i64 0, .int .i64 0, .str [], .nils] [(0, 1, (.const (.int .i64 1))), (1, 1, (.tmp 71))], none⟩,
  ⟨(some 73), .call n_r04_Equal [(.tmp 67), (.tmp 72)], none⟩,
  ⟨(some 74), .un .not (.tmp 73), none⟩] none [61, 64, 65, 66, 67, 68, 69, 70, 71, 72, 73])
  (.cond (.tmp 74)
  (.seq
  (.region [
  ⟨(some 8), .mov (.const (.bool false)), none⟩] none [9, 11, 13, 14, 15, 16, 74])
  .ret)
  .skip)))
  (.region [
  ⟨(some 62), .mov (.tmp 16), none⟩,
  ⟨(some 63), .bin .add (.tmp 62) (.const (.int .i64 1)), none⟩,
  ⟨(some 16), .mov (.mv 63), none⟩] none [62, 63, 74])))
/-- fugue/fuguelaw13.SchemeFresh -/
def a_l13_SchemeFresh : AFun :=
  { nargs := 4, ntmps := 96, res := [.tmp 8], gc := false, body :=
  (.seq
  (.region [
  ⟨(some 8), .mov (.const (.bool false)), none⟩] none [8])
  (.seq
  (.region [
  ⟨(some 17), .mov (.tmp 0), none⟩,
  ⟨(some 18), .mov (.tmp 1), none⟩,
  ⟨(some 19), .mov (.tmp 2), none⟩,
  ⟨(some 20), .call n_r13_Made [(.tmp 17), (.tmp 18), (.tmp 19)], none⟩,
  ⟨(some 9), .alloc [.nils, .nils, .nils, .int .i64 0, .int .i64 0, .str [], .nils], none⟩,
  ⟨none, .store 7 (.tmp 9) (.mv 20), none⟩] none [0, 1, 2, 17, 18, 19, 20])
  (.seq
  (.region [
  ⟨(some 21), .call n_unify_New [], none⟩,
  ⟨(some 10), .mov (.mv 21), none⟩] none [21])
  (.seq
  (.seq
  (.region [
  ⟨(some 22), .mov (.tmp 10), none⟩,
  ⟨(some 23), .isNilP .eql (.tmp 22), none⟩] none [22])
  (.cond (.tmp 23)
  (.seq
  (.region [
  ⟨(some 8), .mov (.const (.bool false)), none⟩] none [3, 9, 10, 23])
  .ret)
  .skip))
  (.seq
  (.region [
  ⟨(some 24), .mov (.tmp 3), none⟩,
  ⟨(some 25), .call n_r01_Around [(.tmp 24), (.const (.int .i64 4))], none⟩,
  ⟨(some 11), .mov (.mv 25), none⟩] none [3, 23, 24, 25])
  (.seq
  (.seq
  (.region [
  ⟨(some 12), .mov (.const (.int .i64 0)), none⟩] none [])
  (.block 0
  (.loop a_l13_SchemeFresh_l0)))
  (.seq
  (.region [
  ⟨(some 34), .mov (.tmp 10), none⟩,
  ⟨(some 35), .load (some 7) false (.tmp 9), none⟩,
  ⟨(some 36), .call n_scheme_Fresh [(.tmp 34), (.tmp 35)], none⟩,
  ⟨(some 33), .mov (.mv 36), none⟩,
  ⟨(some 37), .extract (.tmp 33) 0, none⟩,
  ⟨(some 38), .extract (.tmp 33) 1, none⟩,
  ⟨(some 39), .extract (.tmp 33) 2, none⟩,
  ⟨(some 14), .alloc [.int .i64 0, .int .i64 0, .str [], .nils], none⟩,
  ⟨(some 13), .mov (.mv 37), none⟩,
  ⟨none, .store 4 (.tmp 14) (.mv 38), none⟩,
  ⟨(some 15), .mov (.mv 39), none⟩] none [12, 28, 33, 34, 35, 36, 37, 38, 39])
  (.seq
  (.seq
  (.region [
  ⟨(some 40), .mov (.tmp 15), none⟩,
  ⟨(some 41), .len (.tmp 40), none⟩,
  ⟨(some 42), .fieldAddr 0 none (.tmp 9), none⟩,
  ⟨(some 43), .loadB 9 none (.tmp 42), none⟩,
  ⟨(some 44), .len (.tmp 43), none⟩,
  ⟨(some 45), .bin .neq (.tmp 41) (.tmp 44), none⟩,
  ⟨(some 46), .mov (.mv 45), none⟩,
  ⟨(some 47), .mov (.tmp 10), (some (46, false))⟩,
  ⟨(some 50), .mov (.tmp 11), (some (46, false))⟩,
  ⟨(some 51), .fieldAddr 0 none (.tmp 9), (some (46, false))⟩,
  ⟨(some 52), .loadB 9 none (.tmp 51), (some (46, false))⟩,
  ⟨(some 53), .len (.tmp 52), (some (46, false))⟩,
  ⟨(some 54), .bin .add (.tmp 50) (.tmp 53), (some (46, false))⟩,
  ⟨(some 55), .bin .add (.tmp 54) (.const (.int .i64 1)), (some (46, false))⟩,
  ⟨(some 48), .call n_unify_Subst_Fresh [(.tmp 47)], (some (46, false))⟩,
  ⟨(some 49), .field 1 none (.tmp 48), (some (46, false))⟩,
  ⟨(some 56), .bin .neq (.tmp 49) (.tmp 55), (some (46, false))⟩,
  ⟨(some 57), .pick (.tmp 46) (.const (.bool true)) (.tmp 56), none⟩] (some [0, 1, 2, 3, 4, 5, 6, 7, 10, 11, 12, 13, 14, 15, 8, 9, 16, 17]) [10, 40, 41, 42, 43, 44, 45, 46, 47, 48, 49, 50, 51, 52, 53, 54, 55, 56])
  (.cond (.tmp 57)
  (.seq
  (.region [
  ⟨(some 8), .mov (.const (.bool false)), none⟩] none [9, 11, 13, 14, 15, 57])
  .ret)
  .skip))
  (.seq
  (.seq
  (.region [
  ⟨(some 16), .mov (.const (.int .i64 0)), none⟩] none [57])
  (.block 2
  (.loop a_l13_SchemeFresh_l1)))
  (.seq
  (.region [
  ⟨(some 75), .mov (.mv 13), none⟩,
  ⟨(some 76), .fieldAddr 2 none (.tmp 9), none⟩,
  ⟨(some 77), .loadB 9 none (.tmp 76), none⟩,
  ⟨(some 78), .fieldAddr 0 none (.tmp 9), none⟩,
  ⟨(some 79), .loadB 9 none (.tmp 78), none⟩,
  ⟨(some 80), .mov (.tmp 15), none⟩,
  ⟨(some 81), .call n_r13_Put [(.tmp 77), (.tmp 79), (.tmp 80)], none⟩,
  ⟨(some 82), .call n_r12_Same [(.tmp 75), (.tmp 81)], none⟩,
  ⟨(some 83), .mov (.mv 82), none⟩,
  ⟨(some 84), .loadB 14 (some 4) (.tmp 14), (some (83, true))⟩,
  ⟨(some 85), .fieldAddr 3 (some 4) (.tmp 9), (some (83, true))⟩,
  ⟨(some 86), .loadB 9 (some 4) (.tmp 85), (some (83, true))⟩,
  ⟨(some 87), .fieldAddr 0 none (.tmp 9), (some (83, true))⟩,
  ⟨(some 88), .loadB 9 none (.tmp 87), (some (83, true))⟩,
  ⟨(some 89), .mov (.tmp 15), (some (83, true))⟩,
  ⟨(some 90), .call n_r04_Subst [(.tmp 86), (.tmp 88), (.tmp 89)], (some (83, true))⟩,
  ⟨(some 91), .call n_r04_Equal [(.tmp 84), (.tmp 90)], (some (83, true))⟩,
  ⟨(some 92), .pick (.tmp 83) (.tmp 91) (.const (.bool false)), none⟩,
  ⟨(some 93), .mov (.mv 92), none⟩,
  ⟨(some 94), .call n_l13_lives [], (some (93, true))⟩,
  ⟨(some 95), .pick (.tmp 93) (.tmp 94) (.const (.bool false)), none⟩,
  ⟨(some 8), .mov (.mv 95), none⟩] (some [0, 1, 2, 3, 4, 5, 6, 7, 8, 9, 10, 11, 12, 13, 14, 15, 16, 17, 18, 19, 20, 21]) [9, 11, 13, 14, 15, 16, 61, 75, 76, 77, 78, 79, 80, 81, 82, 83, 84, 85, 86, 87, 88, 89, 90, 91, 92, 93, 94, 95])
  .ret)))))))))) }
def a_r13_Made_l0 : ACode :=
  (.seq
  (.seq
  (.region [
  ⟨(some 24), .mov (.tmp 9), none⟩,
  ⟨(some 25), .mov (.tmp 8), none⟩,
  ⟨(some 26), .bin .lss (.tmp 24) (.tmp 25), none⟩] none [24, 25])
  (.cond (.tmp 26)
  .skip
  (.exit 0)))
  (.seq
  (.block 1
  (.seq
  (.region [
  ⟨(some 29), .fieldAddr 0 none (.tmp 7), none⟩,
  ⟨(some 30), .loadL none true (.tmp 29), none⟩,
  ⟨(some 31), .buildSlice k_string [(.const (.str [97])), (.const (.str [98])), (.const (.str [99])), (.const (.str [120])), (.const (.str [102]))], none⟩,
  ⟨(some 32), .mov (.tmp 9), none⟩,
  ⟨(some 33), .mov (.tmp 2), none⟩,
  ⟨(some 34), .bin .quo (.tmp 33) (.const (.int .i64 18)), none⟩,
  ⟨(some 35), .call n_r01_Around [(.tmp 34), (.const (.int .i64 5))], none⟩,
  ⟨(some 36), .bin .add (.tmp 32) (.tmp 35), none⟩,
  ⟨(some 37), .bin .rem (.tmp 36) (.const (.int .i64 5)), none⟩,
  ⟨(some 38), .indexAddr 1 (.tmp 31) (.tmp 37), none⟩,
  ⟨(some 39), .loadE none (.tmp 38), none⟩,
  ⟨(some 40), .buildSlice k_string [(.tmp 39)], none⟩,
  ⟨(some 41), .append k_string 16 (.mv 30) (.tmp 40), none⟩,
  ⟨(some 42), .fieldAddr 0 none (.tmp 7), none⟩,
  ⟨none, .storeB 7 1 (.tmp 42) (.mv 41), none⟩] (some [0, 1, 2, 3, 4, 5, 6, 7, 8, 9, 10, 11, 12, 13, 14]) [26, 29, 30, 31, 32, 33, 34, 35, 36, 37, 38, 39, 40, 41, 42])
  (.seq
  (.region [
  ⟨(some 43), .mov (.tmp 2), none⟩,
  ⟨(some 44), .bin .quo (.tmp 43) (.const (.int .i64 90)), none⟩,
  ⟨(some 45), .call n_r01_Around [(.tmp 44), (.const (.int .i64 2))], none⟩,
  ⟨(some 46), .bin .eql (.tmp 45) (.const (.int .i64 1)), none⟩] none [43, 44, 45])
  (.cond (.tmp 46)
  (.region [
  ⟨(some 47), .fieldAddr 1 none (.tmp 7), none⟩,
  ⟨(some 48), .loadL none true (.tmp 47), none⟩,
  ⟨(some 49), .mov (.tmp 2), none⟩,
  ⟨(some 50), .mov (.tmp 9), none⟩,
  ⟨(some 51), .bin .add (.tmp 49) (.tmp 50), none⟩,
  ⟨(some 52), .mov (.tmp 9), none⟩,
  ⟨(some 53), .mov (.tmp 2), none⟩,
  ⟨(some 54), .bin .quo (.tmp 53) (.const (.int .i64 7)), none⟩,
  ⟨(some 55), .mov (.tmp 9), none⟩,
  ⟨(some 56), .mov (.tmp 2), none⟩,
  ⟨(some 57), .bin .mul (.tmp 55) (.tmp 56), none⟩,
  ⟨(some 58), .buildSlice k_int [(.tmp 51), (.tmp 52), (.tmp 54), (.tmp 57)], none⟩,
  ⟨(some 59), .call n_r03_Kind [(.tmp 58)], none⟩,
  ⟨(some 60), .buildSlice k_api_Kind [(.tmp 59)], none⟩,
  ⟨(some 61), .append k_api_Kind 24 (.mv 48) (.tmp 60), none⟩,
  ⟨(some 62), .fieldAddr 1 none (.tmp 7), none⟩,
  ⟨none, .storeB 7 1 (.tmp 62) (.mv 61), none⟩] (some [0, 1, 2, 3, 4, 5, 6, 7, 8, 9, 10, 11, 12, 13, 14, 15, 16]) [46, 47, 48, 49, 50, 51, 52, 53, 54, 55, 56, 57, 58, 59, 60, 61, 62])
  .skip))))
  (.region [
  ⟨(some 27), .mov (.tmp 9), none⟩,
  ⟨(some 28), .bin .add (.tmp 27) (.const (.int .i64 1)), none⟩,
  ⟨(some 9), .mov (.mv 28), none⟩] none [27, 28, 46])))
/-- fugue/fugueref13.Made -/
def a_r13_Made : AFun :=
  { nargs := 3, ntmps := 64, res := [.cell 6 (some 7)], gc := false, body :=
  (.seq
  (.region [
  ⟨(some 6), .alloc [.nils, .nils, .nils, .int .i64 0, .int .i64 0, .str [], .nils], none⟩] none [])
  (.seq
  (.region [
  ⟨(some 10), .mov (.tmp 0), none⟩,
  ⟨(some 11), .call n_r12_Type [(.tmp 10)], none⟩,
  ⟨(some 12), .mov (.tmp 1), none⟩,
  ⟨(some 13), .call n_r12_Preds [(.tmp 12), (.const (.int .i64 4))], none⟩,
  ⟨(some 14), .build [.nils, .nils, .nils, .int .i64 0, .int .i64 0, .str [], .nils] [(3, 4, (.tmp 11)), (2, 1, (.tmp 13))], none⟩,
  ⟨(some 7), .alloc [.nils, .nils, .nils, .int .i64 0, .int .i64 0, .str [], .nils], none⟩,
  ⟨none, .store 7 (.tmp 7) (.mv 14), none⟩] none [1, 10, 11, 12, 13, 14])
  (.seq
  (.seq
  (.region [
  ⟨(some 15), .mov (.tmp 2), none⟩,
  ⟨(some 16), .call n_r01_Around [(.tmp 15), (.const (.int .i64 3))], none⟩,
  ⟨(some 17), .bin .eql (.tmp 16) (.const (.int .i64 2)), none⟩] none [15, 16])
  (.cond (.tmp 17)
  (.region [
  ⟨(some 18), .mov (.tmp 0), none⟩,
  ⟨(some 19), .call n_r04_Plain [(.tmp 18)], none⟩,
  ⟨(some 20), .fieldAddr 3 (some 4) (.tmp 7), none⟩,
  ⟨none, .store 4 (.tmp 20) (.mv 19), none⟩] none [0, 17, 18, 19, 20])
  .skip))
  (.seq
  (.region [
  ⟨(some 21), .mov (.tmp 2), none⟩,
  ⟨(some 22), .bin .quo (.tmp 21) (.const (.int .i64 3)), none⟩,
  ⟨(some 23), .call n_r01_Around [(.tmp 22), (.const (.int .i64 6))], none⟩,
  ⟨(some 8), .mov (.mv 23), none⟩] none [0, 17, 21, 22, 23])
  (.seq
  (.seq
  (.region [
  ⟨(some 9), .mov (.const (.int .i64 0)), none⟩] none [])
  (.block 0
  (.loop a_r13_Made_l0)))
  (.seq
  (.region [
  ⟨(some 63), .load (some 7) true (.tmp 7), none⟩,
  ⟨none, .store 7 (.tmp 6) (.mv 63), none⟩] none [2, 7, 8, 9, 26, 63])
  .ret)))))) }
/-- fugue/unify.New -/
def a_unify_New : AFun :=
  { nargs := 0, ntmps := 4, res := [.tmp 0], gc := false, body :=
  (.seq
  (.region [
  ⟨(some 0), .mov (.const (.nilp)), none⟩] none [0])
  (.seq
  (.region [
  ⟨(some 1), .makeMap, none⟩,
  ⟨(some 2), .build [.int .i64 0, .nilmap] [(1, 1, (.tmp 1))], none⟩,
  ⟨(some 3), .gbox t_unify_Subst (.tmp 2), none⟩,
  ⟨(some 0), .mov (.mv 3), none⟩] none [1, 2, 3])
  .ret)) }
/-- fugue/fugueref01.Around -/
def a_r01_Around : AFun :=
  { nargs := 2, ntmps := 13, res := [.tmp 4], gc := false, body :=
  (.seq
  (.region [
  ⟨(some 4), .mov (.const (.int .i64 0)), none⟩] none [4])
  (.seq
  (.seq
  (.region [
  ⟨(some 5), .mov (.tmp 0), none⟩,
  ⟨(some 6), .bin .lss (.tmp 5) (.const (.int .i64 0)), none⟩] none [5])
  (.cond (.tmp 6)
  (.region [
  ⟨(some 7), .mov (.tmp 0), none⟩,
  ⟨(some 8), .bin .add (.tmp 7) (.const (.int .i64 1)), none⟩,
  ⟨(some 9), .un .neg (.tmp 8), none⟩,
  ⟨(some 0), .mov (.mv 9), none⟩] none [6, 7, 8, 9])
  .skip))
  (.seq
  (.region [
  ⟨(some 10), .mov (.mv 0), none⟩,
  ⟨(some 11), .mov (.mv 1), none⟩,
  ⟨(some 12), .bin .rem (.tmp 10) (.tmp 11), none⟩,
  ⟨(some 4), .mov (.mv 12), none⟩] none [0, 1, 6, 10, 11, 12])
  .ret))) }
/-- (*fugue/unify.Subst).Fresh -/
def a_unify_Subst_Fresh : AFun :=
  { nargs := 1, ntmps := 15, res := [.cell 2 (some 4)], gc := false, body :=
  (.seq
  (.region [
  ⟨(some 2), .alloc [.int .i64 0, .int .i64 0, .str [], .nils], none⟩] none [])
  (.seq
  (.region [
  ⟨(some 3), .mov (.tmp 0), none⟩,
  ⟨(some 4), .nilCheck (.tmp 3), none⟩,
  ⟨(some 5), .fieldAddr 0 none (.tmp 4), none⟩,
  ⟨(some 6), .load none false (.tmp 5), none⟩,
  ⟨(some 7), .bin .add (.tmp 6) (.const (.int .i64 1)), none⟩,
  ⟨(some 8), .nilCheck (.tmp 3), none⟩,
  ⟨(some 9), .fieldAddr 0 none (.tmp 8), none⟩,
  ⟨none, .store 1 (.tmp 9) (.mv 7), none⟩] none [3, 4, 5, 6, 7, 8, 9])
  (.seq
  (.region [
  ⟨(some 10), .mov (.mv 0), none⟩,
  ⟨(some 11), .nilCheck (.tmp 10), none⟩,
  ⟨(some 12), .fieldAddr 0 none (.tmp 11), none⟩,
  ⟨(some 13), .load none false (.tmp 12), none⟩,
  ⟨(some 14), .call n_types_Meta [(.tmp 13)], none⟩,
  ⟨none, .store 4 (.tmp 2) (.mv 14), none⟩] none [0, 10, 11, 12, 13, 14])
  .ret))) }
def a_scheme_Fresh_l0 : ACode :=
  (.seq
  (.region [
  ⟨(some 14), .bin .lss (.tmp 13) (.tmp 12), none⟩] none [])
  (.seq
  (.cond (.tmp 14)
  .skip
  (.exit 0))
  (.seq
  (.block 1
  (.region [
  ⟨(some 15), .mov (.mv 7), none⟩,
  ⟨(some 16), .mov (.tmp 0), none⟩,
  ⟨(some 17), .call n_unify_Subst_Fresh [(.tmp 16)], none⟩,
  ⟨(some 18), .buildSlice k_api_Type [(.tmp 17)], none⟩,
  ⟨(some 19), .append k_api_Type 56 (.mv 15) (.tmp 18), none⟩,
  ⟨(some 7), .mov (.mv 19), none⟩] none [14, 15, 16, 17, 18, 19]))
  (.region [
  ⟨(some 20), .bin .add (.tmp 13) (.const (.int .i64 1)), none⟩,
  ⟨(some 13), .mov (.mv 20), none⟩] none [20]))))
/-- fugue/scheme.Fresh -/
def a_scheme_Fresh : AFun :=
  { nargs := 2, ntmps := 33, res := [.tmp 4, .cell 5 (some 4), .tmp 6], gc := false, body :=
  (.seq
  (.region [
  ⟨(some 3), .box (.tmp 1), none⟩,
  ⟨(some 4), .mov (.const (.nils)), none⟩,
  ⟨(some 5), .alloc [.int .i64 0, .int .i64 0, .str [], .nils], none⟩,
  ⟨(some 6), .mov (.const (.nils)), none⟩] none [1, 4, 6])
  (.seq
  (.region [
  ⟨(some 7), .mov (.const (.nils)), none⟩] none [])
  (.seq
  (.seq
  (.region [
  ⟨(some 10), .fieldAddr 0 none (.tmp 3), none⟩,
  ⟨(some 11), .load none false (.tmp 10), none⟩,
  ⟨(some 12), .len (.tmp 11), none⟩,
  ⟨(some 13), .mov (.const (.int .i64 0)), none⟩] none [10, 11])
  (.block 0
  (.loop a_scheme_Fresh_l0)))
  (.seq
  (.region [
  ⟨(some 22), .load (some 7) false (.tmp 3), none⟩,
  ⟨(some 23), .fieldAddr 0 none (.tmp 3), none⟩,
  ⟨(some 24), .load none false (.tmp 23), none⟩,
  ⟨(some 25), .mov (.tmp 7), none⟩,
  ⟨(some 26), .call n_scheme_put [(.tmp 22), (.tmp 24), (.tmp 25)], none⟩,
  ⟨(some 21), .mov (.mv 26), none⟩,
  ⟨(some 27), .extract (.tmp 21) 0, none⟩,
  ⟨(some 28), .extract (.tmp 21) 1, none⟩,
  ⟨(some 9), .alloc [.int .i64 0, .int .i64 0, .str [], .nils], none⟩,
  ⟨(some 8), .mov (.mv 27), none⟩,
  ⟨none, .store 4 (.tmp 9) (.mv 28), none⟩] none [0, 3, 12, 13, 14, 21, 22, 23, 24, 25, 26, 27, 28])
  (.seq
  (.region [
  ⟨(some 29), .mov (.mv 8), none⟩,
  ⟨(some 30), .loadB 9 (some 4) (.tmp 9), none⟩,
  ⟨(some 31), .mov (.mv 7), none⟩,
  ⟨(some 32), .call n_slices_Clone_Type [(.tmp 31)], none⟩,
  ⟨(some 4), .mov (.mv 29), none⟩,
  ⟨none, .storeB 5 4 (.tmp 5) (.mv 30), none⟩,
  ⟨(some 6), .mov (.mv 32), none⟩] (some [0, 1, 2, 3, 4, 5, 6]) [7, 8, 9, 29, 30, 31, 32])
  .ret))))) }
def a_r04_Equal_l0 : ACode :=
  (.seq
  (.seq
  (.region [
  ⟨(some 35), .mov (.tmp 5), none⟩,
  ⟨(some 36), .fieldAddr 3 none (.tmp 2), none⟩,
  ⟨(some 37), .load none false (.tmp 36), none⟩,
  ⟨(some 38), .len (.tmp 37), none⟩,
  ⟨(some 39), .bin .lss (.tmp 35) (.tmp 38), none⟩] none [35, 36, 37, 38])
  (.cond (.tmp 39)
  .skip
  (.exit 0)))
  (.seq
  (.block 1
  (.seq
  (.region [
  ⟨(some 42), .fieldAddr 3 none (.tmp 2), none⟩,
  ⟨(some 43), .loadB 2 none (.tmp 42), none⟩,
  ⟨(some 44), .mov (.tmp 5), none⟩,
  ⟨(some 45), .indexAddr 4 (.tmp 43) (.tmp 44), none⟩,
  ⟨(some 46), .loadE (some 4) (.tmp 45), none⟩,
  ⟨(some 47), .fieldAddr 3 none (.tmp 3), none⟩,
  ⟨(some 48), .loadB 3 none (.tmp 47), none⟩,
  ⟨(some 49), .mov (.tmp 5), none⟩,
  ⟨(some 50), .indexAddr 4 (.tmp 48) (.tmp 49), none⟩,
  ⟨(some 51), .loadE (some 4) (.tmp 50), none⟩,
  ⟨(some 52), .call n_r04_Equal [(.tmp 46), (.tmp 51)], none⟩,
  ⟨(some 6), .mov (.mv 52), none⟩] (some [0, 1, 2, 3, 4, 5, 6, 7, 8, 9, 10, 11]) [39, 42, 43, 44, 45, 46, 47, 48, 49, 50, 51, 52])
  (.seq
  (.region [
  ⟨(some 53), .mov (.tmp 6), none⟩,
  ⟨(some 54), .un .not (.tmp 53), none⟩] none [6, 53])
  (.cond (.tmp 54)
  (.seq
  (.region [
  ⟨(some 4), .mov (.const (.bool false)), none⟩] none [2, 3, 5, 54])
  .ret)
  .skip))))
  (.region [
  ⟨(some 40), .mov (.tmp 5), none⟩,
  ⟨(some 41), .bin .add (.tmp 40) (.const (.int .i64 1)), none⟩,
  ⟨(some 5), .mov (.mv 41), none⟩] none [40, 41, 54])))
/-- fugue/fugueref04.Equal -/
def a_r04_Equal : AFun :=
  { nargs := 2, ntmps := 55, res := [.tmp 4], gc := false, body :=
  (.seq
  (.region [
  ⟨(some 2), .box (.tmp 0), none⟩,
  ⟨(some 3), .box (.tmp 1), none⟩,
  ⟨(some 4), .mov (.const (.bool false)), none⟩] none [0, 1, 4])
  (.seq
  (.seq
  (.region [
  ⟨(some 7), .fieldAddr 0 none (.tmp 2), none⟩,
  ⟨(some 8), .load none false (.tmp 7), none⟩,
  ⟨(some 9), .fieldAddr 0 none (.tmp 3), none⟩,
  ⟨(some 10), .load none false (.tmp 9), none⟩,
  ⟨(some 11), .bin .neq (.tmp 8) (.tmp 10), none⟩,
  ⟨(some 12), .mov (.mv 11), none⟩,
  ⟨(some 13), .fieldAddr 1 none (.tmp 2), (some (12, false))⟩,
  ⟨(some 14), .load none false (.tmp 13), (some (12, false))⟩,
  ⟨(some 15), .fieldAddr 1 none (.tmp 3), (some (12, false))⟩,
  ⟨(some 16), .load none false (.tmp 15), (some (12, false))⟩,
  ⟨(some 17), .bin .neq (.tmp 14) (.tmp 16), (some (12, false))⟩,
  ⟨(some 18), .pick (.tmp 12) (.const (.bool true)) (.tmp 17), none⟩,
  ⟨(some 19), .mov (.mv 18), none⟩,
  ⟨(some 20), .fieldAddr 2 none (.tmp 2), (some (19, false))⟩,
  ⟨(some 21), .load none false (.tmp 20), (some (19, false))⟩,
  ⟨(some 22), .fieldAddr 2 none (.tmp 3), (some (19, false))⟩,
  ⟨(some 23), .load none false (.tmp 22), (some (19, false))⟩,
  ⟨(some 24), .bin .neq (.tmp 21) (.tmp 23), (some (19, false))⟩,
  ⟨(some 25), .pick (.tmp 19) (.const (.bool true)) (.tmp 24), none⟩,
  ⟨(some 26), .mov (.mv 25), none⟩,
  ⟨(some 27), .fieldAddr 3 none (.tmp 2), (some (26, false))⟩,
  ⟨(some 28), .load none false (.tmp 27), (some (26, false))⟩,
  ⟨(some 29), .len (.tmp 28), (some (26, false))⟩,
  ⟨(some 30), .fieldAddr 3 none (.tmp 3), (some (26, false))⟩,
  ⟨(some 31), .load none false (.tmp 30), (some (26, false))⟩,
  ⟨(some 32), .len (.tmp 31), (some (26, false))⟩,
  ⟨(some 33), .bin .neq (.tmp 29) (.tmp 32), (some (26, false))⟩,
  ⟨(some 34), .pick (.tmp 26) (.const (.bool true)) (.tmp 33), none⟩] none [7, 8, 9, 10, 11, 12, 13, 14, 15, 16, 17, 18, 19, 20, 21, 22, 23, 24, 25, 26, 27, 28, 29, 30, 31, 32, 33])
  (.cond (.tmp 34)
  (.seq
  (.region [
  ⟨(some 4), .mov (.const (.bool false)), none⟩] none [2, 3, 34])
  .ret)
  .skip))
  (.seq
  (.seq
  (.region [
  ⟨(some 5), .mov (.const (.int .i64 0)), none⟩] none [34])
  (.block 0
  (.loop a_r04_Equal_l0)))
  (.seq
  (.region [
  ⟨(some 4), .mov (.const (.bool true)), none⟩] none [2, 3, 5, 39])
  .ret)))) }
def a_r12_Same_l0 : ACode :=
  (.seq
  (.seq
  (.region [
  ⟨(some 12), .mov (.tmp 5), none⟩,
  ⟨(some 13), .mov (.tmp 0), none⟩,
  ⟨(some 14), .len (.tmp 13), none⟩,
  ⟨(some 15), .bin .lss (.tmp 12) (.tmp 14), none⟩] none [12, 13, 14])
  (.cond (.tmp 15)
  .skip
  (.exit 0)))
  (.seq
  (.block 1
  (.seq
  (.region [
  ⟨(some 18), .mov (.tmp 0), none⟩,
  ⟨(some 19), .mov (.tmp 5), none⟩,
  ⟨(some 20), .indexAddr 5 (.tmp 18) (.tmp 19), none⟩,
  ⟨(some 21), .loadE (some 5) (.tmp 20), none⟩,
  ⟨(some 22), .mov (.tmp 1), none⟩,
  ⟨(some 23), .mov (.tmp 5), none⟩,
  ⟨(some 24), .indexAddr 5 (.tmp 22) (.tmp 23), none⟩,
  ⟨(some 25), .loadE (some 5) (.tmp 24), none⟩,
  ⟨(some 26), .call n_r12_same [(.tmp 21), (.tmp 25)], none⟩,
  ⟨(some 6), .mov (.mv 26), none⟩] (some [0, 1, 2, 3, 4, 5, 6, 7, 8, 9]) [15, 18, 19, 20, 21, 22, 23, 24, 25, 26])
  (.seq
  (.region [
  ⟨(some 27), .mov (.tmp 6), none⟩,
  ⟨(some 28), .un .not (.tmp 27), none⟩] none [6, 27])
  (.cond (.tmp 28)
  (.seq
  (.region [
  ⟨(some 4), .mov (.const (.bool false)), none⟩] none [0, 1, 5, 28])
  .ret)
  .skip))))
  (.region [
  ⟨(some 16), .mov (.tmp 5), none⟩,
  ⟨(some 17), .bin .add (.tmp 16) (.const (.int .i64 1)), none⟩,
  ⟨(some 5), .mov (.mv 17), none⟩] none [16, 17, 28])))
/-- fugue/fugueref12.Same -/
def a_r12_Same : AFun :=
  { nargs := 2, ntmps := 29, res := [.tmp 4], gc := false, body :=
  (.seq
  (.region [
  ⟨(some 4), .mov (.const (.bool false)), none⟩] none [4])
  (.seq
  (.seq
  (.region [
  ⟨(some 7), .mov (.tmp 0), none⟩,
  ⟨(some 8), .len (.tmp 7), none⟩,
  ⟨(some 9), .mov (.tmp 1), none⟩,
  ⟨(some 10), .len (.tmp 9), none⟩,
  ⟨(some 11), .bin .neq (.tmp 8) (.tmp 10), none⟩] none [7, 8, 9, 10])
  (.cond (.tmp 11)
  (.seq
  (.region [
  ⟨(some 4), .mov (.const (.bool false)), none⟩] none [0, 1, 11])
  .ret)
  .skip))
  (.seq
  (.seq
  (.region [
  ⟨(some 5), .mov (.const (.int .i64 0)), none⟩] none [11])
  (.block 0
  (.loop a_r12_Same_l0)))
  (.seq
  (.region [
  ⟨(some 4), .mov (.const (.bool true)), none⟩] none [0, 1, 5, 15])
  .ret)))) }
def a_r13_Put_l0 : ACode :=
  (.seq
  (.seq
  (.region [
  ⟨(some 9), .mov (.tmp 8), none⟩,
  ⟨(some 10), .mov (.tmp 0), none⟩,
  ⟨(some 11), .len (.tmp 10), none⟩,
  ⟨(some 12), .bin .lss (.tmp 9) (.tmp 11), none⟩] none [9, 10, 11])
  (.cond (.tmp 12)
  .skip
  (.exit 0)))
  (.seq
  (.block 1
  (.region [
  ⟨(some 15), .mov (.mv 7), none⟩,
  ⟨(some 16), .mov (.tmp 0), none⟩,
  ⟨(some 17), .mov (.tmp 8), none⟩,
  ⟨(some 18), .indexAddr 5 (.tmp 16) (.tmp 17), none⟩,
  ⟨(some 19), .fieldAddr 0 none (.tmp 18), none⟩,
  ⟨(some 20), .loadE none (.tmp 19), none⟩,
  ⟨(some 21), .mov (.tmp 0), none⟩,
  ⟨(some 22), .mov (.tmp 8), none⟩,
  ⟨(some 23), .indexAddr 5 (.tmp 21) (.tmp 22), none⟩,
  ⟨(some 24), .fieldAddr 1 (some 4) (.tmp 23), none⟩,
  ⟨(some 25), .loadE (some 4) (.tmp 24), none⟩,
  ⟨(some 26), .mov (.tmp 1), none⟩,
  ⟨(some 27), .mov (.tmp 2), none⟩,
  ⟨(some 28), .call n_r04_Subst [(.tmp 25), (.tmp 26), (.tmp 27)], none⟩,
  ⟨(some 29), .build [.str [], .int .i64 0, .int .i64 0, .str [], .nils] [(0, 1, (.tmp 20)), (1, 4, (.tmp 28))], none⟩,
  ⟨(some 30), .buildSlice k_api_Pred [(.tmp 29)], none⟩,
  ⟨(some 31), .append k_api_Pred 72 (.mv 15) (.tmp 30), none⟩,
  ⟨(some 7), .mov (.mv 31), none⟩] (some [0, 1, 2, 3, 4, 5, 6, 7, 8, 9, 10, 11, 12, 13, 14, 15, 16, 17]) [12, 15, 16, 17, 18, 19, 20, 21, 22, 23, 24, 25, 26, 27, 28, 29, 30, 31]))
  (.region [
  ⟨(some 13), .mov (.tmp 8), none⟩,
  ⟨(some 14), .bin .add (.tmp 13) (.const (.int .i64 1)), none⟩,
  ⟨(some 8), .mov (.mv 14), none⟩] none [13, 14])))
/-- fugue/fugueref13.Put -/
def a_r13_Put : AFun :=
  { nargs := 3, ntmps := 33, res := [.tmp 6], gc := false, body :=
  (.seq
  (.region [
  ⟨(some 6), .mov (.const (.nils)), none⟩] none [6])
  (.seq
  (.region [
  ⟨(some 7), .mov (.const (.nils)), none⟩] none [])
  (.seq
  (.seq
  (.region [
  ⟨(some 8), .mov (.const (.int .i64 0)), none⟩] none [])
  (.block 0
  (.loop a_r13_Put_l0)))
  (.seq
  (.region [
  ⟨(some 32), .mov (.mv 7), none⟩,
  ⟨(some 6), .mov (.mv 32), none⟩] none [0, 1, 2, 7, 8, 12, 32])
  .ret)))) }
def a_r04_Subst_l0 : ACode :=
  (.seq
  (.seq
  (.region [
  ⟨(some 56), .mov (.tmp 12), none⟩,
  ⟨(some 57), .mov (.tmp 1), none⟩,
  ⟨(some 58), .len (.tmp 57), none⟩,
  ⟨(some 59), .bin .lss (.tmp 56) (.tmp 58), none⟩] none [56, 57, 58])
  (.cond (.tmp 59)
  .skip
  (.exit 0)))
  (.seq
  (.block 1
  (.seq
  (.region [
  ⟨(some 62), .mov (.tmp 1), none⟩,
  ⟨(some 63), .mov (.tmp 12), none⟩,
  ⟨(some 64), .indexAddr 1 (.tmp 62) (.tmp 63), none⟩,
  ⟨(some 65), .loadE none (.tmp 64), none⟩,
  ⟨(some 66), .fieldAddr 2 none (.tmp 3), none⟩,
  ⟨(some 67), .loadB 3 none (.tmp 66), none⟩,
  ⟨(some 68), .bin .neq (.tmp 65) (.tmp 67), none⟩,
  ⟨(some 69), .mov (.mv 68), none⟩,
  ⟨(some 70), .mov (.tmp 8), (some (69, true))⟩,
  ⟨(some 71), .mov (.tmp 1), (some (69, true))⟩,
  ⟨(some 72), .mov (.tmp 12), (some (69, true))⟩,
  ⟨(some 73), .indexAddr 1 (.tmp 71) (.tmp 72), (some (69, true))⟩,
  ⟨(some 74), .loadE none (.tmp 73), (some (69, true))⟩,
  ⟨(some 75), .call n_r01_Has [(.tmp 70), (.tmp 74)], (some (69, true))⟩,
  ⟨(some 76), .pick (.tmp 69) (.tmp 75) (.const (.bool false)), none⟩] (some [0, 1, 2, 3, 4, 5, 6, 7, 8, 9, 10, 11, 12, 13, 14]) [59, 62, 63, 64, 65, 66, 67, 68, 69, 70, 71, 72, 73, 74, 75])
  (.cond (.tmp 76)
  (.seq
  (.region [
  ⟨(some 77), .mov (.mv 9), none⟩,
  ⟨(some 78), .mov (.tmp 1), none⟩,
  ⟨(some 79), .mov (.tmp 12), none⟩,
  ⟨(some 80), .indexAddr 1 (.tmp 78) (.tmp 79), none⟩,
  ⟨(some 81), .load none false (.tmp 80), none⟩,
  ⟨(some 82), .buildSlice k_string [(.tmp 81)], none⟩,
  ⟨(some 83), .append k_string 16 (.mv 77) (.tmp 82), none⟩,
  ⟨(some 9), .mov (.mv 83), none⟩] none [76, 77, 78, 79, 80, 81, 82, 83])
  (.seq
  (.region [
  ⟨(some 84), .mov (.mv 10), none⟩,
  ⟨(some 85), .mov (.tmp 2), none⟩,
  ⟨(some 86), .mov (.tmp 12), none⟩,
  ⟨(some 87), .indexAddr 4 (.tmp 85) (.tmp 86), none⟩,
  ⟨(some 88), .load (some 4) false (.tmp 87), none⟩,
  ⟨(some 89), .buildSlice k_api_Type [(.tmp 88)], none⟩,
  ⟨(some 90), .append k_api_Type 56 (.mv 84) (.tmp 89), none⟩,
  ⟨(some 10), .mov (.mv 90), none⟩] none [84, 85, 86, 87, 88, 89, 90])
  (.region [
  ⟨(some 91), .mov (.mv 11), none⟩,
  ⟨(some 92), .mov (.tmp 2), none⟩,
  ⟨(some 93), .mov (.tmp 12), none⟩,
  ⟨(some 94), .indexAddr 4 (.tmp 92) (.tmp 93), none⟩,
  ⟨(some 95), .load (some 4) false (.tmp 94), none⟩,
  ⟨(some 96), .call n_r04_Free [(.tmp 95)], none⟩,
  ⟨(some 97), .append k_string 16 (.mv 91) (.tmp 96), none⟩,
  ⟨(some 11), .mov (.mv 97), none⟩] none [91, 92, 93, 94, 95, 96, 97])))
  .skip)))
  (.region [
  ⟨(some 60), .mov (.tmp 12), none⟩,
  ⟨(some 61), .bin .add (.tmp 60) (.const (.int .i64 1)), none⟩,
  ⟨(some 12), .mov (.mv 61), none⟩] none [60, 61, 76])))
def a_r04_Subst_l1 : ACode :=
  (.seq
  (.seq
  (.region [
  ⟨(some 106), .mov (.tmp 11), none⟩,
  ⟨(some 107), .mov (.tmp 14), none⟩,
  ⟨(some 108), .call n_r01_Letters [(.tmp 107)], none⟩,
  ⟨(some 109), .call n_r01_Has [(.tmp 106), (.tmp 108)], none⟩] none [106, 107, 108])
  (.cond (.tmp 109)
  .skip
  (.exit 2)))
  (.block 3
  (.region [
  ⟨(some 110), .mov (.tmp 14), none⟩,
  ⟨(some 111), .bin .add (.tmp 110) (.const (.int .i64 1)), none⟩,
  ⟨(some 14), .mov (.mv 111), none⟩] none [109, 110, 111])))
/-- fugue/fugueref04.Subst -/
def a_r04_Subst : AFun :=
  { nargs := 3, ntmps := 134, res := [.cell 6 (some 4)], gc := false, body :=
  (.seq
  (.region [
  ⟨(some 3), .box (.tmp 0), none⟩,
  ⟨(some 6), .alloc [.int .i64 0, .int .i64 0, .str [], .nils], none⟩] none [0])
  (.seq
  (.seq
  (.region [
  ⟨(some 15), .fieldAddr 0 none (.tmp 3), none⟩,
  ⟨(some 16), .load none false (.tmp 15), none⟩,
  ⟨(some 17), .bin .eql (.tmp 16) (.const (.int .i64 2)), none⟩] none [15, 16])
  (.cond (.tmp 17)
  (.seq
  (.region [
  ⟨(some 18), .mov (.tmp 1), none⟩,
  ⟨(some 19), .fieldAddr 2 none (.tmp 3), none⟩,
  ⟨(some 20), .load none false (.tmp 19), none⟩,
  ⟨(some 21), .call n_r04_at [(.tmp 18), (.tmp 20)], none⟩,
  ⟨(some 7), .mov (.mv 21), none⟩] none [1, 17, 18, 19, 20, 21])
  (.seq
  (.seq
  (.region [
  ⟨(some 22), .mov (.tmp 7), none⟩,
  ⟨(some 23), .bin .geq (.tmp 22) (.const (.int .i64 0)), none⟩] none [22])
  (.cond (.tmp 23)
  (.seq
  (.region [
  ⟨(some 24), .mov (.mv 2), none⟩,
  ⟨(some 25), .mov (.mv 7), none⟩,
  ⟨(some 26), .indexAddr 4 (.tmp 24) (.tmp 25), none⟩,
  ⟨(some 27), .load (some 4) true (.tmp 26), none⟩,
  ⟨none, .store 4 (.tmp 6) (.mv 27), none⟩] none [2, 3, 7, 23, 24, 25, 26, 27])
  .ret)
  .skip))
  (.seq
  (.region [
  ⟨(some 28), .load (some 4) true (.tmp 3), none⟩,
  ⟨none, .store 4 (.tmp 6) (.mv 28), none⟩] none [2, 3, 7, 23, 28])
  .ret)))
  .skip))
  (.seq
  (.seq
  (.region [
  ⟨(some 29), .fieldAddr 0 none (.tmp 3), none⟩,
  ⟨(some 30), .load none false (.tmp 29), none⟩,
  ⟨(some 31), .bin .eql (.tmp 30) (.const (.int .i64 4)), none⟩] none [17, 29, 30])
  (.cond (.tmp 31)
  (.seq
  (.region [
  ⟨(some 32), .fieldAddr 3 none (.tmp 3), none⟩,
  ⟨(some 33), .loadB 3 none (.tmp 32), none⟩,
  ⟨(some 34), .indexAddr 4 (.tmp 33) (.const (.int .i64 0)), none⟩,
  ⟨(some 35), .loadE (some 4) (.tmp 34), none⟩,
  ⟨(some 36), .mov (.tmp 1), none⟩,
  ⟨(some 37), .mov (.tmp 2), none⟩,
  ⟨(some 39), .fieldAddr 3 none (.tmp 3), none⟩,
  ⟨(some 40), .loadB 3 none (.tmp 39), none⟩,
  ⟨(some 41), .indexAddr 4 (.tmp 40) (.const (.int .i64 1)), none⟩,
  ⟨(some 42), .loadE (some 4) (.tmp 41), none⟩,
  ⟨(some 43), .mov (.tmp 1), none⟩,
  ⟨(some 44), .mov (.tmp 2), none⟩,
  ⟨(some 38), .call n_r04_Subst [(.tmp 35), (.tmp 36), (.tmp 37)], none⟩,
  ⟨(some 45), .call n_r04_Subst [(.tmp 42), (.tmp 43), (.tmp 44)], none⟩,
  ⟨(some 46), .call n_r04_app [(.tmp 38), (.tmp 45)], none⟩,
  ⟨none, .storeB 6 4 (.tmp 6) (.mv 46), none⟩] (some [0, 1, 2, 3, 4, 5, 7, 8, 9, 10, 11, 12, 6, 13, 14, 15]) [1, 2, 3, 31, 32, 33, 34, 35, 36, 37, 38, 39, 40, 41, 42, 43, 44, 45, 46])
  .ret)
  .skip))
  (.seq
  (.seq
  (.region [
  ⟨(some 47), .fieldAddr 0 none (.tmp 3), none⟩,
  ⟨(some 48), .load none false (.tmp 47), none⟩,
  ⟨(some 49), .bin .neq (.tmp 48) (.const (.int .i64 5)), none⟩] none [31, 47, 48])
  (.cond (.tmp 49)
  (.seq
  (.region [
  ⟨(some 50), .load (some 4) true (.tmp 3), none⟩,
  ⟨none, .store 4 (.tmp 6) (.mv 50), none⟩] none [1, 2, 3, 49, 50])
  .ret)
  .skip))
  (.seq
  (.region [
  ⟨(some 51), .fieldAddr 3 none (.tmp 3), none⟩,
  ⟨(some 52), .load none false (.tmp 51), none⟩,
  ⟨(some 53), .indexAddr 4 (.tmp 52) (.const (.int .i64 0)), none⟩,
  ⟨(some 54), .load (some 4) false (.tmp 53), none⟩,
  ⟨(some 55), .call n_r04_Free [(.tmp 54)], none⟩,
  ⟨(some 8), .mov (.mv 55), none⟩] none [49, 51, 52, 53, 54, 55])
  (.seq
  (.region [
  ⟨(some 9), .mov (.const (.nils)), none⟩] none [])
  (.seq
  (.region [
  ⟨(some 10), .mov (.const (.nils)), none⟩] none [])
  (.seq
  (.region [
  ⟨(some 11), .mov (.const (.nils)), none⟩] none [])
  (.seq
  (.seq
  (.region [
  ⟨(some 12), .mov (.const (.int .i64 0)), none⟩] none [])
  (.block 0
  (.loop a_r04_Subst_l0)))
  (.seq
  (.region [
  ⟨(some 98), .fieldAddr 2 none (.tmp 3), none⟩,
  ⟨(some 99), .load none false (.tmp 98), none⟩,
  ⟨(some 13), .mov (.mv 99), none⟩] none [1, 2, 12, 59, 98, 99])
  (.seq
  (.seq
  (.region [
  ⟨(some 100), .mov (.tmp 11), none⟩,
  ⟨(some 101), .mov (.tmp 13), none⟩,
  ⟨(some 102), .call n_r01_Has [(.tmp 100), (.tmp 101)], none⟩] none [100, 101])
  (.cond (.tmp 102)
  (.seq
  (.region [
  ⟨(some 103), .mov (.mv 11), none⟩,
  ⟨(some 104), .mov (.tmp 8), none⟩,
  ⟨(some 105), .append k_string 16 (.mv 103) (.tmp 104), none⟩,
  ⟨(some 11), .mov (.mv 105), none⟩] none [8, 13, 102, 103, 104, 105])
  (.seq
  (.region [
  ⟨(some 14), .mov (.const (.int .i64 0)), none⟩] none [])
  (.seq
  (.block 2
  (.loop a_r04_Subst_l1))
  (.seq
  (.region [
  ⟨(some 112), .mov (.tmp 14), none⟩,
  ⟨(some 113), .call n_r01_Letters [(.tmp 112)], none⟩,
  ⟨(some 13), .mov (.mv 113), none⟩] none [11, 14, 109, 112, 113])
  (.seq
  (.region [
  ⟨(some 114), .mov (.mv 9), none⟩,
  ⟨(some 115), .fieldAddr 2 none (.tmp 3), none⟩,
  ⟨(some 116), .load none false (.tmp 115), none⟩,
  ⟨(some 117), .buildSlice k_string [(.tmp 116)], none⟩,
  ⟨(some 118), .append k_string 16 (.mv 114) (.tmp 117), none⟩,
  ⟨(some 9), .mov (.mv 118), none⟩] none [114, 115, 116, 117, 118])
  (.region [
  ⟨(some 119), .mov (.mv 10), none⟩,
  ⟨(some 120), .mov (.tmp 13), none⟩,
  ⟨(some 121), .build [.int .i64 0, .int .i64 0, .str [], .nils] [(0, 1, (.const (.int .i64 2))), (2, 1, (.tmp 120))], none⟩,
  ⟨(some 122), .buildSlice k_api_Type [(.tmp 121)], none⟩,
  ⟨(some 123), .append k_api_Type 56 (.mv 119) (.tmp 122), none⟩,
  ⟨(some 10), .mov (.mv 123), none⟩] none [119, 120, 121, 122, 123]))))))
  .skip))
  (.seq
  (.region [
  ⟨(some 124), .mov (.mv 13), none⟩,
  ⟨(some 125), .fieldAddr 3 none (.tmp 3), none⟩,
  ⟨(some 126), .load none false (.tmp 125), none⟩,
  ⟨(some 127), .indexAddr 4 (.tmp 126) (.const (.int .i64 0)), none⟩,
  ⟨(some 128), .load (some 4) false (.tmp 127), none⟩,
  ⟨(some 129), .mov (.mv 9), none⟩,
  ⟨(some 130), .mov (.mv 10), none⟩,
  ⟨(some 131), .call n_r04_Subst [(.tmp 128), (.tmp 129), (.tmp 130)], none⟩,
  ⟨(some 132), .buildSlice k_api_Type [(.tmp 131)], none⟩,
  ⟨(some 133), .build [.int .i64 0, .int .i64 0, .str [], .nils] [(0, 1, (.const (.int .i64 5))), (2, 1, (.tmp 124)), (3, 1, (.tmp 132))], none⟩,
  ⟨none, .store 4 (.tmp 6) (.mv 133), none⟩] none [3, 8, 9, 10, 11, 13, 102, 124, 125, 126, 127, 128, 129, 130, 131, 132, 133])
  .ret)))))))))))) }
/-- fugue/fuguelaw13.lives -/
def a_l13_lives : AFun :=
  { nargs := 0, ntmps := 25, res := [.tmp 0], gc := false, body :=
  (.seq
  (.region [
  ⟨(some 0), .mov (.const (.bool false)), none⟩] none [0])
  (.seq
  (.region [
  ⟨(some 2), .buildSlice k_string [(.const (.str [97])), (.const (.str [98]))], none⟩,
  ⟨(some 3), .call n_types_Var [(.const (.str [98]))], none⟩,
  ⟨(some 4), .build [.str [], .int .i64 0, .int .i64 0, .str [], .nils] [(0, 1, (.const (.str [79]))), (1, 4, (.tmp 3))], none⟩,
  ⟨(some 5), .call n_types_Var [(.const (.str [97]))], none⟩,
  ⟨(some 6), .build [.str [], .int .i64 0, .int .i64 0, .str [], .nils] [(0, 1, (.const (.str [69]))), (1, 4, (.tmp 5))], none⟩,
  ⟨(some 7), .buildSlice k_api_Pred [(.tmp 4), (.tmp 6)], none⟩,
  ⟨(some 8), .call n_types_Con [(.const (.str [76]))], none⟩,
  ⟨(some 9), .call n_types_Var [(.const (.str [97]))], none⟩,
  ⟨(some 10), .buildSlice k_api_Type [(.tmp 9)], none⟩,
  ⟨(some 11), .call n_types_App [(.tmp 8), (.tmp 10)], none⟩,
  ⟨(some 12), .call n_types_Var [(.const (.str [98]))], none⟩,
  ⟨(some 13), .buildSlice k_api_Type [(.tmp 12)], none⟩,
  ⟨(some 14), .call n_types_Fun [(.tmp 11), (.tmp 13)], none⟩,
  ⟨(some 15), .build [.nils, .nils, .nils, .int .i64 0, .int .i64 0, .str [], .nils] [(0, 1, (.tmp 2)), (2, 1, (.tmp 7)), (3, 4, (.tmp 14))], none⟩,
  ⟨(some 1), .alloc [.nils, .nils, .nils, .int .i64 0, .int .i64 0, .str [], .nils], none⟩,
  ⟨none, .store 7 (.tmp 1) (.mv 15), none⟩] none [2, 3, 4, 5, 6, 7, 8, 9, 10, 11, 12, 13, 14, 15])
  (.seq
  (.region [
  ⟨(some 16), .load (some 7) false (.tmp 1), none⟩,
  ⟨(some 17), .call n_scheme_Print [(.tmp 16)], none⟩,
  ⟨(some 18), .bin .eql (.tmp 17) (.const (.str [40, 69, 32, 98, 44, 32, 79, 32, 97, 41, 32, 61, 62, 32, 97, 32, 45, 62, 32, 76, 32, 98])), none⟩,
  ⟨(some 19), .mov (.mv 18), none⟩,
  ⟨(some 20), .call n_types_Con [(.const (.str [73, 110, 116]))], (some (19, true))⟩,
  ⟨(some 21), .call n_scheme_Mono [(.tmp 20)], (some (19, true))⟩,
  ⟨(some 22), .call n_scheme_Print [(.tmp 21)], (some (19, true))⟩,
  ⟨(some 23), .bin .eql (.tmp 22) (.const (.str [73, 110, 116])), (some (19, true))⟩,
  ⟨(some 24), .pick (.tmp 19) (.tmp 23) (.const (.bool false)), none⟩,
  ⟨(some 0), .mov (.mv 24), none⟩] none [1, 16, 17, 18, 19, 20, 21, 22, 23, 24])
  .ret))) }
def a_scheme_Print_l0 : ACode :=
  (.seq
  (.region [
  ⟨(some 14), .bin .lss (.tmp 13) (.tmp 12), none⟩] none [])
  (.seq
  (.cond (.tmp 14)
  .skip
  (.exit 0))
  (.seq
  (.block 1
  (.seq
  (.region [
  ⟨(some 15), .indexAddr 5 (.tmp 11) (.tmp 13), none⟩,
  ⟨(some 16), .load (some 5) false (.tmp 15), none⟩,
  ⟨(some 5), .alloc [.str [], .int .i64 0, .int .i64 0, .str [], .nils], none⟩,
  ⟨none, .store 5 (.tmp 5) (.mv 16), none⟩] none [14, 15, 16])
  (.seq
  (.region [
  ⟨(some 17), .fieldAddr 1 (some 4) (.tmp 5), none⟩,
  ⟨(some 18), .load (some 4) false (.tmp 17), none⟩,
  ⟨(some 19), .call n_types_Print [(.tmp 18)], none⟩,
  ⟨(some 6), .mov (.mv 19), none⟩] none [17, 18, 19])
  (.seq
  (.seq
  (.region [
  ⟨(some 20), .fieldAddr 1 (some 4) (.tmp 5), none⟩,
  ⟨(some 21), .fieldAddr 0 none (.tmp 20), none⟩,
  ⟨(some 22), .load none false (.tmp 21), none⟩,
  ⟨(some 23), .bin .eql (.tmp 22) (.const (.int .i64 4)), none⟩] none [20, 21, 22])
  (.cond (.tmp 23)
  (.region [
  ⟨(some 24), .mov (.tmp 6), none⟩,
  ⟨(some 25), .bin .add (.const (.str [40])) (.tmp 24), none⟩,
  ⟨(some 26), .bin .add (.tmp 25) (.const (.str [41])), none⟩,
  ⟨(some 6), .mov (.mv 26), none⟩] none [23, 24, 25, 26])
  .skip))
  (.region [
  ⟨(some 27), .mov (.mv 3), none⟩,
  ⟨(some 28), .fieldAddr 0 none (.tmp 5), none⟩,
  ⟨(some 29), .load none false (.tmp 28), none⟩,
  ⟨(some 30), .bin .add (.tmp 29) (.const (.str [32])), none⟩,
  ⟨(some 31), .mov (.tmp 6), none⟩,
  ⟨(some 32), .bin .add (.tmp 30) (.tmp 31), none⟩,
  ⟨(some 33), .buildSlice k_string [(.tmp 32)], none⟩,
  ⟨(some 34), .append k_string 16 (.mv 27) (.tmp 33), none⟩,
  ⟨(some 3), .mov (.mv 34), none⟩] none [5, 6, 23, 27, 28, 29, 30, 31, 32, 33, 34])))))
  (.region [
  ⟨(some 35), .bin .add (.tmp 13) (.const (.int .i64 1)), none⟩,
  ⟨(some 13), .mov (.mv 35), none⟩] none [35]))))
/-- fugue/scheme.Print -/
def a_scheme_Print : AFun :=
  { nargs := 1, ntmps := 58, res := [.tmp 2], gc := false, body :=
  (.seq
  (.region [
  ⟨(some 1), .box (.tmp 0), none⟩,
  ⟨(some 2), .mov (.const (.str [])), none⟩] none [0, 2])
  (.seq
  (.region [
  ⟨(some 8), .load (some 7) false (.tmp 1), none⟩,
  ⟨(some 9), .call n_scheme_Canon [(.tmp 8)], none⟩,
  ⟨none, .store 7 (.tmp 1) (.mv 9), none⟩] none [8, 9])
  (.seq
  (.region [
  ⟨(some 3), .mov (.const (.nils)), none⟩] none [])
  (.seq
  (.seq
  (.region [
  ⟨(some 10), .fieldAddr 2 none (.tmp 1), none⟩,
  ⟨(some 11), .load none false (.tmp 10), none⟩,
  ⟨(some 12), .len (.tmp 11), none⟩,
  ⟨(some 13), .mov (.const (.int .i64 0)), none⟩] none [10])
  (.block 0
  (.loop a_scheme_Print_l0)))
  (.seq
  (.region [
  ⟨(some 36), .fieldAddr 3 (some 4) (.tmp 1), none⟩,
  ⟨(some 37), .load (some 4) false (.tmp 36), none⟩,
  ⟨(some 38), .call n_types_Print [(.tmp 37)], none⟩,
  ⟨(some 7), .mov (.mv 38), none⟩] none [1, 11, 12, 13, 14, 36, 37, 38])
  (.seq
  (.seq
  (.region [
  ⟨(some 39), .mov (.tmp 3), none⟩,
  ⟨(some 40), .len (.tmp 39), none⟩] none [39])
  (.block 2
  (.seq
  (.region [
  ⟨(some 42), .bin .eql (.tmp 40) (.const (.int .i64 0)), none⟩,
  ⟨(some 41), .mov (.mv 42), none⟩] none [42])
  (.cond (.tmp 41)
  (.seq
  (.region [
  ⟨(some 43), .mov (.mv 7), none⟩,
  ⟨(some 2), .mov (.mv 43), none⟩] none [3, 7, 40, 41, 43])
  .ret)
  (.seq
  (.region [
  ⟨(some 45), .bin .eql (.tmp 40) (.const (.int .i64 1)), none⟩,
  ⟨(some 44), .mov (.mv 45), none⟩] none [40, 41, 45])
  (.cond (.tmp 44)
  (.seq
  (.region [
  ⟨(some 46), .mov (.mv 3), none⟩,
  ⟨(some 47), .indexAddr 1 (.tmp 46) (.const (.int .i64 0)), none⟩,
  ⟨(some 48), .load none false (.tmp 47), none⟩,
  ⟨(some 49), .bin .add (.tmp 48) (.const (.str [32, 61, 62, 32])), none⟩,
  ⟨(some 50), .mov (.mv 7), none⟩,
  ⟨(some 51), .bin .add (.tmp 49) (.tmp 50), none⟩,
  ⟨(some 2), .mov (.mv 51), none⟩] none [3, 7, 44, 46, 47, 48, 49, 50, 51])
  .ret)
  .skip))))))
  (.seq
  (.region [
  ⟨(some 52), .mov (.mv 3), none⟩,
  ⟨(some 53), .call n_strings_Join [(.tmp 52), (.const (.str [44, 32]))], none⟩,
  ⟨(some 54), .bin .add (.const (.str [40])) (.tmp 53), none⟩,
  ⟨(some 55), .bin .add (.tmp 54) (.const (.str [41, 32, 61, 62, 32])), none⟩,
  ⟨(some 56), .mov (.mv 7), none⟩,
  ⟨(some 57), .bin .add (.tmp 55) (.tmp 56), none⟩,
  ⟨(some 2), .mov (.mv 57), none⟩] none [3, 7, 44, 52, 53, 54, 55, 56, 57])
  .ret))))))) }
def a_scheme_Canon_l0 : ACode :=
  (.seq
  (.region [
  ⟨(some 24), .bin .lss (.tmp 23) (.tmp 22), none⟩] none [])
  (.seq
  (.cond (.tmp 24)
  .skip
  (.exit 0))
  (.seq
  (.block 1
  (.seq
  (.region [
  ⟨(some 25), .indexAddr 5 (.tmp 21) (.tmp 23), none⟩,
  ⟨(some 26), .load (some 5) false (.tmp 25), none⟩,
  ⟨(some 5), .alloc [.str [], .int .i64 0, .int .i64 0, .str [], .nils], none⟩,
  ⟨none, .store 5 (.tmp 5) (.mv 26), none⟩] none [24, 25, 26])
  (.region [
  ⟨(some 27), .mov (.tmp 3), none⟩,
  ⟨(some 28), .fieldAddr 1 (some 4) (.tmp 5), none⟩,
  ⟨(some 29), .load (some 4) false (.tmp 28), none⟩,
  ⟨(some 30), .call n_scheme_lettered_meet [(.tmp 27), (.tmp 29)], none⟩] none [5, 27, 28, 29, 30])))
  (.region [
  ⟨(some 31), .bin .add (.tmp 23) (.const (.int .i64 1)), none⟩,
  ⟨(some 23), .mov (.mv 31), none⟩] none [31]))))
def a_scheme_Canon_l1 : ACode :=
  (.seq
  (.region [
  ⟨(some 41), .bin .lss (.tmp 40) (.tmp 39), none⟩] none [])
  (.seq
  (.cond (.tmp 41)
  .skip
  (.exit 2))
  (.seq
  (.block 3
  (.seq
  (.region [
  ⟨(some 42), .mov (.tmp 40), none⟩,
  ⟨(some 43), .indexAddr 1 (.tmp 38) (.tmp 40), none⟩,
  ⟨(some 44), .load none false (.tmp 43), none⟩,
  ⟨(some 8), .mov (.mv 42), none⟩,
  ⟨(some 9), .mov (.mv 44), none⟩] none [41, 42, 43, 44])
  (.seq
  (.region [
  ⟨(some 45), .mov (.mv 7), none⟩,
  ⟨(some 46), .fieldAddr 0 none (.tmp 6), none⟩,
  ⟨(some 47), .load none false (.tmp 46), none⟩,
  ⟨(some 48), .mov (.tmp 8), none⟩,
  ⟨(some 49), .indexAddr 1 (.tmp 47) (.tmp 48), none⟩,
  ⟨(some 50), .load none false (.tmp 49), none⟩,
  ⟨(some 51), .call n_types_Var [(.tmp 50)], none⟩,
  ⟨(some 52), .buildSlice k_api_Type [(.tmp 51)], none⟩,
  ⟨(some 53), .append k_api_Type 56 (.mv 45) (.tmp 52), none⟩,
  ⟨(some 7), .mov (.mv 53), none⟩] none [8, 45, 46, 47, 48, 49, 50, 51, 52, 53])
  (.seq
  (.region [
  ⟨(some 54), .fieldAddr 1 none (.tmp 1), none⟩,
  ⟨(some 55), .load none false (.tmp 54), none⟩,
  ⟨(some 56), .len (.tmp 55), none⟩,
  ⟨(some 57), .fieldAddr 0 none (.tmp 1), none⟩,
  ⟨(some 58), .load none false (.tmp 57), none⟩,
  ⟨(some 59), .len (.tmp 58), none⟩,
  ⟨(some 60), .bin .eql (.tmp 56) (.tmp 59), none⟩] none [54, 55, 56, 57, 58, 59])
  (.cond (.tmp 60)
  (.region [
  ⟨(some 61), .fieldAddr 1 none (.tmp 6), none⟩,
  ⟨(some 62), .loadL none true (.tmp 61), none⟩,
  ⟨(some 63), .fieldAddr 1 none (.tmp 1), none⟩,
  ⟨(some 64), .loadB 1 none (.tmp 63), none⟩,
  ⟨(some 65), .fieldAddr 0 none (.tmp 1), none⟩,
  ⟨(some 66), .loadB 1 none (.tmp 65), none⟩,
  ⟨(some 67), .mov (.tmp 9), none⟩,
  ⟨(some 68), .call n_slices_Index_string [(.tmp 66), (.tmp 67)], none⟩,
  ⟨(some 69), .indexAddr 1 (.tmp 64) (.tmp 68), none⟩,
  ⟨(some 70), .load (some 1) false (.tmp 69), none⟩,
  ⟨(some 71), .call n_scheme_copied [(.tmp 70)], none⟩,
  ⟨(some 72), .buildSlice k_api_Kind [(.tmp 71)], none⟩,
  ⟨(some 73), .append k_api_Kind 24 (.mv 62) (.tmp 72), none⟩,
  ⟨(some 74), .fieldAddr 1 none (.tmp 6), none⟩,
  ⟨none, .storeB 6 1 (.tmp 74) (.mv 73), none⟩] (some [0, 1, 2, 3, 4, 5, 6, 7, 8, 9, 10, 11, 12, 13, 14]) [9, 60, 61, 62, 63, 64, 65, 66, 67, 68, 69, 70, 71, 72, 73, 74])
  .skip)))))
  (.region [
  ⟨(some 75), .bin .add (.tmp 40) (.const (.int .i64 1)), none⟩,
  ⟨(some 40), .mov (.mv 75), none⟩] none [9, 60, 75]))))
/-- fugue/scheme.Canon -/
def a_scheme_Canon : AFun :=
  { nargs := 1, ntmps := 96, res := [.cell 2 (some 7)], gc := false, body :=
  (.seq
  (.region [
  ⟨(some 1), .box (.tmp 0), none⟩,
  ⟨(some 2), .alloc [.nils, .nils, .nils, .int .i64 0, .int .i64 0, .str [], .nils], none⟩] none [0])
  (.seq
  (.region [
  ⟨(some 10), .fieldAddr 0 none (.tmp 1), none⟩,
  ⟨(some 11), .loadB 1 none (.tmp 10), none⟩,
  ⟨(some 12), .loadB 1 (some 7) (.tmp 1), none⟩,
  ⟨(some 13), .call n_scheme_others [(.tmp 12)], none⟩,
  ⟨(some 14), .build [.nils, .nils, .nils, .int .i64 0] [(0, 1, (.tmp 11)), (1, 1, (.tmp 13))], none⟩,
  ⟨(some 15), .gbox t_scheme_lettered (.tmp 14), none⟩,
  ⟨(some 3), .mov (.mv 15), none⟩] (some [0, 1, 2, 3, 4, 5, 6]) [10, 11, 12, 13, 14, 15])
  (.seq
  (.region [
  ⟨(some 16), .mov (.tmp 3), none⟩,
  ⟨(some 17), .fieldAddr 3 (some 4) (.tmp 1), none⟩,
  ⟨(some 18), .load (some 4) false (.tmp 17), none⟩,
  ⟨(some 19), .call n_scheme_lettered_meet [(.tmp 16), (.tmp 18)], none⟩] none [16, 17, 18, 19])
  (.seq
  (.seq
  (.region [
  ⟨(some 20), .fieldAddr 2 none (.tmp 1), none⟩,
  ⟨(some 21), .load none false (.tmp 20), none⟩,
  ⟨(some 22), .len (.tmp 21), none⟩,
  ⟨(some 23), .mov (.const (.int .i64 0)), none⟩] none [20])
  (.block 0
  (.loop a_scheme_Canon_l0)))
  (.seq
  (.region [
  ⟨(some 32), .mov (.tmp 3), none⟩,
  ⟨(some 33), .call n_scheme_lettered_letters [(.tmp 32)], none⟩,
  ⟨(some 34), .build [.nils, .nils, .nils, .int .i64 0, .int .i64 0, .str [], .nils] [(0, 1, (.tmp 33))], none⟩,
  ⟨(some 6), .alloc [.nils, .nils, .nils, .int .i64 0, .int .i64 0, .str [], .nils], none⟩,
  ⟨none, .store 7 (.tmp 6) (.mv 34), none⟩] none [21, 22, 23, 24, 32, 33, 34])
  (.seq
  (.region [
  ⟨(some 7), .mov (.const (.nils)), none⟩] none [])
  (.seq
  (.seq
  (.region [
  ⟨(some 35), .mov (.tmp 3), none⟩,
  ⟨(some 36), .nilCheck (.tmp 35), none⟩,
  ⟨(some 37), .fieldAddr 2 none (.tmp 36), none⟩,
  ⟨(some 38), .load none false (.tmp 37), none⟩,
  ⟨(some 39), .len (.tmp 38), none⟩,
  ⟨(some 40), .mov (.const (.int .i64 0)), none⟩] none [35, 36, 37])
  (.block 2
  (.loop a_scheme_Canon_l1)))
  (.seq
  (.region [
  ⟨(some 77), .loadB 1 (some 7) (.tmp 1), none⟩,
  ⟨(some 78), .mov (.tmp 3), none⟩,
  ⟨(some 79), .nilCheck (.tmp 78), none⟩,
  ⟨(some 80), .fieldAddr 2 none (.tmp 79), none⟩,
  ⟨(some 81), .loadP none (.tmp 80), none⟩,
  ⟨(some 82), .mov (.tmp 7), none⟩,
  ⟨(some 83), .call n_scheme_put [(.tmp 77), (.tmp 81), (.tmp 82)], none⟩,
  ⟨(some 76), .mov (.mv 83), none⟩,
  ⟨(some 84), .extract (.tmp 76) 0, none⟩,
  ⟨(some 85), .extract (.tmp 76) 1, none⟩,
  ⟨(some 86), .fieldAddr 2 none (.tmp 6), none⟩,
  ⟨none, .storeB 6 1 (.tmp 86) (.mv 84), none⟩,
  ⟨(some 87), .fieldAddr 3 (some 4) (.tmp 6), none⟩,
  ⟨none, .storeB 6 4 (.tmp 87) (.mv 85), none⟩] (some [0, 1, 2, 3, 4, 5, 6, 7, 8, 9, 10, 11, 12, 13]) [1, 3, 7, 38, 39, 40, 41, 76, 77, 78, 79, 80, 81, 82, 83, 84, 85, 86, 87])
  (.seq
  (.region [
  ⟨(some 88), .fieldAddr 2 none (.tmp 6), none⟩,
  ⟨(some 89), .load none false (.tmp 88), none⟩,
  ⟨(some 90), .call n_slices_SortStableFunc_Pred [(.tmp 89), (.const (.fn (.func n_scheme_byClass) [] []))], none⟩] none [88, 89, 90])
  (.seq
  (.region [
  ⟨(some 91), .fieldAddr 2 none (.tmp 6), none⟩,
  ⟨(some 92), .load none false (.tmp 91), none⟩,
  ⟨(some 93), .call n_slices_CompactFunc_Pred [(.tmp 92), (.const (.fn (.func n_scheme_Canon_1) [] []))], none⟩,
  ⟨(some 94), .fieldAddr 2 none (.tmp 6), none⟩,
  ⟨none, .store 1 (.tmp 94) (.mv 93), none⟩] none [91, 92, 93, 94])
  (.seq
  (.region [
  ⟨(some 95), .load (some 7) true (.tmp 6), none⟩,
  ⟨none, .store 7 (.tmp 2) (.mv 95), none⟩] none [6, 95])
  .ret))))))))))) }
/-- fugue/scheme.Mono -/
def a_scheme_Mono : AFun :=
  { nargs := 1, ntmps := 6, res := [.cell 2 (some 7)], gc := false, body :=
  (.seq
  (.region [
  ⟨(some 1), .box (.tmp 0), none⟩,
  ⟨(some 2), .alloc [.nils, .nils, .nils, .int .i64 0, .int .i64 0, .str [], .nils], none⟩] none [0])
  (.seq
  (.region [
  ⟨(some 3), .load (some 4) false (.tmp 1), none⟩,
  ⟨(some 4), .call n_types_Subst [(.tmp 3), (.const (.nils)), (.const (.nils))], none⟩,
  ⟨(some 5), .build [.nils, .nils, .nils, .int .i64 0, .int .i64 0, .str [], .nils] [(3, 4, (.tmp 4))], none⟩,
  ⟨none, .store 7 (.tmp 2) (.mv 5), none⟩] none [1, 3, 4, 5])
  .ret)) }
/-- fugue/fugueref12.Type -/
def a_r12_Type : AFun :=
  { nargs := 1, ntmps := 12, res := [.cell 2 (some 4)], gc := false, body :=
  (.seq
  (.region [
  ⟨(some 2), .alloc [.int .i64 0, .int .i64 0, .str [], .nils], none⟩] none [])
  (.seq
  (.region [
  ⟨(some 6), .mov (.tmp 0), none⟩,
  ⟨(some 7), .call n_r01_Ints [(.tmp 6), (.const (.int .i64 12))], none⟩,
  ⟨(some 8), .call n_r12_typ [(.tmp 7), (.const (.int .i64 0))], none⟩,
  ⟨(some 5), .mov (.mv 8), none⟩,
  ⟨(some 9), .extract (.tmp 5) 0, none⟩,
  ⟨(some 10), .extract (.tmp 5) 1, none⟩,
  ⟨(some 3), .alloc [.int .i64 0, .int .i64 0, .str [], .nils], none⟩,
  ⟨none, .store 4 (.tmp 3) (.mv 9), none⟩,
  ⟨(some 4), .mov (.mv 10), none⟩] none [0, 4, 5, 6, 7, 8, 9, 10])
  (.seq
  (.region [
  ⟨(some 11), .load (some 4) true (.tmp 3), none⟩,
  ⟨none, .store 4 (.tmp 2) (.mv 11), none⟩] none [3, 11])
  .ret))) }
def a_r12_Preds_l0 : ACode :=
  (.seq
  (.seq
  (.region [
  ⟨(some 17), .mov (.tmp 0), none⟩,
  ⟨(some 18), .len (.tmp 17), none⟩,
  ⟨(some 19), .bin .gtr (.tmp 18) (.const (.int .i64 0)), none⟩,
  ⟨(some 20), .mov (.mv 19), none⟩,
  ⟨(some 21), .mov (.tmp 7), (some (20, true))⟩,
  ⟨(some 22), .len (.tmp 21), (some (20, true))⟩,
  ⟨(some 23), .mov (.tmp 1), (some (20, true))⟩,
  ⟨(some 24), .bin .lss (.tmp 22) (.tmp 23), (some (20, true))⟩,
  ⟨(some 25), .pick (.tmp 20) (.tmp 24) (.const (.bool false)), none⟩] none [17, 18, 19, 20, 21, 22, 23, 24])
  (.cond (.tmp 25)
  .skip
  (.exit 0)))
  (.block 1
  (.seq
  (.region [
  ⟨(some 26), .mov (.tmp 5), none⟩,
  ⟨(some 27), .mov (.tmp 0), none⟩,
  ⟨(some 28), .call n_r12_pick [(.tmp 27), (.const (.int .i64 0))], none⟩,
  ⟨(some 29), .bin .rem (.tmp 28) (.const (.int .i64 5)), none⟩,
  ⟨(some 30), .indexAddr 1 (.tmp 26) (.tmp 29), none⟩,
  ⟨(some 31), .load none false (.tmp 30), none⟩,
  ⟨(some 8), .mov (.mv 31), none⟩] none [25, 26, 27, 28, 29, 30, 31])
  (.seq
  (.region [
  ⟨(some 33), .mov (.tmp 0), none⟩,
  ⟨(some 34), .slice 1 (.tmp 33) (some (.const (.int .i64 1))) none, none⟩,
  ⟨(some 35), .call n_r12_typ [(.tmp 34), (.const (.int .i64 1))], none⟩,
  ⟨(some 32), .mov (.mv 35), none⟩,
  ⟨(some 36), .extract (.tmp 32) 0, none⟩,
  ⟨(some 37), .extract (.tmp 32) 1, none⟩,
  ⟨(some 9), .alloc [.int .i64 0, .int .i64 0, .str [], .nils], none⟩,
  ⟨none, .store 4 (.tmp 9) (.mv 36), none⟩,
  ⟨(some 10), .mov (.mv 37), none⟩] none [0, 32, 33, 34, 35, 36, 37])
  (.seq
  (.region [
  ⟨(some 38), .mov (.tmp 10), none⟩,
  ⟨(some 0), .mov (.mv 38), none⟩] none [10, 38])
  (.region [
  ⟨(some 39), .mov (.mv 7), none⟩,
  ⟨(some 40), .mov (.tmp 8), none⟩,
  ⟨(some 41), .load (some 4) false (.tmp 9), none⟩,
  ⟨(some 42), .build [.str [], .int .i64 0, .int .i64 0, .str [], .nils] [(0, 1, (.tmp 40)), (1, 4, (.tmp 41))], none⟩,
  ⟨(some 43), .buildSlice k_api_Pred [(.tmp 42)], none⟩,
  ⟨(some 44), .append k_api_Pred 72 (.mv 39) (.tmp 43), none⟩,
  ⟨(some 7), .mov (.mv 44), none⟩] none [8, 9, 39, 40, 41, 42, 43, 44]))))))
/-- fugue/fugueref12.Preds -/
def a_r12_Preds : AFun :=
  { nargs := 2, ntmps := 46, res := [.tmp 4], gc := false, body :=
  (.seq
  (.region [
  ⟨(some 4), .mov (.const (.nils)), none⟩] none [4])
  (.seq
  (.region [
  ⟨(some 12), .call n_r11_Names [], none⟩,
  ⟨(some 11), .mov (.mv 12), none⟩,
  ⟨(some 13), .extract (.tmp 11) 0, none⟩,
  ⟨(some 14), .extract (.tmp 11) 1, none⟩,
  ⟨(some 5), .mov (.mv 13), none⟩,
  ⟨(some 6), .mov (.mv 14), none⟩] none [6, 11, 12, 13, 14])
  (.seq
  (.region [
  ⟨(some 15), .mov (.tmp 0), none⟩,
  ⟨(some 16), .call n_r01_Ints [(.tmp 15), (.const (.int .i64 30))], none⟩,
  ⟨(some 0), .mov (.mv 16), none⟩] none [15, 16])
  (.seq
  (.region [
  ⟨(some 7), .mov (.const (.nils)), none⟩] none [])
  (.seq
  (.block 0
  (.loop a_r12_Preds_l0))
  (.seq
  (.region [
  ⟨(some 45), .mov (.mv 7), none⟩,
  ⟨(some 4), .mov (.mv 45), none⟩] none [0, 1, 5, 7, 25, 45])
  .ret)))))) }
/-- fugue/fugueref04.Plain -/
def a_r04_Plain : AFun :=
  { nargs := 1, ntmps := 12, res := [.cell 2 (some 4)], gc := false, body :=
  (.seq
  (.region [
  ⟨(some 2), .alloc [.int .i64 0, .int .i64 0, .str [], .nils], none⟩] none [])
  (.seq
  (.region [
  ⟨(some 6), .mov (.tmp 0), none⟩,
  ⟨(some 7), .call n_r01_Ints [(.tmp 6), (.const (.int .i64 24))], none⟩,
  ⟨(some 8), .call n_r04_build [(.tmp 7), (.const (.int .i64 0)), (.const (.bool false))], none⟩,
  ⟨(some 5), .mov (.mv 8), none⟩,
  ⟨(some 9), .extract (.tmp 5) 0, none⟩,
  ⟨(some 10), .extract (.tmp 5) 1, none⟩,
  ⟨(some 3), .alloc [.int .i64 0, .int .i64 0, .str [], .nils], none⟩,
  ⟨none, .store 4 (.tmp 3) (.mv 9), none⟩,
  ⟨(some 4), .mov (.mv 10), none⟩] none [0, 4, 5, 6, 7, 8, 9, 10])
  (.seq
  (.region [
  ⟨(some 11), .load (some 4) true (.tmp 3), none⟩,
  ⟨none, .store 4 (.tmp 2) (.mv 11), none⟩] none [3, 11])
  .ret))) }
/-- fugue/fugueref03.Kind -/
def a_r03_Kind : AFun :=
  { nargs := 1, ntmps := 12, res := [.cell 2 (some 1)], gc := false, body :=
  (.seq
  (.region [
  ⟨(some 2), .alloc [.nils], none⟩] none [])
  (.seq
  (.region [
  ⟨(some 6), .mov (.tmp 0), none⟩,
  ⟨(some 7), .call n_r01_Ints [(.tmp 6), (.const (.int .i64 12))], none⟩,
  ⟨(some 8), .call n_r03_Made [(.tmp 7), (.const (.int .i64 0))], none⟩,
  ⟨(some 5), .mov (.mv 8), none⟩,
  ⟨(some 9), .extract (.tmp 5) 0, none⟩,
  ⟨(some 10), .extract (.tmp 5) 1, none⟩,
  ⟨(some 3), .alloc [.nils], none⟩,
  ⟨none, .store 1 (.tmp 3) (.mv 9), none⟩,
  ⟨(some 4), .mov (.mv 10), none⟩] none [0, 4, 5, 6, 7, 8, 9, 10])
  (.seq
  (.region [
  ⟨(some 11), .load (some 1) true (.tmp 3), none⟩,
  ⟨none, .store 1 (.tmp 2) (.mv 11), none⟩] none [3, 11])
  .ret))) }
/-- fugue/types.Meta -/
def a_types_Meta : AFun :=
  { nargs := 1, ntmps := 5, res := [.cell 2 (some 4)], gc := false, body :=
  (.seq
  (.region [
  ⟨(some 2), .alloc [.int .i64 0, .int .i64 0, .str [], .nils], none⟩] none [])
  (.seq
  (.region [
  ⟨(some 3), .mov (.mv 0), none⟩,
  ⟨(some 4), .build [.int .i64 0, .int .i64 0, .str [], .nils] [(0, 1, (.const (.int .i64 1))), (1, 1, (.tmp 3))], none⟩,
  ⟨none, .store 4 (.tmp 2) (.mv 4), none⟩] none [0, 3, 4])
  .ret)) }
def a_scheme_put_l0 : ACode :=
  (.seq
  (.region [
  ⟨(some 15), .bin .lss (.tmp 14) (.tmp 13), none⟩] none [])
  (.seq
  (.cond (.tmp 15)
  .skip
  (.exit 0))
  (.seq
  (.block 1
  (.seq
  (.region [
  ⟨(some 16), .indexAddr 5 (.tmp 12) (.tmp 14), none⟩,
  ⟨(some 17), .load (some 5) false (.tmp 16), none⟩,
  ⟨(some 10), .alloc [.str [], .int .i64 0, .int .i64 0, .str [], .nils], none⟩,
  ⟨none, .store 5 (.tmp 10) (.mv 17), none⟩] none [15, 16, 17])
  (.region [
  ⟨(some 18), .mov (.mv 8), none⟩,
  ⟨(some 19), .fieldAddr 0 none (.tmp 10), none⟩,
  ⟨(some 20), .loadB 10 none (.tmp 19), none⟩,
  ⟨(some 21), .fieldAddr 1 (some 4) (.tmp 10), none⟩,
  ⟨(some 22), .loadB 10 (some 4) (.tmp 21), none⟩,
  ⟨(some 23), .mov (.tmp 1), none⟩,
  ⟨(some 24), .mov (.tmp 2), none⟩,
  ⟨(some 25), .call n_types_Subst [(.tmp 22), (.tmp 23), (.tmp 24)], none⟩,
  ⟨(some 26), .build [.str [], .int .i64 0, .int .i64 0, .str [], .nils] [(0, 1, (.tmp 20)), (1, 4, (.tmp 25))], none⟩,
  ⟨(some 27), .buildSlice k_api_Pred [(.tmp 26)], none⟩,
  ⟨(some 28), .appendA k_api_Pred 72 (.mv 18) (.tmp 27), none⟩,
  ⟨(some 8), .mov (.mv 28), none⟩] (some [0, 1, 2, 3, 4, 5, 6, 7, 8, 9, 10, 11]) [10, 18, 19, 20, 21, 22, 23, 24, 25, 26, 27, 28])))
  (.region [
  ⟨(some 29), .bin .add (.tmp 14) (.const (.int .i64 1)), none⟩,
  ⟨(some 14), .mov (.mv 29), none⟩] none [29]))))
/-- fugue/scheme.put -/
def a_scheme_put : AFun :=
  { nargs := 3, ntmps := 36, res := [.tmp 6, .cell 7 (some 4)], gc := false, body :=
  (.seq
  (.region [
  ⟨(some 3), .box (.tmp 0), none⟩,
  ⟨(some 6), .mov (.const (.nils)), none⟩,
  ⟨(some 7), .alloc [.int .i64 0, .int .i64 0, .str [], .nils], none⟩] none [0, 6])
  (.seq
  (.region [
  ⟨(some 8), .mov (.const (.nils)), none⟩] none [])
  (.seq
  (.seq
  (.region [
  ⟨(some 11), .fieldAddr 2 none (.tmp 3), none⟩,
  ⟨(some 12), .load none false (.tmp 11), none⟩,
  ⟨(some 13), .len (.tmp 12), none⟩,
  ⟨(some 14), .mov (.const (.int .i64 0)), none⟩] none [11])
  (.block 0
  (.loop a_scheme_put_l0)))
  (.seq
  (.region [
  ⟨(some 30), .mov (.mv 8), none⟩,
  ⟨(some 31), .fieldAddr 3 (some 4) (.tmp 3), none⟩,
  ⟨(some 32), .load (some 4) false (.tmp 31), none⟩,
  ⟨(some 33), .mov (.mv 1), none⟩,
  ⟨(some 34), .mov (.mv 2), none⟩,
  ⟨(some 35), .call n_types_Subst [(.tmp 32), (.tmp 33), (.tmp 34)], none⟩,
  ⟨(some 6), .mov (.mv 30), none⟩,
  ⟨none, .store 4 (.tmp 7) (.mv 35), none⟩] none [1, 2, 3, 8, 12, 13, 14, 15, 30, 31, 32, 33, 34, 35])
  .ret)))) }
/-- slices.Clone[[]fugue/api.Type,fugue/api.Type] -/
def a_slices_Clone_Type : AFun :=
  { nargs := 1, ntmps := 8, res := [.tmp 2], gc := false, body :=
  (.seq
  (.region [
  ⟨(some 2), .mov (.const (.nils)), none⟩] none [2])
  (.seq
  (.seq
  (.region [
  ⟨(some 3), .mov (.tmp 0), none⟩,
  ⟨(some 4), .isNilS .eql (.tmp 3), none⟩] none [3])
  (.cond (.tmp 4)
  (.seq
  (.region [
  ⟨(some 2), .mov (.const (.nils)), none⟩] none [0, 4])
  .ret)
  .skip))
  (.seq
  (.region [
  ⟨(some 5), .buildSlice k_api_Type [], none⟩,
  ⟨(some 6), .mov (.mv 0), none⟩,
  ⟨(some 7), .append k_api_Type 56 (.mv 5) (.tmp 6), none⟩,
  ⟨(some 2), .mov (.mv 7), none⟩] none [0, 4, 5, 6, 7])
  .ret))) }
/-- fugue/fugueref12.same -/
def a_r12_same : AFun :=
  { nargs := 2, ntmps := 19, res := [.tmp 4], gc := false, body :=
  (.seq
  (.region [
  ⟨(some 2), .box (.tmp 0), none⟩,
  ⟨(some 3), .box (.tmp 1), none⟩,
  ⟨(some 4), .mov (.const (.bool false)), none⟩] none [0, 1, 4])
  (.seq
  (.region [
  ⟨(some 6), .fieldAddr 1 (some 4) (.tmp 2), none⟩,
  ⟨(some 7), .load (some 4) false (.tmp 6), none⟩,
  ⟨(some 8), .fieldAddr 1 (some 4) (.tmp 3), none⟩,
  ⟨(some 9), .load (some 4) false (.tmp 8), none⟩,
  ⟨(some 10), .call n_r04_Equal [(.tmp 7), (.tmp 9)], none⟩,
  ⟨(some 5), .mov (.mv 10), none⟩] none [6, 7, 8, 9, 10])
  (.seq
  (.region [
  ⟨(some 11), .fieldAddr 0 none (.tmp 2), none⟩,
  ⟨(some 12), .load none false (.tmp 11), none⟩,
  ⟨(some 13), .fieldAddr 0 none (.tmp 3), none⟩,
  ⟨(some 14), .load none false (.tmp 13), none⟩,
  ⟨(some 15), .bin .eql (.tmp 12) (.tmp 14), none⟩,
  ⟨(some 16), .mov (.mv 15), none⟩,
  ⟨(some 17), .mov (.mv 5), (some (16, true))⟩,
  ⟨(some 18), .pick (.tmp 16) (.tmp 17) (.const (.bool false)), none⟩,
  ⟨(some 4), .mov (.mv 18), none⟩] none [2, 3, 5, 11, 12, 13, 14, 15, 16, 17, 18])
  .ret))) }
def a_r04_at_l0 : ACode :=
  (.seq
  (.seq
  (.region [
  ⟨(some 6), .mov (.tmp 5), none⟩,
  ⟨(some 7), .mov (.tmp 0), none⟩,
  ⟨(some 8), .len (.tmp 7), none⟩,
  ⟨(some 9), .bin .lss (.tmp 6) (.tmp 8), none⟩] none [6, 7, 8])
  (.cond (.tmp 9)
  .skip
  (.exit 0)))
  (.seq
  (.block 1
  (.seq
  (.region [
  ⟨(some 12), .mov (.tmp 0), none⟩,
  ⟨(some 13), .mov (.tmp 5), none⟩,
  ⟨(some 14), .indexAddr 1 (.tmp 12) (.tmp 13), none⟩,
  ⟨(some 15), .load none false (.tmp 14), none⟩,
  ⟨(some 16), .mov (.tmp 1), none⟩,
  ⟨(some 17), .bin .eql (.tmp 15) (.tmp 16), none⟩] none [9, 12, 13, 14, 15, 16])
  (.cond (.tmp 17)
  (.seq
  (.region [
  ⟨(some 18), .mov (.mv 5), none⟩,
  ⟨(some 4), .mov (.mv 18), none⟩] none [0, 1, 5, 17, 18])
  .ret)
  .skip)))
  (.region [
  ⟨(some 10), .mov (.tmp 5), none⟩,
  ⟨(some 11), .bin .add (.tmp 10) (.const (.int .i64 1)), none⟩,
  ⟨(some 5), .mov (.mv 11), none⟩] none [10, 11, 17])))
/-- fugue/fugueref04.at -/
def a_r04_at : AFun :=
  { nargs := 2, ntmps := 19, res := [.tmp 4], gc := false, body :=
  (.seq
  (.region [
  ⟨(some 4), .mov (.const (.int .i64 0)), none⟩] none [4])
  (.seq
  (.seq
  (.region [
  ⟨(some 5), .mov (.const (.int .i64 0)), none⟩] none [])
  (.block 0
  (.loop a_r04_at_l0)))
  (.seq
  (.region [
  ⟨(some 4), .mov (.const (.int .i64 (-1))), none⟩] none [0, 1, 5, 9])
  .ret))) }
/-- fugue/fugueref04.app -/
def a_r04_app : AFun :=
  { nargs := 2, ntmps := 9, res := [.cell 4 (some 4)], gc := false, body :=
  (.seq
  (.region [
  ⟨(some 2), .box (.tmp 0), none⟩,
  ⟨(some 3), .box (.tmp 1), none⟩,
  ⟨(some 4), .alloc [.int .i64 0, .int .i64 0, .str [], .nils], none⟩] none [0, 1])
  (.seq
  (.region [
  ⟨(some 5), .load (some 4) false (.tmp 2), none⟩,
  ⟨(some 6), .load (some 4) false (.tmp 3), none⟩,
  ⟨(some 7), .buildSlice k_api_Type [(.tmp 5), (.tmp 6)], none⟩,
  ⟨(some 8), .build [.int .i64 0, .int .i64 0, .str [], .nils] [(0, 1, (.const (.int .i64 4))), (3, 1, (.tmp 7))], none⟩,
  ⟨none, .store 4 (.tmp 4) (.mv 8), none⟩] none [2, 3, 5, 6, 7, 8])
  .ret)) }
/-- fugue/fugueref04.Free -/
def a_r04_Free : AFun :=
  { nargs := 1, ntmps := 5, res := [.tmp 2], gc := false, body :=
  (.seq
  (.region [
  ⟨(some 1), .box (.tmp 0), none⟩,
  ⟨(some 2), .mov (.const (.nils)), none⟩] none [0, 2])
  (.seq
  (.region [
  ⟨(some 3), .load (some 4) false (.tmp 1), none⟩,
  ⟨(some 4), .call n_r04_free [(.tmp 3), (.const (.nils)), (.const (.nils))], none⟩,
  ⟨(some 2), .mov (.mv 4), none⟩] none [1, 3, 4])
  .ret)) }
def a_r01_Has_l0 : ACode :=
  (.seq
  (.seq
  (.region [
  ⟨(some 6), .mov (.tmp 5), none⟩,
  ⟨(some 7), .mov (.tmp 0), none⟩,
  ⟨(some 8), .len (.tmp 7), none⟩,
  ⟨(some 9), .bin .lss (.tmp 6) (.tmp 8), none⟩] none [6, 7, 8])
  (.cond (.tmp 9)
  .skip
  (.exit 0)))
  (.seq
  (.block 1
  (.seq
  (.region [
  ⟨(some 12), .mov (.tmp 0), none⟩,
  ⟨(some 13), .mov (.tmp 5), none⟩,
  ⟨(some 14), .indexAddr 1 (.tmp 12) (.tmp 13), none⟩,
  ⟨(some 15), .load none false (.tmp 14), none⟩,
  ⟨(some 16), .mov (.tmp 1), none⟩,
  ⟨(some 17), .bin .eql (.tmp 15) (.tmp 16), none⟩] none [9, 12, 13, 14, 15, 16])
  (.cond (.tmp 17)
  (.seq
  (.region [
  ⟨(some 4), .mov (.const (.bool true)), none⟩] none [0, 1, 5, 17])
  .ret)
  .skip)))
  (.region [
  ⟨(some 10), .mov (.tmp 5), none⟩,
  ⟨(some 11), .bin .add (.tmp 10) (.const (.int .i64 1)), none⟩,
  ⟨(some 5), .mov (.mv 11), none⟩] none [10, 11, 17])))
/-- fugue/fugueref01.Has -/
def a_r01_Has : AFun :=
  { nargs := 2, ntmps := 18, res := [.tmp 4], gc := false, body :=
  (.seq
  (.region [
  ⟨(some 4), .mov (.const (.bool false)), none⟩] none [4])
  (.seq
  (.seq
  (.region [
  ⟨(some 5), .mov (.const (.int .i64 0)), none⟩] none [])
  (.block 0
  (.loop a_r01_Has_l0)))
  (.seq
  (.region [
  ⟨(some 4), .mov (.const (.bool false)), none⟩] none [0, 1, 5, 9])
  .ret))) }
/-- fugue/fugueref01.Letters -/
def a_r01_Letters : AFun :=
  { nargs := 1, ntmps := 18, res := [.tmp 2], gc := false, body :=
  (.seq
  (.region [
  ⟨(some 2), .mov (.const (.str [])), none⟩] none [2])
  (.seq
  (.region [
  ⟨(some 4), .mov (.tmp 0), none⟩,
  ⟨(some 5), .bin .rem (.tmp 4) (.const (.int .i64 26)), none⟩,
  ⟨(some 6), .bin .add (.const (.int .i64 97)) (.tmp 5), none⟩,
  ⟨(some 7), .toInt .u8 (.tmp 6), none⟩,
  ⟨(some 8), .buildSlice k_uint8 [(.tmp 7)], none⟩,
  ⟨(some 9), .bytesToStr (.tmp 8), none⟩,
  ⟨(some 3), .mov (.mv 9), none⟩] none [4, 5, 6, 7, 8, 9])
  (.seq
  (.seq
  (.region [
  ⟨(some 10), .mov (.tmp 0), none⟩,
  ⟨(some 11), .bin .lss (.tmp 10) (.const (.int .i64 26)), none⟩] none [10])
  (.cond (.tmp 11)
  (.seq
  (.region [
  ⟨(some 12), .mov (.mv 3), none⟩,
  ⟨(some 2), .mov (.mv 12), none⟩] none [0, 3, 11, 12])
  .ret)
  .skip))
  (.seq
  (.region [
  ⟨(some 13), .mov (.mv 3), none⟩,
  ⟨(some 14), .mov (.mv 0), none⟩,
  ⟨(some 15), .bin .quo (.tmp 14) (.const (.int .i64 26)), none⟩,
  ⟨(some 16), .call n_r01_Decimal [(.tmp 15)], none⟩,
  ⟨(some 17), .bin .add (.tmp 13) (.tmp 16), none⟩,
  ⟨(some 2), .mov (.mv 17), none⟩] none [0, 3, 11, 13, 14, 15, 16, 17])
  .ret)))) }
/-- fugue/types.Var -/
def a_types_Var : AFun :=
  { nargs := 1, ntmps := 5, res := [.cell 2 (some 4)], gc := false, body :=
  (.seq
  (.region [
  ⟨(some 2), .alloc [.int .i64 0, .int .i64 0, .str [], .nils], none⟩] none [])
  (.seq
  (.region [
  ⟨(some 3), .mov (.mv 0), none⟩,
  ⟨(some 4), .build [.int .i64 0, .int .i64 0, .str [], .nils] [(0, 1, (.const (.int .i64 2))), (2, 1, (.tmp 3))], none⟩,
  ⟨none, .store 4 (.tmp 2) (.mv 4), none⟩] none [0, 3, 4])
  .ret)) }
def a_types_Fun_l0 : ACode :=
  (.seq
  (.region [
  ⟨(some 12), .bin .lss (.tmp 11) (.tmp 10), none⟩] none [])
  (.seq
  (.cond (.tmp 12)
  .skip
  (.exit 0))
  (.seq
  (.block 1
  (.seq
  (.region [
  ⟨(some 13), .mov (.tmp 11), none⟩,
  ⟨(some 6), .mov (.mv 13), none⟩] none [12, 13])
  (.region [
  ⟨(some 15), .mov (.tmp 1), none⟩,
  ⟨(some 16), .mov (.tmp 1), none⟩,
  ⟨(some 17), .len (.tmp 16), none⟩,
  ⟨(some 18), .bin .sub (.tmp 17) (.const (.int .i64 1)), none⟩,
  ⟨(some 19), .mov (.tmp 6), none⟩,
  ⟨(some 20), .bin .sub (.tmp 18) (.tmp 19), none⟩,
  ⟨(some 21), .indexAddr 4 (.tmp 15) (.tmp 20), none⟩,
  ⟨(some 22), .loadE (some 4) (.tmp 21), none⟩,
  ⟨(some 25), .loadB 5 (some 4) (.tmp 5), none⟩,
  ⟨(some 14), .call n_types_Con [(.const (.str [45, 62]))], none⟩,
  ⟨(some 23), .call n_types_own [(.tmp 22)], none⟩,
  ⟨(some 24), .call n_types_apply [(.tmp 14), (.tmp 23)], none⟩,
  ⟨(some 26), .call n_types_apply [(.tmp 24), (.tmp 25)], none⟩,
  ⟨none, .storeB 5 4 (.tmp 5) (.mv 26), none⟩] (some [1, 2, 3, 4, 5, 6, 7, 8, 11, 0, 9, 10, 12, 13]) [6, 14, 15, 16, 17, 18, 19, 20, 21, 22, 23, 24, 25, 26])))
  (.region [
  ⟨(some 27), .bin .add (.tmp 11) (.const (.int .i64 1)), none⟩,
  ⟨(some 11), .mov (.mv 27), none⟩] none [27]))))
/-- fugue/types.Fun -/
def a_types_Fun : AFun :=
  { nargs := 2, ntmps := 29, res := [.cell 4 (some 4)], gc := false, body :=
  (.seq
  (.region [
  ⟨(some 2), .box (.tmp 0), none⟩,
  ⟨(some 4), .alloc [.int .i64 0, .int .i64 0, .str [], .nils], none⟩] none [0])
  (.seq
  (.region [
  ⟨(some 7), .load (some 4) false (.tmp 2), none⟩,
  ⟨(some 8), .call n_types_own [(.tmp 7)], none⟩,
  ⟨(some 5), .alloc [.int .i64 0, .int .i64 0, .str [], .nils], none⟩,
  ⟨none, .store 4 (.tmp 5) (.mv 8), none⟩] none [2, 7, 8])
  (.seq
  (.seq
  (.region [
  ⟨(some 9), .mov (.tmp 1), none⟩,
  ⟨(some 10), .len (.tmp 9), none⟩,
  ⟨(some 11), .mov (.const (.int .i64 0)), none⟩] none [9])
  (.block 0
  (.loop a_types_Fun_l0)))
  (.seq
  (.region [
  ⟨(some 28), .load (some 4) true (.tmp 5), none⟩,
  ⟨none, .store 4 (.tmp 4) (.mv 28), none⟩] none [1, 5, 10, 11, 12, 28])
  .ret)))) }
end Go.Fu

