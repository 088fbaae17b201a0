/-
  The program's functions as the machine's code (printed by gen2.py).
-/
import Derived.Test.YtkgdpcnobfadaaaDoorFqCode1
set_option linter.unusedSimpArgs false
set_option linter.unusedVariables false
namespace Go.Fu
open Go Go.Mx
def a_scheme_copied_l0 : ACode :=
  (.seq
  (.region [
  ⟨(some 13), .bin .lss (.tmp 12) (.tmp 11), none⟩] none [])
  (.seq
  (.cond (.tmp 13)
  .skip
  (.exit 0))
  (.seq
  (.block 1
  (.seq
  (.region [
  ⟨(some 14), .mov (.tmp 12), none⟩,
  ⟨(some 15), .indexAddr 1 (.tmp 10) (.tmp 12), none⟩,
  ⟨(some 16), .load (some 1) false (.tmp 15), none⟩,
  ⟨(some 4), .alloc [.nils], none⟩,
  ⟨(some 3), .mov (.mv 14), none⟩,
  ⟨none, .store 1 (.tmp 4) (.mv 16), none⟩] none [13, 14, 15, 16])
  (.region [
  ⟨(some 17), .fieldAddr 0 none (.tmp 1), none⟩,
  ⟨(some 18), .loadB 1 none (.tmp 17), none⟩,
  ⟨(some 19), .mov (.tmp 3), none⟩,
  ⟨(some 20), .loadB 4 (some 1) (.tmp 4), none⟩,
  ⟨(some 21), .call n_scheme_copied [(.tmp 20)], none⟩,
  ⟨(some 22), .indexAddr 1 (.tmp 18) (.tmp 19), none⟩,
  ⟨none, .storeP 1 (.tmp 22) (.tmp 21), none⟩] (some [0, 1, 2, 3, 4, 5, 6]) [3, 4, 17, 18, 19, 20, 21, 22])))
  (.region [
  ⟨(some 23), .bin .add (.tmp 12) (.const (.int .i64 1)), none⟩,
  ⟨(some 12), .mov (.mv 23), none⟩] none [23]))))
/-- fugue/scheme.copied -/
def a_scheme_copied : AFun :=
  { nargs := 1, ntmps := 25, res := [.cell 2 (some 1)], gc := false, body :=
  (.seq
  (.region [
  ⟨(some 1), .box (.tmp 0), none⟩,
  ⟨(some 2), .alloc [.nils], none⟩] none [0])
  (.seq
  (.region [
  ⟨(some 5), .fieldAddr 0 none (.tmp 1), none⟩,
  ⟨(some 6), .load none false (.tmp 5), none⟩,
  ⟨(some 7), .call n_slices_Clone_Kind [(.tmp 6)], none⟩,
  ⟨(some 8), .fieldAddr 0 none (.tmp 1), none⟩,
  ⟨none, .store 1 (.tmp 8) (.mv 7), none⟩] none [5, 6, 7, 8])
  (.seq
  (.seq
  (.region [
  ⟨(some 9), .fieldAddr 0 none (.tmp 1), none⟩,
  ⟨(some 10), .load none false (.tmp 9), none⟩,
  ⟨(some 11), .len (.tmp 10), none⟩,
  ⟨(some 12), .mov (.const (.int .i64 0)), none⟩] none [9])
  (.block 0
  (.loop a_scheme_copied_l0)))
  (.seq
  (.region [
  ⟨(some 24), .load (some 1) true (.tmp 1), none⟩,
  ⟨none, .store 1 (.tmp 2) (.mv 24), none⟩] none [1, 10, 11, 12, 13, 24])
  .ret)))) }
def a_scheme_put_l0 : ACode :=
  (.seq
  (.region [
  ⟨(some 15), .bin .lss (.tmp 14) (.tmp 13), none⟩] none [])
  (.seq
  (.cond (.tmp 15)
  .skip
  (.exit 0))
  (.seq
  (.block 1
  (.seq
  (.region [
  ⟨(some 16), .indexAddr 5 (.tmp 12) (.tmp 14), none⟩,
  ⟨(some 17), .load (some 5) false (.tmp 16), none⟩,
  ⟨(some 10), .alloc [.str [], .int .i64 0, .int .i64 0, .str [], .nils], none⟩,
  ⟨none, .store 5 (.tmp 10) (.mv 17), none⟩] none [15, 16, 17])
  (.region [
  ⟨(some 18), .mov (.mv 8), none⟩,
  ⟨(some 19), .fieldAddr 0 none (.tmp 10), none⟩,
  ⟨(some 20), .loadB 10 none (.tmp 19), none⟩,
  ⟨(some 21), .fieldAddr 1 (some 4) (.tmp 10), none⟩,
  ⟨(some 22), .loadB 10 (some 4) (.tmp 21), none⟩,
  ⟨(some 23), .mov (.tmp 1), none⟩,
  ⟨(some 24), .mov (.tmp 2), none⟩,
  ⟨(some 25), .call n_types_Subst [(.tmp 22), (.tmp 23), (.tmp 24)], none⟩,
  ⟨(some 26), .build [.str [], .int .i64 0, .int .i64 0, .str [], .nils] [(0, 1, (.tmp 20)), (1, 4, (.tmp 25))], none⟩,
  ⟨(some 27), .buildSlice k_api_Pred [(.tmp 26)], none⟩,
  ⟨(some 28), .appendA k_api_Pred 72 (.mv 18) (.tmp 27), none⟩,
  ⟨(some 8), .mov (.mv 28), none⟩] (some [0, 1, 2, 3, 4, 5, 6, 7, 8, 9, 10, 11]) [10, 18, 19, 20, 21, 22, 23, 24, 25, 26, 27, 28])))
  (.region [
  ⟨(some 29), .bin .add (.tmp 14) (.const (.int .i64 1)), none⟩,
  ⟨(some 14), .mov (.mv 29), none⟩] none [29]))))
/-- fugue/scheme.put -/
def a_scheme_put : AFun :=
  { nargs := 3, ntmps := 36, res := [.tmp 6, .cell 7 (some 4)], gc := false, body :=
  (.seq
  (.region [
  ⟨(some 3), .box (.tmp 0), none⟩,
  ⟨(some 6), .mov (.const (.nils)), none⟩,
  ⟨(some 7), .alloc [.int .i64 0, .int .i64 0, .str [], .nils], none⟩] none [0, 6])
  (.seq
  (.region [
  ⟨(some 8), .mov (.const (.nils)), none⟩] none [])
  (.seq
  (.seq
  (.region [
  ⟨(some 11), .fieldAddr 2 none (.tmp 3), none⟩,
  ⟨(some 12), .load none false (.tmp 11), none⟩,
  ⟨(some 13), .len (.tmp 12), none⟩,
  ⟨(some 14), .mov (.const (.int .i64 0)), none⟩] none [11])
  (.block 0
  (.loop a_scheme_put_l0)))
  (.seq
  (.region [
  ⟨(some 30), .mov (.mv 8), none⟩,
  ⟨(some 31), .fieldAddr 3 (some 4) (.tmp 3), none⟩,
  ⟨(some 32), .load (some 4) false (.tmp 31), none⟩,
  ⟨(some 33), .mov (.mv 1), none⟩,
  ⟨(some 34), .mov (.mv 2), none⟩,
  ⟨(some 35), .call n_types_Subst [(.tmp 32), (.tmp 33), (.tmp 34)], none⟩,
  ⟨(some 6), .mov (.mv 30), none⟩,
  ⟨none, .store 4 (.tmp 7) (.mv 35), none⟩] none [1, 2, 3, 8, 12, 13, 14, 15, 30, 31, 32, 33, 34, 35])
  .ret)))) }
/-- slices.SortStableFunc[[]fugue/api.Pred,fugue/api.Pred] -/
def a_slices_SortStableFunc_Pred : AFun :=
  { nargs := 2, ntmps := 9, res := [], gc := false, body :=
  (.region [
  ⟨(some 4), .mov (.tmp 0), none⟩,
  ⟨(some 5), .mov (.tmp 0), none⟩,
  ⟨(some 6), .len (.tmp 5), none⟩,
  ⟨(some 7), .mov (.tmp 1), none⟩,
  ⟨(some 8), .call n_slices_stableCmpFunc_Pred [(.tmp 4), (.tmp 6), (.tmp 7)], none⟩] none [0, 1, 4, 5, 6, 7, 8]) }
/-- fugue/scheme.byClass -/
def a_scheme_byClass : AFun :=
  { nargs := 2, ntmps := 19, res := [.tmp 4], gc := false, body :=
  (.seq
  (.region [
  ⟨(some 2), .box (.tmp 0), none⟩,
  ⟨(some 3), .box (.tmp 1), none⟩,
  ⟨(some 4), .mov (.const (.int .i64 0)), none⟩] none [0, 1, 4])
  (.seq
  (.region [
  ⟨(some 5), .fieldAddr 0 none (.tmp 2), none⟩,
  ⟨(some 6), .loadB 2 none (.tmp 5), none⟩,
  ⟨(some 7), .fieldAddr 0 none (.tmp 3), none⟩,
  ⟨(some 8), .loadB 3 none (.tmp 7), none⟩,
  ⟨(some 10), .fieldAddr 1 (some 4) (.tmp 2), none⟩,
  ⟨(some 11), .loadB 2 (some 4) (.tmp 10), none⟩,
  ⟨(some 13), .fieldAddr 1 (some 4) (.tmp 3), none⟩,
  ⟨(some 14), .loadB 3 (some 4) (.tmp 13), none⟩,
  ⟨(some 9), .call n_cmp_Compare_string [(.tmp 6), (.tmp 8)], none⟩,
  ⟨(some 12), .call n_types_Print [(.tmp 11)], none⟩,
  ⟨(some 15), .call n_types_Print [(.tmp 14)], none⟩,
  ⟨(some 16), .call n_cmp_Compare_string [(.tmp 12), (.tmp 15)], none⟩,
  ⟨(some 17), .buildSlice k_int [(.tmp 9), (.tmp 16)], none⟩,
  ⟨(some 18), .call n_cmp_Or_int [(.tmp 17)], none⟩,
  ⟨(some 4), .mov (.mv 18), none⟩] (some [0, 1, 2, 3, 5, 6, 8, 9, 4, 7, 10, 11, 12, 13, 14]) [2, 3, 5, 6, 7, 8, 9, 10, 11, 12, 13, 14, 15, 16, 17, 18])
  .ret)) }
def a_slices_CompactFunc_Pred_l0 : ACode :=
  (.seq
  (.seq
  (.region [
  ⟨(some 32), .mov (.tmp 7), none⟩,
  ⟨(some 33), .mov (.tmp 6), none⟩,
  ⟨(some 34), .len (.tmp 33), none⟩,
  ⟨(some 35), .bin .lss (.tmp 32) (.tmp 34), none⟩] none [32, 33, 34])
  (.cond (.tmp 35)
  .skip
  (.exit 2)))
  (.seq
  (.block 3
  (.seq
  (.region [
  ⟨(some 38), .mov (.tmp 1), none⟩,
  ⟨(some 39), .mov (.tmp 6), none⟩,
  ⟨(some 40), .mov (.tmp 7), none⟩,
  ⟨(some 41), .indexAddr 5 (.tmp 39) (.tmp 40), none⟩,
  ⟨(some 42), .load (some 5) false (.tmp 41), none⟩,
  ⟨(some 43), .mov (.tmp 6), none⟩,
  ⟨(some 44), .mov (.tmp 7), none⟩,
  ⟨(some 45), .bin .sub (.tmp 44) (.const (.int .i64 1)), none⟩,
  ⟨(some 46), .indexAddr 5 (.tmp 43) (.tmp 45), none⟩,
  ⟨(some 47), .load (some 5) false (.tmp 46), none⟩,
  ⟨(some 48), .callv (.tmp 38) [(.tmp 42), (.tmp 47)], none⟩,
  ⟨(some 49), .un .not (.tmp 48), none⟩] (some [0, 1, 2, 3, 4, 5, 6, 7, 8, 9, 10, 11]) [35, 38, 39, 40, 41, 42, 43, 44, 45, 46, 47, 48])
  (.cond (.tmp 49)
  (.seq
  (.region [
  ⟨(some 50), .mov (.tmp 0), none⟩,
  ⟨(some 51), .mov (.tmp 5), none⟩,
  ⟨(some 52), .mov (.tmp 6), none⟩,
  ⟨(some 53), .mov (.tmp 7), none⟩,
  ⟨(some 54), .indexAddr 5 (.tmp 52) (.tmp 53), none⟩,
  ⟨(some 55), .load (some 5) false (.tmp 54), none⟩,
  ⟨(some 56), .indexAddr 5 (.tmp 50) (.tmp 51), none⟩,
  ⟨none, .store 5 (.tmp 56) (.mv 55), none⟩] none [49, 50, 51, 52, 53, 54, 55, 56])
  (.region [
  ⟨(some 57), .mov (.tmp 5), none⟩,
  ⟨(some 58), .bin .add (.tmp 57) (.const (.int .i64 1)), none⟩,
  ⟨(some 5), .mov (.mv 58), none⟩] none [57, 58]))
  .skip)))
  (.region [
  ⟨(some 36), .mov (.tmp 7), none⟩,
  ⟨(some 37), .bin .add (.tmp 36) (.const (.int .i64 1)), none⟩,
  ⟨(some 7), .mov (.mv 37), none⟩] none [36, 37, 49])))
def a_slices_CompactFunc_Pred_l1 : ACode :=
  (.seq
  (.seq
  (.region [
  ⟨(some 12), .mov (.tmp 5), none⟩,
  ⟨(some 13), .mov (.tmp 0), none⟩,
  ⟨(some 14), .len (.tmp 13), none⟩,
  ⟨(some 15), .bin .lss (.tmp 12) (.tmp 14), none⟩] none [12, 13, 14])
  (.cond (.tmp 15)
  .skip
  (.exit 0)))
  (.seq
  (.block 1
  (.seq
  (.region [
  ⟨(some 18), .mov (.tmp 1), none⟩,
  ⟨(some 19), .mov (.tmp 0), none⟩,
  ⟨(some 20), .mov (.tmp 5), none⟩,
  ⟨(some 21), .indexAddr 5 (.tmp 19) (.tmp 20), none⟩,
  ⟨(some 22), .load (some 5) false (.tmp 21), none⟩,
  ⟨(some 23), .mov (.tmp 0), none⟩,
  ⟨(some 24), .mov (.tmp 5), none⟩,
  ⟨(some 25), .bin .sub (.tmp 24) (.const (.int .i64 1)), none⟩,
  ⟨(some 26), .indexAddr 5 (.tmp 23) (.tmp 25), none⟩,
  ⟨(some 27), .load (some 5) false (.tmp 26), none⟩,
  ⟨(some 28), .callv (.tmp 18) [(.tmp 22), (.tmp 27)], none⟩] (some [0, 1, 2, 3, 4, 5, 6, 7, 8, 9, 10]) [15, 18, 19, 20, 21, 22, 23, 24, 25, 26, 27])
  (.cond (.tmp 28)
  (.seq
  (.region [
  ⟨(some 29), .mov (.tmp 0), none⟩,
  ⟨(some 30), .mov (.tmp 5), none⟩,
  ⟨(some 31), .slice 5 (.tmp 29) (some (.tmp 30)) none, none⟩,
  ⟨(some 6), .mov (.mv 31), none⟩] none [28, 29, 30, 31])
  (.seq
  (.seq
  (.region [
  ⟨(some 7), .mov (.const (.int .i64 1)), none⟩] none [])
  (.block 2
  (.loop a_slices_CompactFunc_Pred_l0)))
  (.seq
  (.region [
  ⟨(some 59), .mov (.tmp 0), none⟩,
  ⟨(some 60), .mov (.tmp 5), none⟩,
  ⟨(some 61), .slice 5 (.tmp 59) (some (.tmp 60)) none, none⟩,
  ⟨none, .clearA 5 [.str [], .int .i64 0, .int .i64 0, .str [], .nils] (.tmp 61), none⟩] none [1, 6, 7, 35, 59, 60, 61])
  (.seq
  (.region [
  ⟨(some 62), .mov (.mv 0), none⟩,
  ⟨(some 63), .mov (.mv 5), none⟩,
  ⟨(some 64), .slice 5 (.tmp 62) none (some (.tmp 63)), none⟩,
  ⟨(some 4), .mov (.mv 64), none⟩] none [0, 5, 62, 63, 64])
  .ret))))
  .skip)))
  (.region [
  ⟨(some 16), .mov (.tmp 5), none⟩,
  ⟨(some 17), .bin .add (.tmp 16) (.const (.int .i64 1)), none⟩,
  ⟨(some 5), .mov (.mv 17), none⟩] none [16, 17, 28])))
/-- slices.CompactFunc[[]fugue/api.Pred,fugue/api.Pred] -/
def a_slices_CompactFunc_Pred : AFun :=
  { nargs := 2, ntmps := 66, res := [.tmp 4], gc := false, body :=
  (.seq
  (.region [
  ⟨(some 4), .mov (.const (.nils)), none⟩] none [4])
  (.seq
  (.seq
  (.region [
  ⟨(some 8), .mov (.tmp 0), none⟩,
  ⟨(some 9), .len (.tmp 8), none⟩,
  ⟨(some 10), .bin .lss (.tmp 9) (.const (.int .i64 2)), none⟩] none [8, 9])
  (.cond (.tmp 10)
  (.seq
  (.region [
  ⟨(some 11), .mov (.mv 0), none⟩,
  ⟨(some 4), .mov (.mv 11), none⟩] none [0, 1, 10, 11])
  .ret)
  .skip))
  (.seq
  (.seq
  (.region [
  ⟨(some 5), .mov (.const (.int .i64 1)), none⟩] none [10])
  (.block 0
  (.loop a_slices_CompactFunc_Pred_l1)))
  (.seq
  (.region [
  ⟨(some 65), .mov (.mv 0), none⟩,
  ⟨(some 4), .mov (.mv 65), none⟩] none [0, 1, 5, 15, 65])
  .ret)))) }
/-- fugue/scheme.Canon$1 -/
def a_scheme_Canon_1 : AFun :=
  { nargs := 2, ntmps := 9, res := [.tmp 4], gc := false, body :=
  (.seq
  (.region [
  ⟨(some 2), .box (.tmp 0), none⟩,
  ⟨(some 3), .box (.tmp 1), none⟩,
  ⟨(some 4), .mov (.const (.bool false)), none⟩] none [0, 1, 4])
  (.seq
  (.region [
  ⟨(some 5), .load (some 5) false (.tmp 2), none⟩,
  ⟨(some 6), .load (some 5) false (.tmp 3), none⟩,
  ⟨(some 7), .call n_scheme_byClass [(.tmp 5), (.tmp 6)], none⟩,
  ⟨(some 8), .bin .eql (.tmp 7) (.const (.int .i64 0)), none⟩,
  ⟨(some 4), .mov (.mv 8), none⟩] none [2, 3, 5, 6, 7, 8])
  .ret)) }
/-- fugue/types.print -/
def a_types_print : AFun :=
  { nargs := 2, ntmps := 89, res := [.tmp 4], gc := false, body :=
  (.seq
  (.region [
  ⟨(some 2), .box (.tmp 0), none⟩,
  ⟨(some 4), .mov (.const (.str [])), none⟩] none [0, 4])
  (.seq
  (.region [
  ⟨(some 10), .fieldAddr 2 none (.tmp 2), none⟩,
  ⟨(some 11), .load none false (.tmp 10), none⟩,
  ⟨(some 5), .mov (.mv 11), none⟩,
  ⟨(some 6), .mov (.const (.bool false)), none⟩] none [10, 11])
  (.seq
  (.seq
  (.region [
  ⟨(some 13), .load (some 4) false (.tmp 2), none⟩,
  ⟨(some 14), .call n_types_parts [(.tmp 13)], none⟩,
  ⟨(some 12), .mov (.mv 14), none⟩,
  ⟨(some 15), .extract (.tmp 12) 0, none⟩,
  ⟨(some 16), .extract (.tmp 12) 1, none⟩,
  ⟨(some 17), .extract (.tmp 12) 2, none⟩,
  ⟨(some 7), .alloc [.int .i64 0, .int .i64 0, .str [], .nils], none⟩,
  ⟨(some 8), .alloc [.int .i64 0, .int .i64 0, .str [], .nils], none⟩,
  ⟨none, .store 4 (.tmp 7) (.mv 15), none⟩,
  ⟨none, .store 4 (.tmp 8) (.mv 16), none⟩,
  ⟨(some 9), .mov (.mv 17), none⟩] none [12, 13, 14, 15, 16, 17])
  (.block 0
  (.seq
  (.region [
  ⟨(some 19), .mov (.tmp 9), none⟩,
  ⟨(some 18), .mov (.mv 19), none⟩] none [9, 19])
  (.cond (.tmp 18)
  (.region [
  ⟨(some 20), .loadB 7 (some 4) (.tmp 7), none⟩,
  ⟨(some 23), .loadB 8 (some 4) (.tmp 8), none⟩,
  ⟨(some 24), .fieldAddr 0 none (.tmp 8), none⟩,
  ⟨(some 25), .loadB 8 none (.tmp 24), none⟩,
  ⟨(some 26), .bin .eql (.tmp 25) (.const (.int .i64 5)), none⟩,
  ⟨(some 31), .mov (.tmp 1), none⟩,
  ⟨(some 32), .bin .neq (.tmp 31) (.const (.int .i64 0)), none⟩,
  ⟨(some 21), .call n_types_print [(.tmp 20), (.const (.int .i64 1))], none⟩,
  ⟨(some 22), .bin .add (.tmp 21) (.const (.str [32, 45, 62, 32])), none⟩,
  ⟨(some 27), .call n_types_boolean [(.tmp 26)], none⟩,
  ⟨(some 28), .bin .add (.const (.int .i64 0)) (.tmp 27), none⟩,
  ⟨(some 29), .call n_types_print [(.tmp 23), (.tmp 28)], none⟩,
  ⟨(some 30), .bin .add (.tmp 22) (.tmp 29), none⟩,
  ⟨(some 5), .mov (.mv 30), none⟩,
  ⟨(some 6), .mov (.mv 32), none⟩] (some [0, 3, 4, 5, 6, 11, 12, 1, 2, 7, 8, 9, 10, 13, 14]) [1, 2, 7, 8, 18, 20, 21, 22, 23, 24, 25, 26, 27, 28, 29, 30, 31, 32])
  (.seq
  (.region [
  ⟨(some 34), .fieldAddr 0 none (.tmp 2), none⟩,
  ⟨(some 35), .load none false (.tmp 34), none⟩,
  ⟨(some 36), .bin .eql (.tmp 35) (.const (.int .i64 1)), none⟩,
  ⟨(some 33), .mov (.mv 36), none⟩] none [7, 8, 18, 34, 35, 36])
  (.cond (.tmp 33)
  (.region [
  ⟨(some 37), .fieldAddr 1 none (.tmp 2), none⟩,
  ⟨(some 38), .load none false (.tmp 37), none⟩,
  ⟨(some 39), .call n_strconv_Itoa [(.tmp 38)], none⟩,
  ⟨(some 40), .bin .add (.const (.str [63])) (.tmp 39), none⟩,
  ⟨(some 5), .mov (.mv 40), none⟩] none [1, 2, 33, 37, 38, 39, 40])
  (.seq
  (.region [
  ⟨(some 42), .fieldAddr 0 none (.tmp 2), none⟩,
  ⟨(some 43), .load none false (.tmp 42), none⟩,
  ⟨(some 44), .bin .eql (.tmp 43) (.const (.int .i64 3)), none⟩,
  ⟨(some 45), .mov (.mv 44), none⟩,
  ⟨(some 46), .fieldAddr 2 none (.tmp 2), (some (45, true))⟩,
  ⟨(some 47), .load none false (.tmp 46), (some (45, true))⟩,
  ⟨(some 48), .bin .eql (.tmp 47) (.const (.str [45, 62])), (some (45, true))⟩,
  ⟨(some 49), .pick (.tmp 45) (.tmp 48) (.const (.bool false)), none⟩,
  ⟨(some 41), .mov (.mv 49), none⟩] none [33, 42, 43, 44, 45, 46, 47, 48, 49])
  (.cond (.tmp 41)
  (.region [
  ⟨(some 6), .mov (.const (.bool true)), none⟩] none [1, 2, 41])
  (.seq
  (.region [
  ⟨(some 51), .fieldAddr 0 none (.tmp 2), none⟩,
  ⟨(some 52), .load none false (.tmp 51), none⟩,
  ⟨(some 53), .bin .eql (.tmp 52) (.const (.int .i64 5)), none⟩,
  ⟨(some 50), .mov (.mv 53), none⟩] none [41, 51, 52, 53])
  (.cond (.tmp 50)
  (.region [
  ⟨(some 54), .fieldAddr 2 none (.tmp 2), none⟩,
  ⟨(some 55), .loadB 2 none (.tmp 54), none⟩,
  ⟨(some 56), .bin .add (.const (.str [102, 111, 114, 97, 108, 108, 32])) (.tmp 55), none⟩,
  ⟨(some 57), .bin .add (.tmp 56) (.const (.str [46, 32])), none⟩,
  ⟨(some 58), .fieldAddr 3 none (.tmp 2), none⟩,
  ⟨(some 59), .loadB 2 none (.tmp 58), none⟩,
  ⟨(some 60), .indexAddr 4 (.tmp 59) (.const (.int .i64 0)), none⟩,
  ⟨(some 61), .loadE (some 4) (.tmp 60), none⟩,
  ⟨(some 64), .mov (.tmp 1), none⟩,
  ⟨(some 65), .bin .neq (.tmp 64) (.const (.int .i64 0)), none⟩,
  ⟨(some 62), .call n_types_print [(.tmp 61), (.const (.int .i64 0))], none⟩,
  ⟨(some 63), .bin .add (.tmp 57) (.tmp 62), none⟩,
  ⟨(some 5), .mov (.mv 63), none⟩,
  ⟨(some 6), .mov (.mv 65), none⟩] (some [0, 1, 2, 3, 4, 5, 6, 7, 10, 11, 8, 9, 12, 13]) [1, 2, 50, 54, 55, 56, 57, 58, 59, 60, 61, 62, 63, 64, 65])
  (.seq
  (.region [
  ⟨(some 67), .fieldAddr 0 none (.tmp 2), none⟩,
  ⟨(some 68), .load none false (.tmp 67), none⟩,
  ⟨(some 69), .bin .eql (.tmp 68) (.const (.int .i64 4)), none⟩,
  ⟨(some 66), .mov (.mv 69), none⟩] none [50, 67, 68, 69])
  (.cond (.tmp 66)
  (.region [
  ⟨(some 70), .fieldAddr 3 none (.tmp 2), none⟩,
  ⟨(some 71), .loadB 2 none (.tmp 70), none⟩,
  ⟨(some 72), .indexAddr 4 (.tmp 71) (.const (.int .i64 0)), none⟩,
  ⟨(some 73), .loadE (some 4) (.tmp 72), none⟩,
  ⟨(some 76), .fieldAddr 3 none (.tmp 2), none⟩,
  ⟨(some 77), .loadB 2 none (.tmp 76), none⟩,
  ⟨(some 78), .indexAddr 4 (.tmp 77) (.const (.int .i64 1)), none⟩,
  ⟨(some 79), .loadE (some 4) (.tmp 78), none⟩,
  ⟨(some 82), .mov (.tmp 1), none⟩,
  ⟨(some 83), .bin .eql (.tmp 82) (.const (.int .i64 3)), none⟩,
  ⟨(some 74), .call n_types_print [(.tmp 73), (.const (.int .i64 2))], none⟩,
  ⟨(some 75), .bin .add (.tmp 74) (.const (.str [32])), none⟩,
  ⟨(some 80), .call n_types_print [(.tmp 79), (.const (.int .i64 3))], none⟩,
  ⟨(some 81), .bin .add (.tmp 75) (.tmp 80), none⟩,
  ⟨(some 5), .mov (.mv 81), none⟩,
  ⟨(some 6), .mov (.mv 83), none⟩] (some [0, 1, 2, 3, 6, 7, 8, 9, 12, 13, 4, 5, 10, 11, 14, 15]) [1, 2, 66, 70, 71, 72, 73, 74, 75, 76, 77, 78, 79, 80, 81, 82, 83])
  .skip))))))))))))
  (.seq
  (.seq
  (.region [
  ⟨(some 84), .mov (.tmp 6), none⟩] none [1, 2, 6, 66])
  (.cond (.tmp 84)
  (.seq
  (.region [
  ⟨(some 85), .mov (.mv 5), none⟩,
  ⟨(some 86), .bin .add (.const (.str [40])) (.tmp 85), none⟩,
  ⟨(some 87), .bin .add (.tmp 86) (.const (.str [41])), none⟩,
  ⟨(some 4), .mov (.mv 87), none⟩] none [5, 84, 85, 86, 87])
  .ret)
  .skip))
  (.seq
  (.region [
  ⟨(some 88), .mov (.mv 5), none⟩,
  ⟨(some 4), .mov (.mv 88), none⟩] none [5, 84, 88])
  .ret))))) }
/-- (*strings.Builder).WriteString -/
def a_strings_Builder_WriteString : AFun :=
  { nargs := 2, ntmps := 19, res := [.tmp 4, .tmp 5], gc := false, body :=
  (.seq
  (.region [
  ⟨(some 4), .mov (.const (.int .i64 0)), none⟩,
  ⟨(some 5), .mov (.const (.niliface)), none⟩] none [4, 5])
  (.seq
  (.region [
  ⟨(some 6), .mov (.tmp 0), none⟩,
  ⟨(some 7), .call n_strings_Builder_copyCheck [(.tmp 6)], none⟩] none [6, 7])
  (.seq
  (.region [
  ⟨(some 8), .mov (.tmp 0), none⟩,
  ⟨(some 9), .mov (.tmp 0), none⟩,
  ⟨(some 10), .nilCheck (.tmp 9), none⟩,
  ⟨(some 11), .fieldAddr 1 none (.tmp 10), none⟩,
  ⟨(some 12), .load none true (.tmp 11), none⟩,
  ⟨(some 13), .mov (.tmp 1), none⟩,
  ⟨(some 14), .appendS k_uint8 1 (.mv 12) (.tmp 13), none⟩,
  ⟨(some 15), .nilCheck (.tmp 8), none⟩,
  ⟨(some 16), .fieldAddr 1 none (.tmp 15), none⟩,
  ⟨none, .store 1 (.tmp 16) (.mv 14), none⟩] none [0, 8, 9, 10, 11, 12, 13, 14, 15, 16])
  (.seq
  (.region [
  ⟨(some 17), .mov (.mv 1), none⟩,
  ⟨(some 18), .lenS (.tmp 17), none⟩,
  ⟨(some 4), .mov (.mv 18), none⟩,
  ⟨(some 5), .mov (.const (.niliface)), none⟩] none [1, 17, 18])
  .ret)))) }
/-- fugue/chars.Letters -/
def a_chars_Letters : AFun :=
  { nargs := 1, ntmps := 17, res := [.tmp 2], gc := false, body :=
  (.seq
  (.region [
  ⟨(some 2), .mov (.const (.str [])), none⟩] none [2])
  (.seq
  (.region [
  ⟨(some 4), .mov (.tmp 0), none⟩,
  ⟨(some 5), .bin .rem (.tmp 4) (.const (.int .i64 26)), none⟩,
  ⟨(some 6), .bin .add (.const (.int .i64 97)) (.tmp 5), none⟩,
  ⟨(some 7), .toInt .i32 (.tmp 6), none⟩,
  ⟨(some 8), .runeStr (.tmp 7), none⟩,
  ⟨(some 3), .mov (.mv 8), none⟩] none [4, 5, 6, 7, 8])
  (.seq
  (.seq
  (.region [
  ⟨(some 9), .mov (.tmp 0), none⟩,
  ⟨(some 10), .bin .lss (.tmp 9) (.const (.int .i64 26)), none⟩] none [9])
  (.cond (.tmp 10)
  (.seq
  (.region [
  ⟨(some 11), .mov (.mv 3), none⟩,
  ⟨(some 2), .mov (.mv 11), none⟩] none [0, 3, 10, 11])
  .ret)
  .skip))
  (.seq
  (.region [
  ⟨(some 12), .mov (.mv 3), none⟩,
  ⟨(some 13), .mov (.mv 0), none⟩,
  ⟨(some 14), .bin .quo (.tmp 13) (.const (.int .i64 26)), none⟩,
  ⟨(some 15), .call n_strconv_Itoa [(.tmp 14)], none⟩,
  ⟨(some 16), .bin .add (.tmp 12) (.tmp 15), none⟩,
  ⟨(some 2), .mov (.mv 16), none⟩] none [0, 3, 10, 12, 13, 14, 15, 16])
  .ret)))) }
def a_slices_DeleteFunc_string_l0 : ACode :=
  (.seq
  (.seq
  (.region [
  ⟨(some 16), .mov (.tmp 6), none⟩,
  ⟨(some 17), .mov (.tmp 0), none⟩,
  ⟨(some 18), .len (.tmp 17), none⟩,
  ⟨(some 19), .bin .lss (.tmp 16) (.tmp 18), none⟩] none [16, 17, 18])
  (.cond (.tmp 19)
  .skip
  (.exit 0)))
  (.seq
  (.block 1
  (.seq
  (.region [
  ⟨(some 22), .mov (.tmp 0), none⟩,
  ⟨(some 23), .mov (.tmp 6), none⟩,
  ⟨(some 24), .indexAddr 1 (.tmp 22) (.tmp 23), none⟩,
  ⟨(some 25), .load none false (.tmp 24), none⟩,
  ⟨(some 7), .mov (.mv 25), none⟩] none [19, 22, 23, 24, 25])
  (.seq
  (.region [
  ⟨(some 26), .mov (.tmp 1), none⟩,
  ⟨(some 27), .mov (.tmp 7), none⟩,
  ⟨(some 28), .callv (.tmp 26) [(.tmp 27)], none⟩,
  ⟨(some 29), .un .not (.tmp 28), none⟩] none [26, 27, 28])
  (.cond (.tmp 29)
  (.seq
  (.region [
  ⟨(some 30), .mov (.tmp 0), none⟩,
  ⟨(some 31), .mov (.tmp 5), none⟩,
  ⟨(some 32), .mov (.tmp 7), none⟩,
  ⟨(some 33), .indexAddr 1 (.tmp 30) (.tmp 31), none⟩,
  ⟨none, .store 1 (.tmp 33) (.mv 32), none⟩] none [7, 29, 30, 31, 32, 33])
  (.region [
  ⟨(some 34), .mov (.tmp 5), none⟩,
  ⟨(some 35), .bin .add (.tmp 34) (.const (.int .i64 1)), none⟩,
  ⟨(some 5), .mov (.mv 35), none⟩] none [34, 35]))
  .skip))))
  (.region [
  ⟨(some 20), .mov (.tmp 6), none⟩,
  ⟨(some 21), .bin .add (.tmp 20) (.const (.int .i64 1)), none⟩,
  ⟨(some 6), .mov (.mv 21), none⟩] none [7, 20, 21, 29])))
/-- slices.DeleteFunc[[]string,string] -/
def a_slices_DeleteFunc_string : AFun :=
  { nargs := 2, ntmps := 42, res := [.tmp 4], gc := false, body :=
  (.seq
  (.region [
  ⟨(some 4), .mov (.const (.nils)), none⟩] none [4])
  (.seq
  (.region [
  ⟨(some 8), .mov (.tmp 0), none⟩,
  ⟨(some 9), .mov (.tmp 1), none⟩,
  ⟨(some 10), .call n_slices_IndexFunc_string [(.tmp 8), (.tmp 9)], none⟩,
  ⟨(some 5), .mov (.mv 10), none⟩] none [8, 9, 10])
  (.seq
  (.seq
  (.region [
  ⟨(some 11), .mov (.tmp 5), none⟩,
  ⟨(some 12), .bin .eql (.tmp 11) (.const (.int .i64 (-1))), none⟩] none [11])
  (.cond (.tmp 12)
  (.seq
  (.region [
  ⟨(some 13), .mov (.mv 0), none⟩,
  ⟨(some 4), .mov (.mv 13), none⟩] none [0, 1, 5, 12, 13])
  .ret)
  .skip))
  (.seq
  (.seq
  (.region [
  ⟨(some 14), .mov (.tmp 5), none⟩,
  ⟨(some 15), .bin .add (.tmp 14) (.const (.int .i64 1)), none⟩,
  ⟨(some 6), .mov (.mv 15), none⟩] none [12, 14, 15])
  (.block 0
  (.loop a_slices_DeleteFunc_string_l0)))
  (.seq
  (.region [
  ⟨(some 36), .mov (.tmp 0), none⟩,
  ⟨(some 37), .mov (.tmp 5), none⟩,
  ⟨(some 38), .slice 1 (.tmp 36) (some (.tmp 37)) none, none⟩,
  ⟨none, .clearA 1 [.str []] (.tmp 38), none⟩] none [1, 6, 19, 36, 37, 38])
  (.seq
  (.region [
  ⟨(some 39), .mov (.mv 0), none⟩,
  ⟨(some 40), .mov (.mv 5), none⟩,
  ⟨(some 41), .slice 1 (.tmp 39) none (some (.tmp 40)), none⟩,
  ⟨(some 4), .mov (.mv 41), none⟩] none [0, 5, 39, 40, 41])
  .ret)))))) }
/-- fugue/scheme.others$1 -/
def a_scheme_others_1 : AFun :=
  { nargs := 2, ntmps := 8, res := [.tmp 3], gc := false, body :=
  (.seq
  (.region [
  ⟨(some 3), .mov (.const (.bool false)), none⟩] none [3])
  (.seq
  (.region [
  ⟨(some 4), .fieldAddr 0 none (.tmp 1), none⟩,
  ⟨(some 5), .load none false (.tmp 4), none⟩,
  ⟨(some 6), .mov (.mv 0), none⟩,
  ⟨(some 7), .call n_slices_Contains_string [(.tmp 5), (.tmp 6)], none⟩,
  ⟨(some 3), .mov (.mv 7), none⟩] none [0, 1, 4, 5, 6, 7])
  .ret)) }
def a_scheme_lettered_letters_1_l0 : ACode :=
  (.block 1
  (.seq
  (.region [
  ⟨(some 3), .load none false (.tmp 0), none⟩,
  ⟨(some 4), .nilCheck (.tmp 3), none⟩,
  ⟨(some 5), .fieldAddr 3 none (.tmp 4), none⟩,
  ⟨(some 6), .load none false (.tmp 5), none⟩,
  ⟨(some 7), .call n_chars_Letters [(.tmp 6)], none⟩,
  ⟨(some 2), .mov (.mv 7), none⟩] none [3, 4, 5, 6, 7, 21])
  (.seq
  (.region [
  ⟨(some 8), .load none false (.tmp 0), none⟩,
  ⟨(some 9), .nilCheck (.tmp 8), none⟩,
  ⟨(some 10), .fieldAddr 3 none (.tmp 9), none⟩,
  ⟨(some 11), .load none false (.tmp 10), none⟩,
  ⟨(some 12), .bin .add (.tmp 11) (.const (.int .i64 1)), none⟩,
  ⟨(some 13), .nilCheck (.tmp 8), none⟩,
  ⟨(some 14), .fieldAddr 3 none (.tmp 13), none⟩,
  ⟨none, .store 1 (.tmp 14) (.mv 12), none⟩] none [8, 9, 10, 11, 12, 13, 14])
  (.seq
  (.region [
  ⟨(some 15), .load none false (.tmp 0), none⟩,
  ⟨(some 16), .nilCheck (.tmp 15), none⟩,
  ⟨(some 17), .fieldAddr 1 none (.tmp 16), none⟩,
  ⟨(some 18), .load none false (.tmp 17), none⟩,
  ⟨(some 19), .mov (.tmp 2), none⟩,
  ⟨(some 20), .call n_slices_Contains_string [(.tmp 18), (.tmp 19)], none⟩,
  ⟨(some 21), .un .not (.tmp 20), none⟩] none [15, 16, 17, 18, 19, 20])
  (.cond (.tmp 21)
  (.seq
  (.region [
  ⟨(some 22), .mov (.mv 2), none⟩,
  ⟨(some 1), .mov (.mv 22), none⟩] none [0, 2, 21, 22])
  .ret)
  .skip)))))
/-- (*fugue/scheme.lettered).letters$1 -/
def a_scheme_lettered_letters_1 : AFun :=
  { nargs := 1, ntmps := 23, res := [.tmp 1], gc := false, body :=
  (.seq
  (.region [
  ⟨(some 1), .mov (.const (.str [])), none⟩] none [1])
  (.block 0
  (.loop a_scheme_lettered_letters_1_l0))) }
/-- slices.Clone[[]fugue/api.Kind,fugue/api.Kind] -/
def a_slices_Clone_Kind : AFun :=
  { nargs := 1, ntmps := 8, res := [.tmp 2], gc := false, body :=
  (.seq
  (.region [
  ⟨(some 2), .mov (.const (.nils)), none⟩] none [2])
  (.seq
  (.seq
  (.region [
  ⟨(some 3), .mov (.tmp 0), none⟩,
  ⟨(some 4), .isNilS .eql (.tmp 3), none⟩] none [3])
  (.cond (.tmp 4)
  (.seq
  (.region [
  ⟨(some 2), .mov (.const (.nils)), none⟩] none [0, 4])
  .ret)
  .skip))
  (.seq
  (.region [
  ⟨(some 5), .buildSlice k_api_Kind [], none⟩,
  ⟨(some 6), .mov (.mv 0), none⟩,
  ⟨(some 7), .append k_api_Kind 24 (.mv 5) (.tmp 6), none⟩,
  ⟨(some 2), .mov (.mv 7), none⟩] none [0, 4, 5, 6, 7])
  .ret))) }
def a_slices_stableCmpFunc_Pred_l0 : ACode :=
  (.seq
  (.seq
  (.region [
  ⟨(some 11), .mov (.tmp 8), none⟩,
  ⟨(some 12), .mov (.tmp 1), none⟩,
  ⟨(some 13), .bin .leq (.tmp 11) (.tmp 12), none⟩] none [11, 12])
  (.cond (.tmp 13)
  .skip
  (.exit 0)))
  (.block 1
  (.seq
  (.region [
  ⟨(some 14), .mov (.tmp 0), none⟩,
  ⟨(some 15), .mov (.tmp 7), none⟩,
  ⟨(some 16), .mov (.tmp 8), none⟩,
  ⟨(some 17), .mov (.tmp 2), none⟩,
  ⟨(some 18), .call n_slices_insertionSortCmpFunc_Pred [(.tmp 14), (.tmp 15), (.tmp 16), (.tmp 17)], none⟩] none [7, 13, 14, 15, 16, 17, 18])
  (.seq
  (.region [
  ⟨(some 19), .mov (.tmp 8), none⟩,
  ⟨(some 7), .mov (.mv 19), none⟩] none [19])
  (.region [
  ⟨(some 20), .mov (.tmp 8), none⟩,
  ⟨(some 21), .mov (.tmp 6), none⟩,
  ⟨(some 22), .bin .add (.tmp 20) (.tmp 21), none⟩,
  ⟨(some 8), .mov (.mv 22), none⟩] none [20, 21, 22])))))
def a_slices_stableCmpFunc_Pred_l1 : ACode :=
  (.seq
  (.seq
  (.region [
  ⟨(some 33), .mov (.tmp 8), none⟩,
  ⟨(some 34), .mov (.tmp 1), none⟩,
  ⟨(some 35), .bin .leq (.tmp 33) (.tmp 34), none⟩] none [33, 34])
  (.cond (.tmp 35)
  .skip
  (.exit 4)))
  (.block 5
  (.seq
  (.region [
  ⟨(some 36), .mov (.tmp 0), none⟩,
  ⟨(some 37), .mov (.tmp 7), none⟩,
  ⟨(some 38), .mov (.tmp 7), none⟩,
  ⟨(some 39), .mov (.tmp 6), none⟩,
  ⟨(some 40), .bin .add (.tmp 38) (.tmp 39), none⟩,
  ⟨(some 41), .mov (.tmp 8), none⟩,
  ⟨(some 42), .mov (.tmp 2), none⟩,
  ⟨(some 43), .call n_slices_symMergeCmpFunc_Pred [(.tmp 36), (.tmp 37), (.tmp 40), (.tmp 41), (.tmp 42)], none⟩] none [7, 35, 36, 37, 38, 39, 40, 41, 42, 43])
  (.seq
  (.region [
  ⟨(some 44), .mov (.tmp 8), none⟩,
  ⟨(some 7), .mov (.mv 44), none⟩] none [44])
  (.region [
  ⟨(some 45), .mov (.tmp 8), none⟩,
  ⟨(some 46), .mov (.tmp 6), none⟩,
  ⟨(some 47), .bin .mul (.const (.int .i64 2)) (.tmp 46), none⟩,
  ⟨(some 48), .bin .add (.tmp 45) (.tmp 47), none⟩,
  ⟨(some 8), .mov (.mv 48), none⟩] none [45, 46, 47, 48])))))
def a_slices_stableCmpFunc_Pred_l2 : ACode :=
  (.seq
  (.seq
  (.region [
  ⟨(some 28), .mov (.tmp 6), none⟩,
  ⟨(some 29), .mov (.tmp 1), none⟩,
  ⟨(some 30), .bin .lss (.tmp 28) (.tmp 29), none⟩] none [28, 29])
  (.cond (.tmp 30)
  .skip
  (.exit 2)))
  (.block 3
  (.seq
  (.region [
  ⟨(some 31), .mov (.tmp 6), none⟩,
  ⟨(some 32), .bin .mul (.const (.int .i64 2)) (.tmp 31), none⟩,
  ⟨(some 7), .mov (.const (.int .i64 0)), none⟩,
  ⟨(some 8), .mov (.mv 32), none⟩] none [30, 31, 32])
  (.seq
  (.block 4
  (.loop a_slices_stableCmpFunc_Pred_l1))
  (.seq
  (.seq
  (.region [
  ⟨(some 49), .mov (.tmp 7), none⟩,
  ⟨(some 50), .mov (.tmp 6), none⟩,
  ⟨(some 51), .bin .add (.tmp 49) (.tmp 50), none⟩,
  ⟨(some 9), .mov (.mv 51), none⟩] none [8, 35, 49, 50, 51])
  (.seq
  (.region [
  ⟨(some 52), .mov (.tmp 9), none⟩,
  ⟨(some 53), .mov (.tmp 1), none⟩,
  ⟨(some 54), .bin .lss (.tmp 52) (.tmp 53), none⟩] none [52, 53])
  (.cond (.tmp 54)
  (.region [
  ⟨(some 55), .mov (.tmp 0), none⟩,
  ⟨(some 56), .mov (.tmp 7), none⟩,
  ⟨(some 57), .mov (.tmp 9), none⟩,
  ⟨(some 58), .mov (.tmp 1), none⟩,
  ⟨(some 59), .mov (.tmp 2), none⟩,
  ⟨(some 60), .call n_slices_symMergeCmpFunc_Pred [(.tmp 55), (.tmp 56), (.tmp 57), (.tmp 58), (.tmp 59)], none⟩] none [7, 9, 54, 55, 56, 57, 58, 59, 60])
  .skip)))
  (.region [
  ⟨(some 61), .mov (.tmp 6), none⟩,
  ⟨(some 62), .bin .mul (.tmp 61) (.const (.int .i64 2)), none⟩,
  ⟨(some 6), .mov (.mv 62), none⟩] none [7, 9, 54, 61, 62]))))))
/-- slices.stableCmpFunc[fugue/api.Pred] -/
def a_slices_stableCmpFunc_Pred : AFun :=
  { nargs := 3, ntmps := 63, res := [], gc := false, body :=
  (.seq
  (.region [
  ⟨(some 6), .mov (.const (.int .i64 20)), none⟩] none [])
  (.seq
  (.region [
  ⟨(some 10), .mov (.tmp 6), none⟩,
  ⟨(some 7), .mov (.const (.int .i64 0)), none⟩,
  ⟨(some 8), .mov (.mv 10), none⟩] none [10])
  (.seq
  (.block 0
  (.loop a_slices_stableCmpFunc_Pred_l0))
  (.seq
  (.region [
  ⟨(some 23), .mov (.tmp 0), none⟩,
  ⟨(some 24), .mov (.tmp 7), none⟩,
  ⟨(some 25), .mov (.tmp 1), none⟩,
  ⟨(some 26), .mov (.tmp 2), none⟩,
  ⟨(some 27), .call n_slices_insertionSortCmpFunc_Pred [(.tmp 23), (.tmp 24), (.tmp 25), (.tmp 26)], none⟩] none [7, 8, 13, 23, 24, 25, 26, 27])
  (.block 2
  (.loop a_slices_stableCmpFunc_Pred_l2)))))) }
def a_cmp_Or_int_l0 : ACode :=
  (.seq
  (.region [
  ⟨(some 9), .bin .lss (.tmp 8) (.tmp 7), none⟩] none [])
  (.seq
  (.cond (.tmp 9)
  .skip
  (.exit 0))
  (.seq
  (.block 1
  (.seq
  (.region [
  ⟨(some 10), .indexAddr 1 (.tmp 6) (.tmp 8), none⟩,
  ⟨(some 11), .load none false (.tmp 10), none⟩,
  ⟨(some 5), .mov (.mv 11), none⟩] none [9, 10, 11])
  (.seq
  (.region [
  ⟨(some 12), .mov (.tmp 5), none⟩,
  ⟨(some 13), .mov (.tmp 3), none⟩,
  ⟨(some 14), .bin .neq (.tmp 12) (.tmp 13), none⟩] none [12, 13])
  (.cond (.tmp 14)
  (.seq
  (.region [
  ⟨(some 15), .mov (.mv 5), none⟩,
  ⟨(some 2), .mov (.mv 15), none⟩] none [3, 5, 6, 7, 8, 14, 15])
  .ret)
  .skip))))
  (.region [
  ⟨(some 16), .bin .add (.tmp 8) (.const (.int .i64 1)), none⟩,
  ⟨(some 8), .mov (.mv 16), none⟩] none [5, 14, 16]))))
/-- cmp.Or[int] -/
def a_cmp_Or_int : AFun :=
  { nargs := 1, ntmps := 18, res := [.tmp 2], gc := false, body :=
  (.seq
  (.region [
  ⟨(some 2), .mov (.const (.int .i64 0)), none⟩] none [2])
  (.seq
  (.region [
  ⟨(some 3), .mov (.const (.int .i64 0)), none⟩] none [])
  (.seq
  (.seq
  (.region [
  ⟨(some 6), .mov (.tmp 0), none⟩,
  ⟨(some 7), .len (.tmp 6), none⟩,
  ⟨(some 8), .mov (.const (.int .i64 0)), none⟩] none [0])
  (.block 0
  (.loop a_cmp_Or_int_l0)))
  (.seq
  (.region [
  ⟨(some 17), .mov (.mv 3), none⟩,
  ⟨(some 2), .mov (.mv 17), none⟩] none [3, 6, 7, 8, 9, 17])
  .ret)))) }
/-- cmp.Compare[string] -/
def a_cmp_Compare_string : AFun :=
  { nargs := 2, ntmps := 20, res := [.tmp 4], gc := false, body :=
  (.seq
  (.region [
  ⟨(some 4), .mov (.const (.int .i64 0)), none⟩] none [4])
  (.seq
  (.region [
  ⟨(some 7), .mov (.tmp 0), none⟩,
  ⟨(some 8), .call n_cmp_isNaN_string [(.tmp 7)], none⟩,
  ⟨(some 5), .mov (.mv 8), none⟩] none [7, 8])
  (.seq
  (.region [
  ⟨(some 9), .mov (.tmp 1), none⟩,
  ⟨(some 10), .call n_cmp_isNaN_string [(.tmp 9)], none⟩,
  ⟨(some 6), .mov (.mv 10), none⟩] none [9, 10])
  (.seq
  (.seq
  (.region [
  ⟨(some 11), .mov (.tmp 5), none⟩] none [5])
  (.cond (.tmp 11)
  (.seq
  (.seq
  (.region [
  ⟨(some 12), .mov (.tmp 6), none⟩] none [0, 1, 6, 11])
  (.cond (.tmp 12)
  (.seq
  (.region [
  ⟨(some 4), .mov (.const (.int .i64 0)), none⟩] none [12])
  .ret)
  .skip))
  (.seq
  (.region [
  ⟨(some 4), .mov (.const (.int .i64 (-1))), none⟩] none [12])
  .ret))
  .skip))
  (.seq
  (.seq
  (.region [
  ⟨(some 13), .mov (.tmp 6), none⟩] none [6, 11])
  (.cond (.tmp 13)
  (.seq
  (.region [
  ⟨(some 4), .mov (.const (.int .i64 1)), none⟩] none [0, 1, 13])
  .ret)
  .skip))
  (.seq
  (.seq
  (.region [
  ⟨(some 14), .mov (.tmp 0), none⟩,
  ⟨(some 15), .mov (.tmp 1), none⟩,
  ⟨(some 16), .bin .lss (.tmp 14) (.tmp 15), none⟩] none [13, 14, 15])
  (.cond (.tmp 16)
  (.seq
  (.region [
  ⟨(some 4), .mov (.const (.int .i64 (-1))), none⟩] none [0, 1, 16])
  .ret)
  .skip))
  (.seq
  (.seq
  (.region [
  ⟨(some 17), .mov (.tmp 0), none⟩,
  ⟨(some 18), .mov (.tmp 1), none⟩,
  ⟨(some 19), .bin .gtr (.tmp 17) (.tmp 18), none⟩] none [0, 1, 16, 17, 18])
  (.cond (.tmp 19)
  (.seq
  (.region [
  ⟨(some 4), .mov (.const (.int .i64 1)), none⟩] none [19])
  .ret)
  .skip))
  (.seq
  (.region [
  ⟨(some 4), .mov (.const (.int .i64 0)), none⟩] none [19])
  .ret)))))))) }
/-- fugue/types.parts -/
def a_types_parts : AFun :=
  { nargs := 1, ntmps := 47, res := [.cell 2 (some 4), .cell 3 (some 4), .tmp 4], gc := false, body :=
  (.seq
  (.region [
  ⟨(some 1), .box (.tmp 0), none⟩,
  ⟨(some 2), .alloc [.int .i64 0, .int .i64 0, .str [], .nils], none⟩,
  ⟨(some 3), .alloc [.int .i64 0, .int .i64 0, .str [], .nils], none⟩,
  ⟨(some 4), .mov (.const (.bool false)), none⟩] none [0, 4])
  (.seq
  (.seq
  (.region [
  ⟨(some 6), .fieldAddr 0 none (.tmp 1), none⟩,
  ⟨(some 7), .load none false (.tmp 6), none⟩,
  ⟨(some 8), .bin .neq (.tmp 7) (.const (.int .i64 4)), none⟩,
  ⟨(some 9), .mov (.mv 8), none⟩,
  ⟨(some 10), .fieldAddr 3 none (.tmp 1), (some (9, false))⟩,
  ⟨(some 11), .load none false (.tmp 10), (some (9, false))⟩,
  ⟨(some 12), .indexAddr 4 (.tmp 11) (.const (.int .i64 0)), (some (9, false))⟩,
  ⟨(some 13), .fieldAddr 0 none (.tmp 12), (some (9, false))⟩,
  ⟨(some 14), .load none false (.tmp 13), (some (9, false))⟩,
  ⟨(some 15), .bin .neq (.tmp 14) (.const (.int .i64 4)), (some (9, false))⟩,
  ⟨(some 16), .pick (.tmp 9) (.const (.bool true)) (.tmp 15), none⟩] none [6, 7, 8, 9, 10, 11, 12, 13, 14, 15])
  (.cond (.tmp 16)
  (.seq
  (.region [
  ⟨(some 17), .build [.int .i64 0, .int .i64 0, .str [], .nils] [], none⟩,
  ⟨(some 18), .build [.int .i64 0, .int .i64 0, .str [], .nils] [], none⟩,
  ⟨none, .store 4 (.tmp 2) (.mv 17), none⟩,
  ⟨none, .store 4 (.tmp 3) (.mv 18), none⟩,
  ⟨(some 4), .mov (.const (.bool false)), none⟩] none [1, 16, 17, 18])
  .ret)
  .skip))
  (.seq
  (.region [
  ⟨(some 19), .fieldAddr 3 none (.tmp 1), none⟩,
  ⟨(some 20), .load none false (.tmp 19), none⟩,
  ⟨(some 21), .indexAddr 4 (.tmp 20) (.const (.int .i64 0)), none⟩,
  ⟨(some 22), .fieldAddr 3 none (.tmp 21), none⟩,
  ⟨(some 23), .load none false (.tmp 22), none⟩,
  ⟨(some 24), .indexAddr 4 (.tmp 23) (.const (.int .i64 0)), none⟩,
  ⟨(some 25), .load (some 4) false (.tmp 24), none⟩,
  ⟨(some 5), .alloc [.int .i64 0, .int .i64 0, .str [], .nils], none⟩,
  ⟨none, .store 4 (.tmp 5) (.mv 25), none⟩] none [16, 19, 20, 21, 22, 23, 24, 25])
  (.seq
  (.seq
  (.region [
  ⟨(some 26), .fieldAddr 0 none (.tmp 5), none⟩,
  ⟨(some 27), .load none false (.tmp 26), none⟩,
  ⟨(some 28), .bin .neq (.tmp 27) (.const (.int .i64 3)), none⟩,
  ⟨(some 29), .mov (.mv 28), none⟩,
  ⟨(some 30), .fieldAddr 2 none (.tmp 5), (some (29, false))⟩,
  ⟨(some 31), .load none false (.tmp 30), (some (29, false))⟩,
  ⟨(some 32), .bin .neq (.tmp 31) (.const (.str [45, 62])), (some (29, false))⟩,
  ⟨(some 33), .pick (.tmp 29) (.const (.bool true)) (.tmp 32), none⟩] none [5, 26, 27, 28, 29, 30, 31, 32])
  (.cond (.tmp 33)
  (.seq
  (.region [
  ⟨(some 34), .build [.int .i64 0, .int .i64 0, .str [], .nils] [], none⟩,
  ⟨(some 35), .build [.int .i64 0, .int .i64 0, .str [], .nils] [], none⟩,
  ⟨none, .store 4 (.tmp 2) (.mv 34), none⟩,
  ⟨none, .store 4 (.tmp 3) (.mv 35), none⟩,
  ⟨(some 4), .mov (.const (.bool false)), none⟩] none [1, 33, 34, 35])
  .ret)
  .skip))
  (.seq
  (.region [
  ⟨(some 36), .fieldAddr 3 none (.tmp 1), none⟩,
  ⟨(some 37), .loadB 1 none (.tmp 36), none⟩,
  ⟨(some 38), .indexAddr 4 (.tmp 37) (.const (.int .i64 0)), none⟩,
  ⟨(some 39), .fieldAddr 3 none (.tmp 38), none⟩,
  ⟨(some 40), .loadE none (.tmp 39), none⟩,
  ⟨(some 41), .indexAddr 4 (.tmp 40) (.const (.int .i64 1)), none⟩,
  ⟨(some 42), .loadE (some 4) (.tmp 41), none⟩,
  ⟨(some 43), .fieldAddr 3 none (.tmp 1), none⟩,
  ⟨(some 44), .loadB 1 none (.tmp 43), none⟩,
  ⟨(some 45), .indexAddr 4 (.tmp 44) (.const (.int .i64 1)), none⟩,
  ⟨(some 46), .loadE (some 4) (.tmp 45), none⟩,
  ⟨none, .storeB 2 4 (.tmp 2) (.mv 42), none⟩,
  ⟨none, .storeB 3 4 (.tmp 3) (.mv 46), none⟩,
  ⟨(some 4), .mov (.const (.bool true)), none⟩] (some [0, 1, 2, 3, 4, 5, 6, 7, 8, 9, 10, 11, 12, 13]) [1, 33, 36, 37, 38, 39, 40, 41, 42, 43, 44, 45, 46])
  .ret))))) }
/-- fugue/types.boolean -/
def a_types_boolean : AFun :=
  { nargs := 1, ntmps := 4, res := [.tmp 2], gc := false, body :=
  (.seq
  (.region [
  ⟨(some 2), .mov (.const (.int .i64 0)), none⟩] none [2])
  (.seq
  (.seq
  (.region [
  ⟨(some 3), .mov (.tmp 0), none⟩] none [0])
  (.cond (.tmp 3)
  (.seq
  (.region [
  ⟨(some 2), .mov (.const (.int .i64 1)), none⟩] none [3])
  .ret)
  .skip))
  (.seq
  (.region [
  ⟨(some 2), .mov (.const (.int .i64 0)), none⟩] none [3])
  .ret))) }
def a_slices_IndexFunc_string_l0 : ACode :=
  (.seq
  (.region [
  ⟨(some 9), .bin .lss (.tmp 8) (.tmp 7), none⟩] none [])
  (.seq
  (.cond (.tmp 9)
  .skip
  (.exit 0))
  (.seq
  (.block 1
  (.seq
  (.region [
  ⟨(some 10), .mov (.tmp 8), none⟩,
  ⟨(some 5), .mov (.mv 10), none⟩] none [9, 10])
  (.seq
  (.region [
  ⟨(some 11), .mov (.tmp 1), none⟩,
  ⟨(some 12), .mov (.tmp 0), none⟩,
  ⟨(some 13), .mov (.tmp 5), none⟩,
  ⟨(some 14), .indexAddr 1 (.tmp 12) (.tmp 13), none⟩,
  ⟨(some 15), .load none false (.tmp 14), none⟩,
  ⟨(some 16), .callv (.tmp 11) [(.tmp 15)], none⟩] none [11, 12, 13, 14, 15])
  (.cond (.tmp 16)
  (.seq
  (.region [
  ⟨(some 17), .mov (.mv 5), none⟩,
  ⟨(some 4), .mov (.mv 17), none⟩] none [0, 1, 5, 7, 8, 16, 17])
  .ret)
  .skip))))
  (.region [
  ⟨(some 18), .bin .add (.tmp 8) (.const (.int .i64 1)), none⟩,
  ⟨(some 8), .mov (.mv 18), none⟩] none [5, 16, 18]))))
/-- slices.IndexFunc[[]string,string] -/
def a_slices_IndexFunc_string : AFun :=
  { nargs := 2, ntmps := 19, res := [.tmp 4], gc := false, body :=
  (.seq
  (.region [
  ⟨(some 4), .mov (.const (.int .i64 0)), none⟩] none [4])
  (.seq
  (.seq
  (.region [
  ⟨(some 6), .mov (.tmp 0), none⟩,
  ⟨(some 7), .len (.tmp 6), none⟩,
  ⟨(some 8), .mov (.const (.int .i64 0)), none⟩] none [6])
  (.block 0
  (.loop a_slices_IndexFunc_string_l0)))
  (.seq
  (.region [
  ⟨(some 4), .mov (.const (.int .i64 (-1))), none⟩] none [0, 1, 7, 8, 9])
  .ret))) }
def a_slices_insertionSortCmpFunc_Pred_l0 : ACode :=
  (.seq
  (.seq
  (.region [
  ⟨(some 18), .mov (.tmp 9), none⟩,
  ⟨(some 19), .mov (.tmp 1), none⟩,
  ⟨(some 20), .bin .gtr (.tmp 18) (.tmp 19), none⟩,
  ⟨(some 21), .mov (.mv 20), none⟩,
  ⟨(some 22), .mov (.tmp 3), (some (21, true))⟩,
  ⟨(some 23), .mov (.tmp 0), (some (21, true))⟩,
  ⟨(some 24), .mov (.tmp 9), (some (21, true))⟩,
  ⟨(some 25), .indexAddr 5 (.tmp 23) (.tmp 24), (some (21, true))⟩,
  ⟨(some 26), .load (some 5) false (.tmp 25), (some (21, true))⟩,
  ⟨(some 27), .mov (.tmp 0), (some (21, true))⟩,
  ⟨(some 28), .mov (.tmp 9), (some (21, true))⟩,
  ⟨(some 29), .bin .sub (.tmp 28) (.const (.int .i64 1)), (some (21, true))⟩,
  ⟨(some 30), .indexAddr 5 (.tmp 27) (.tmp 29), (some (21, true))⟩,
  ⟨(some 31), .load (some 5) false (.tmp 30), (some (21, true))⟩,
  ⟨(some 32), .callv (.tmp 22) [(.tmp 26), (.tmp 31)], (some (21, true))⟩,
  ⟨(some 33), .bin .lss (.tmp 32) (.const (.int .i64 0)), (some (21, true))⟩,
  ⟨(some 34), .pick (.tmp 21) (.tmp 33) (.const (.bool false)), none⟩] (some [0, 1, 2, 3, 4, 5, 6, 7, 8, 9, 10, 11, 12, 13, 14, 15, 16]) [18, 19, 20, 21, 22, 23, 24, 25, 26, 27, 28, 29, 30, 31, 32, 33])
  (.cond (.tmp 34)
  .skip
  (.exit 2)))
  (.seq
  (.block 3
  (.region [
  ⟨(some 37), .mov (.tmp 0), none⟩,
  ⟨(some 38), .mov (.tmp 9), none⟩,
  ⟨(some 39), .mov (.tmp 0), none⟩,
  ⟨(some 40), .mov (.tmp 9), none⟩,
  ⟨(some 41), .bin .sub (.tmp 40) (.const (.int .i64 1)), none⟩,
  ⟨(some 42), .mov (.tmp 0), none⟩,
  ⟨(some 43), .mov (.tmp 9), none⟩,
  ⟨(some 44), .bin .sub (.tmp 43) (.const (.int .i64 1)), none⟩,
  ⟨(some 45), .indexAddr 5 (.tmp 42) (.tmp 44), none⟩,
  ⟨(some 46), .load (some 5) false (.tmp 45), none⟩,
  ⟨(some 47), .mov (.tmp 0), none⟩,
  ⟨(some 48), .mov (.tmp 9), none⟩,
  ⟨(some 49), .indexAddr 5 (.tmp 47) (.tmp 48), none⟩,
  ⟨(some 50), .load (some 5) false (.tmp 49), none⟩,
  ⟨(some 51), .indexAddr 5 (.tmp 37) (.tmp 38), none⟩,
  ⟨none, .storeP 5 (.tmp 51) (.tmp 46), none⟩,
  ⟨(some 52), .indexAddr 5 (.tmp 39) (.tmp 41), none⟩,
  ⟨none, .storeP 5 (.tmp 52) (.tmp 50), none⟩] (some [0, 1, 2, 3, 4, 5, 6, 7, 8, 9, 10, 11, 12, 13, 14, 15, 16, 17]) [34, 37, 38, 39, 40, 41, 42, 43, 44, 45, 46, 47, 48, 49, 50, 51, 52]))
  (.region [
  ⟨(some 35), .mov (.tmp 9), none⟩,
  ⟨(some 36), .bin .sub (.tmp 35) (.const (.int .i64 1)), none⟩,
  ⟨(some 9), .mov (.mv 36), none⟩] none [35, 36])))
def a_slices_insertionSortCmpFunc_Pred_l1 : ACode :=
  (.seq
  (.seq
  (.region [
  ⟨(some 12), .mov (.tmp 8), none⟩,
  ⟨(some 13), .mov (.tmp 2), none⟩,
  ⟨(some 14), .bin .lss (.tmp 12) (.tmp 13), none⟩] none [12, 13])
  (.cond (.tmp 14)
  .skip
  (.exit 0)))
  (.seq
  (.block 1
  (.seq
  (.region [
  ⟨(some 17), .mov (.tmp 8), none⟩,
  ⟨(some 9), .mov (.mv 17), none⟩] none [14, 17])
  (.block 2
  (.loop a_slices_insertionSortCmpFunc_Pred_l0))))
  (.region [
  ⟨(some 15), .mov (.tmp 8), none⟩,
  ⟨(some 16), .bin .add (.tmp 15) (.const (.int .i64 1)), none⟩,
  ⟨(some 8), .mov (.mv 16), none⟩] none [9, 15, 16, 34])))
/-- slices.insertionSortCmpFunc[fugue/api.Pred] -/
def a_slices_insertionSortCmpFunc_Pred : AFun :=
  { nargs := 4, ntmps := 53, res := [], gc := false, body :=
  (.seq
  (.region [
  ⟨(some 10), .mov (.tmp 1), none⟩,
  ⟨(some 11), .bin .add (.tmp 10) (.const (.int .i64 1)), none⟩,
  ⟨(some 8), .mov (.mv 11), none⟩] none [10, 11])
  (.block 0
  (.loop a_slices_insertionSortCmpFunc_Pred_l1))) }
def a_slices_symMergeCmpFunc_Pred_l0 : ACode :=
  (.seq
  (.seq
  (.region [
  ⟨(some 31), .mov (.tmp 10), none⟩,
  ⟨(some 32), .mov (.tmp 11), none⟩,
  ⟨(some 33), .bin .lss (.tmp 31) (.tmp 32), none⟩] none [31, 32])
  (.cond (.tmp 33)
  .skip
  (.exit 0)))
  (.block 1
  (.seq
  (.region [
  ⟨(some 34), .mov (.tmp 10), none⟩,
  ⟨(some 35), .mov (.tmp 11), none⟩,
  ⟨(some 36), .bin .add (.tmp 34) (.tmp 35), none⟩,
  ⟨(some 37), .toInt .u64 (.tmp 36), none⟩,
  ⟨(some 38), .bin .shr (.tmp 37) (.const (.int .u64 1)), none⟩,
  ⟨(some 39), .toInt .i64 (.tmp 38), none⟩,
  ⟨(some 12), .mov (.mv 39), none⟩] none [33, 34, 35, 36, 37, 38, 39])
  (.seq
  (.region [
  ⟨(some 40), .mov (.tmp 4), none⟩,
  ⟨(some 41), .mov (.tmp 0), none⟩,
  ⟨(some 42), .mov (.tmp 12), none⟩,
  ⟨(some 43), .indexAddr 5 (.tmp 41) (.tmp 42), none⟩,
  ⟨(some 44), .load (some 5) false (.tmp 43), none⟩,
  ⟨(some 45), .mov (.tmp 0), none⟩,
  ⟨(some 46), .mov (.tmp 1), none⟩,
  ⟨(some 47), .indexAddr 5 (.tmp 45) (.tmp 46), none⟩,
  ⟨(some 48), .load (some 5) false (.tmp 47), none⟩,
  ⟨(some 49), .callv (.tmp 40) [(.tmp 44), (.tmp 48)], none⟩,
  ⟨(some 50), .bin .lss (.tmp 49) (.const (.int .i64 0)), none⟩] (some [0, 1, 2, 3, 4, 5, 6, 7, 8, 9, 10]) [40, 41, 42, 43, 44, 45, 46, 47, 48, 49])
  (.cond (.tmp 50)
  (.region [
  ⟨(some 51), .mov (.tmp 12), none⟩,
  ⟨(some 52), .bin .add (.tmp 51) (.const (.int .i64 1)), none⟩,
  ⟨(some 10), .mov (.mv 52), none⟩] none [12, 50, 51, 52])
  (.region [
  ⟨(some 53), .mov (.tmp 12), none⟩,
  ⟨(some 11), .mov (.mv 53), none⟩] none [12, 50, 53]))))))
def a_slices_symMergeCmpFunc_Pred_l1 : ACode :=
  (.seq
  (.seq
  (.region [
  ⟨(some 55), .mov (.tmp 13), none⟩,
  ⟨(some 56), .mov (.tmp 10), none⟩,
  ⟨(some 57), .bin .sub (.tmp 56) (.const (.int .i64 1)), none⟩,
  ⟨(some 58), .bin .lss (.tmp 55) (.tmp 57), none⟩] none [55, 56, 57])
  (.cond (.tmp 58)
  .skip
  (.exit 2)))
  (.seq
  (.block 3
  (.region [
  ⟨(some 61), .mov (.tmp 0), none⟩,
  ⟨(some 62), .mov (.tmp 13), none⟩,
  ⟨(some 63), .mov (.tmp 0), none⟩,
  ⟨(some 64), .mov (.tmp 13), none⟩,
  ⟨(some 65), .bin .add (.tmp 64) (.const (.int .i64 1)), none⟩,
  ⟨(some 66), .mov (.tmp 0), none⟩,
  ⟨(some 67), .mov (.tmp 13), none⟩,
  ⟨(some 68), .bin .add (.tmp 67) (.const (.int .i64 1)), none⟩,
  ⟨(some 69), .indexAddr 5 (.tmp 66) (.tmp 68), none⟩,
  ⟨(some 70), .load (some 5) false (.tmp 69), none⟩,
  ⟨(some 71), .mov (.tmp 0), none⟩,
  ⟨(some 72), .mov (.tmp 13), none⟩,
  ⟨(some 73), .indexAddr 5 (.tmp 71) (.tmp 72), none⟩,
  ⟨(some 74), .load (some 5) false (.tmp 73), none⟩,
  ⟨(some 75), .indexAddr 5 (.tmp 61) (.tmp 62), none⟩,
  ⟨none, .storeP 5 (.tmp 75) (.tmp 70), none⟩,
  ⟨(some 76), .indexAddr 5 (.tmp 63) (.tmp 65), none⟩,
  ⟨none, .storeP 5 (.tmp 76) (.tmp 74), none⟩] (some [0, 1, 2, 3, 4, 5, 6, 7, 8, 9, 10, 11, 12, 13, 14, 15, 16, 17]) [58, 61, 62, 63, 64, 65, 66, 67, 68, 69, 70, 71, 72, 73, 74, 75, 76]))
  (.region [
  ⟨(some 59), .mov (.tmp 13), none⟩,
  ⟨(some 60), .bin .add (.tmp 59) (.const (.int .i64 1)), none⟩,
  ⟨(some 13), .mov (.mv 60), none⟩] none [59, 60])))
def a_slices_symMergeCmpFunc_Pred_l2 : ACode :=
  (.seq
  (.seq
  (.region [
  ⟨(some 83), .mov (.tmp 14), none⟩,
  ⟨(some 84), .mov (.tmp 15), none⟩,
  ⟨(some 85), .bin .lss (.tmp 83) (.tmp 84), none⟩] none [83, 84])
  (.cond (.tmp 85)
  .skip
  (.exit 4)))
  (.block 5
  (.seq
  (.region [
  ⟨(some 86), .mov (.tmp 14), none⟩,
  ⟨(some 87), .mov (.tmp 15), none⟩,
  ⟨(some 88), .bin .add (.tmp 86) (.tmp 87), none⟩,
  ⟨(some 89), .toInt .u64 (.tmp 88), none⟩,
  ⟨(some 90), .bin .shr (.tmp 89) (.const (.int .u64 1)), none⟩,
  ⟨(some 91), .toInt .i64 (.tmp 90), none⟩,
  ⟨(some 16), .mov (.mv 91), none⟩] none [85, 86, 87, 88, 89, 90, 91])
  (.seq
  (.region [
  ⟨(some 92), .mov (.tmp 4), none⟩,
  ⟨(some 93), .mov (.tmp 0), none⟩,
  ⟨(some 94), .mov (.tmp 2), none⟩,
  ⟨(some 95), .indexAddr 5 (.tmp 93) (.tmp 94), none⟩,
  ⟨(some 96), .load (some 5) false (.tmp 95), none⟩,
  ⟨(some 97), .mov (.tmp 0), none⟩,
  ⟨(some 98), .mov (.tmp 16), none⟩,
  ⟨(some 99), .indexAddr 5 (.tmp 97) (.tmp 98), none⟩,
  ⟨(some 100), .load (some 5) false (.tmp 99), none⟩,
  ⟨(some 101), .callv (.tmp 92) [(.tmp 96), (.tmp 100)], none⟩,
  ⟨(some 102), .bin .lss (.tmp 101) (.const (.int .i64 0)), none⟩,
  ⟨(some 103), .un .not (.tmp 102), none⟩] (some [0, 1, 2, 3, 4, 5, 6, 7, 8, 9, 10, 11]) [92, 93, 94, 95, 96, 97, 98, 99, 100, 101, 102])
  (.cond (.tmp 103)
  (.region [
  ⟨(some 104), .mov (.tmp 16), none⟩,
  ⟨(some 105), .bin .add (.tmp 104) (.const (.int .i64 1)), none⟩,
  ⟨(some 14), .mov (.mv 105), none⟩] none [16, 103, 104, 105])
  (.region [
  ⟨(some 106), .mov (.tmp 16), none⟩,
  ⟨(some 15), .mov (.mv 106), none⟩] none [16, 103, 106]))))))
def a_slices_symMergeCmpFunc_Pred_l3 : ACode :=
  (.seq
  (.seq
  (.region [
  ⟨(some 108), .mov (.tmp 17), none⟩,
  ⟨(some 109), .mov (.tmp 14), none⟩,
  ⟨(some 110), .bin .gtr (.tmp 108) (.tmp 109), none⟩] none [108, 109])
  (.cond (.tmp 110)
  .skip
  (.exit 6)))
  (.seq
  (.block 7
  (.region [
  ⟨(some 113), .mov (.tmp 0), none⟩,
  ⟨(some 114), .mov (.tmp 17), none⟩,
  ⟨(some 115), .mov (.tmp 0), none⟩,
  ⟨(some 116), .mov (.tmp 17), none⟩,
  ⟨(some 117), .bin .sub (.tmp 116) (.const (.int .i64 1)), none⟩,
  ⟨(some 118), .mov (.tmp 0), none⟩,
  ⟨(some 119), .mov (.tmp 17), none⟩,
  ⟨(some 120), .bin .sub (.tmp 119) (.const (.int .i64 1)), none⟩,
  ⟨(some 121), .indexAddr 5 (.tmp 118) (.tmp 120), none⟩,
  ⟨(some 122), .load (some 5) false (.tmp 121), none⟩,
  ⟨(some 123), .mov (.tmp 0), none⟩,
  ⟨(some 124), .mov (.tmp 17), none⟩,
  ⟨(some 125), .indexAddr 5 (.tmp 123) (.tmp 124), none⟩,
  ⟨(some 126), .load (some 5) false (.tmp 125), none⟩,
  ⟨(some 127), .indexAddr 5 (.tmp 113) (.tmp 114), none⟩,
  ⟨none, .storeP 5 (.tmp 127) (.tmp 122), none⟩,
  ⟨(some 128), .indexAddr 5 (.tmp 115) (.tmp 117), none⟩,
  ⟨none, .storeP 5 (.tmp 128) (.tmp 126), none⟩] (some [0, 1, 2, 3, 4, 5, 6, 7, 8, 9, 10, 11, 12, 13, 14, 15, 16, 17]) [110, 113, 114, 115, 116, 117, 118, 119, 120, 121, 122, 123, 124, 125, 126, 127, 128]))
  (.region [
  ⟨(some 111), .mov (.tmp 17), none⟩,
  ⟨(some 112), .bin .sub (.tmp 111) (.const (.int .i64 1)), none⟩,
  ⟨(some 17), .mov (.mv 112), none⟩] none [111, 112])))
def a_slices_symMergeCmpFunc_Pred_l4 : ACode :=
  (.seq
  (.seq
  (.region [
  ⟨(some 149), .mov (.tmp 20), none⟩,
  ⟨(some 150), .mov (.tmp 21), none⟩,
  ⟨(some 151), .bin .lss (.tmp 149) (.tmp 150), none⟩] none [149, 150])
  (.cond (.tmp 151)
  .skip
  (.exit 8)))
  (.block 9
  (.seq
  (.region [
  ⟨(some 152), .mov (.tmp 20), none⟩,
  ⟨(some 153), .mov (.tmp 21), none⟩,
  ⟨(some 154), .bin .add (.tmp 152) (.tmp 153), none⟩,
  ⟨(some 155), .toInt .u64 (.tmp 154), none⟩,
  ⟨(some 156), .bin .shr (.tmp 155) (.const (.int .u64 1)), none⟩,
  ⟨(some 157), .toInt .i64 (.tmp 156), none⟩,
  ⟨(some 23), .mov (.mv 157), none⟩] none [151, 152, 153, 154, 155, 156, 157])
  (.seq
  (.region [
  ⟨(some 158), .mov (.tmp 4), none⟩,
  ⟨(some 159), .mov (.tmp 0), none⟩,
  ⟨(some 160), .mov (.tmp 22), none⟩,
  ⟨(some 161), .mov (.tmp 23), none⟩,
  ⟨(some 162), .bin .sub (.tmp 160) (.tmp 161), none⟩,
  ⟨(some 163), .indexAddr 5 (.tmp 159) (.tmp 162), none⟩,
  ⟨(some 164), .load (some 5) false (.tmp 163), none⟩,
  ⟨(some 165), .mov (.tmp 0), none⟩,
  ⟨(some 166), .mov (.tmp 23), none⟩,
  ⟨(some 167), .indexAddr 5 (.tmp 165) (.tmp 166), none⟩,
  ⟨(some 168), .load (some 5) false (.tmp 167), none⟩,
  ⟨(some 169), .callv (.tmp 158) [(.tmp 164), (.tmp 168)], none⟩,
  ⟨(some 170), .bin .lss (.tmp 169) (.const (.int .i64 0)), none⟩,
  ⟨(some 171), .un .not (.tmp 170), none⟩] (some [0, 1, 2, 3, 4, 5, 6, 7, 8, 9, 10, 11, 12, 13]) [158, 159, 160, 161, 162, 163, 164, 165, 166, 167, 168, 169, 170])
  (.cond (.tmp 171)
  (.region [
  ⟨(some 172), .mov (.tmp 23), none⟩,
  ⟨(some 173), .bin .add (.tmp 172) (.const (.int .i64 1)), none⟩,
  ⟨(some 20), .mov (.mv 173), none⟩] none [23, 171, 172, 173])
  (.region [
  ⟨(some 174), .mov (.tmp 23), none⟩,
  ⟨(some 21), .mov (.mv 174), none⟩] none [23, 171, 174]))))))
/-- slices.symMergeCmpFunc[fugue/api.Pred] -/
def a_slices_symMergeCmpFunc_Pred : AFun :=
  { nargs := 5, ntmps := 220, res := [], gc := false, body :=
  (.seq
  (.seq
  (.region [
  ⟨(some 25), .mov (.tmp 2), none⟩,
  ⟨(some 26), .mov (.tmp 1), none⟩,
  ⟨(some 27), .bin .sub (.tmp 25) (.tmp 26), none⟩,
  ⟨(some 28), .bin .eql (.tmp 27) (.const (.int .i64 1)), none⟩] none [25, 26, 27])
  (.cond (.tmp 28)
  (.seq
  (.region [
  ⟨(some 29), .mov (.tmp 2), none⟩,
  ⟨(some 10), .mov (.mv 29), none⟩] none [2, 28, 29])
  (.seq
  (.region [
  ⟨(some 30), .mov (.tmp 3), none⟩,
  ⟨(some 11), .mov (.mv 30), none⟩] none [3, 30])
  (.seq
  (.block 0
  (.loop a_slices_symMergeCmpFunc_Pred_l0))
  (.seq
  (.seq
  (.region [
  ⟨(some 54), .mov (.tmp 1), none⟩,
  ⟨(some 13), .mov (.mv 54), none⟩] none [1, 4, 11, 33, 54])
  (.block 2
  (.loop a_slices_symMergeCmpFunc_Pred_l1)))
  .ret))))
  .skip))
  (.seq
  (.seq
  (.region [
  ⟨(some 77), .mov (.tmp 3), none⟩,
  ⟨(some 78), .mov (.tmp 2), none⟩,
  ⟨(some 79), .bin .sub (.tmp 77) (.tmp 78), none⟩,
  ⟨(some 80), .bin .eql (.tmp 79) (.const (.int .i64 1)), none⟩] none [28, 77, 78, 79])
  (.cond (.tmp 80)
  (.seq
  (.region [
  ⟨(some 81), .mov (.tmp 1), none⟩,
  ⟨(some 14), .mov (.mv 81), none⟩] none [1, 3, 80, 81])
  (.seq
  (.region [
  ⟨(some 82), .mov (.tmp 2), none⟩,
  ⟨(some 15), .mov (.mv 82), none⟩] none [82])
  (.seq
  (.block 4
  (.loop a_slices_symMergeCmpFunc_Pred_l2))
  (.seq
  (.seq
  (.region [
  ⟨(some 107), .mov (.tmp 2), none⟩,
  ⟨(some 17), .mov (.mv 107), none⟩] none [2, 4, 15, 85, 107])
  (.block 6
  (.loop a_slices_symMergeCmpFunc_Pred_l3)))
  .ret))))
  .skip))
  (.seq
  (.region [
  ⟨(some 129), .mov (.tmp 1), none⟩,
  ⟨(some 130), .mov (.tmp 3), none⟩,
  ⟨(some 131), .bin .add (.tmp 129) (.tmp 130), none⟩,
  ⟨(some 132), .toInt .u64 (.tmp 131), none⟩,
  ⟨(some 133), .bin .shr (.tmp 132) (.const (.int .u64 1)), none⟩,
  ⟨(some 134), .toInt .i64 (.tmp 133), none⟩,
  ⟨(some 18), .mov (.mv 134), none⟩] none [80, 129, 130, 131, 132, 133, 134])
  (.seq
  (.region [
  ⟨(some 135), .mov (.tmp 18), none⟩,
  ⟨(some 136), .mov (.tmp 2), none⟩,
  ⟨(some 137), .bin .add (.tmp 135) (.tmp 136), none⟩,
  ⟨(some 19), .mov (.mv 137), none⟩] none [135, 136, 137])
  (.seq
  (.region [
  ⟨(some 20), .mov (.const (.int .i64 0)), none⟩,
  ⟨(some 21), .mov (.const (.int .i64 0)), none⟩] none [20, 21])
  (.seq
  (.seq
  (.region [
  ⟨(some 138), .mov (.tmp 2), none⟩,
  ⟨(some 139), .mov (.tmp 18), none⟩,
  ⟨(some 140), .bin .gtr (.tmp 138) (.tmp 139), none⟩] none [138, 139])
  (.cond (.tmp 140)
  (.seq
  (.region [
  ⟨(some 141), .mov (.tmp 19), none⟩,
  ⟨(some 142), .mov (.tmp 3), none⟩,
  ⟨(some 143), .bin .sub (.tmp 141) (.tmp 142), none⟩,
  ⟨(some 20), .mov (.mv 143), none⟩] none [140, 141, 142, 143])
  (.region [
  ⟨(some 144), .mov (.tmp 18), none⟩,
  ⟨(some 21), .mov (.mv 144), none⟩] none [144]))
  (.seq
  (.region [
  ⟨(some 145), .mov (.tmp 1), none⟩,
  ⟨(some 20), .mov (.mv 145), none⟩] none [140, 145])
  (.region [
  ⟨(some 146), .mov (.tmp 2), none⟩,
  ⟨(some 21), .mov (.mv 146), none⟩] none [146]))))
  (.seq
  (.region [
  ⟨(some 147), .mov (.tmp 19), none⟩,
  ⟨(some 148), .bin .sub (.tmp 147) (.const (.int .i64 1)), none⟩,
  ⟨(some 22), .mov (.mv 148), none⟩] none [147, 148])
  (.seq
  (.block 8
  (.loop a_slices_symMergeCmpFunc_Pred_l4))
  (.seq
  (.region [
  ⟨(some 175), .mov (.tmp 19), none⟩,
  ⟨(some 176), .mov (.tmp 20), none⟩,
  ⟨(some 177), .bin .sub (.tmp 175) (.tmp 176), none⟩,
  ⟨(some 24), .mov (.mv 177), none⟩] none [19, 21, 22, 151, 175, 176, 177])
  (.seq
  (.seq
  (.region [
  ⟨(some 178), .mov (.tmp 20), none⟩,
  ⟨(some 179), .mov (.tmp 2), none⟩,
  ⟨(some 180), .bin .lss (.tmp 178) (.tmp 179), none⟩,
  ⟨(some 181), .mov (.mv 180), none⟩,
  ⟨(some 182), .mov (.tmp 2), (some (181, true))⟩,
  ⟨(some 183), .mov (.tmp 24), (some (181, true))⟩,
  ⟨(some 184), .bin .lss (.tmp 182) (.tmp 183), (some (181, true))⟩,
  ⟨(some 185), .pick (.tmp 181) (.tmp 184) (.const (.bool false)), none⟩] none [178, 179, 180, 181, 182, 183, 184])
  (.cond (.tmp 185)
  (.region [
  ⟨(some 186), .mov (.tmp 0), none⟩,
  ⟨(some 187), .mov (.tmp 20), none⟩,
  ⟨(some 188), .mov (.tmp 2), none⟩,
  ⟨(some 189), .mov (.tmp 24), none⟩,
  ⟨(some 190), .mov (.tmp 4), none⟩,
  ⟨(some 191), .call n_slices_rotateCmpFunc_Pred [(.tmp 186), (.tmp 187), (.tmp 188), (.tmp 189), (.tmp 190)], none⟩] none [2, 185, 186, 187, 188, 189, 190, 191])
  .skip))
  (.seq
  (.seq
  (.region [
  ⟨(some 192), .mov (.tmp 1), none⟩,
  ⟨(some 193), .mov (.tmp 20), none⟩,
  ⟨(some 194), .bin .lss (.tmp 192) (.tmp 193), none⟩,
  ⟨(some 195), .mov (.mv 194), none⟩,
  ⟨(some 196), .mov (.tmp 20), (some (195, true))⟩,
  ⟨(some 197), .mov (.tmp 18), (some (195, true))⟩,
  ⟨(some 198), .bin .lss (.tmp 196) (.tmp 197), (some (195, true))⟩,
  ⟨(some 199), .pick (.tmp 195) (.tmp 198) (.const (.bool false)), none⟩] none [2, 185, 192, 193, 194, 195, 196, 197, 198])
  (.cond (.tmp 199)
  (.region [
  ⟨(some 200), .mov (.tmp 0), none⟩,
  ⟨(some 201), .mov (.tmp 1), none⟩,
  ⟨(some 202), .mov (.tmp 20), none⟩,
  ⟨(some 203), .mov (.tmp 18), none⟩,
  ⟨(some 204), .mov (.tmp 4), none⟩,
  ⟨(some 205), .call n_slices_symMergeCmpFunc_Pred [(.tmp 200), (.tmp 201), (.tmp 202), (.tmp 203), (.tmp 204)], none⟩] none [1, 20, 199, 200, 201, 202, 203, 204, 205])
  .skip))
  (.seq
  (.region [
  ⟨(some 206), .mov (.tmp 18), none⟩,
  ⟨(some 207), .mov (.tmp 24), none⟩,
  ⟨(some 208), .bin .lss (.tmp 206) (.tmp 207), none⟩,
  ⟨(some 209), .mov (.mv 208), none⟩,
  ⟨(some 210), .mov (.tmp 24), (some (209, true))⟩,
  ⟨(some 211), .mov (.tmp 3), (some (209, true))⟩,
  ⟨(some 212), .bin .lss (.tmp 210) (.tmp 211), (some (209, true))⟩,
  ⟨(some 213), .pick (.tmp 209) (.tmp 212) (.const (.bool false)), none⟩] none [1, 20, 199, 206, 207, 208, 209, 210, 211, 212])
  (.cond (.tmp 213)
  (.region [
  ⟨(some 214), .mov (.tmp 0), none⟩,
  ⟨(some 215), .mov (.tmp 18), none⟩,
  ⟨(some 216), .mov (.tmp 24), none⟩,
  ⟨(some 217), .mov (.tmp 3), none⟩,
  ⟨(some 218), .mov (.tmp 4), none⟩,
  ⟨(some 219), .call n_slices_symMergeCmpFunc_Pred [(.tmp 214), (.tmp 215), (.tmp 216), (.tmp 217), (.tmp 218)], none⟩] none [0, 3, 4, 18, 24, 213, 214, 215, 216, 217, 218, 219])
  .skip))))))))))))) }
/-- cmp.isNaN[string] -/
def a_cmp_isNaN_string : AFun :=
  { nargs := 1, ntmps := 6, res := [.tmp 2], gc := false, body :=
  (.seq
  (.region [
  ⟨(some 2), .mov (.const (.bool false)), none⟩] none [2])
  (.seq
  (.region [
  ⟨(some 3), .mov (.tmp 0), none⟩,
  ⟨(some 4), .mov (.tmp 0), none⟩,
  ⟨(some 5), .bin .neq (.tmp 3) (.tmp 4), none⟩,
  ⟨(some 2), .mov (.mv 5), none⟩] none [0, 3, 4, 5])
  .ret)) }
def a_slices_rotateCmpFunc_Pred_l0 : ACode :=
  (.seq
  (.seq
  (.region [
  ⟨(some 18), .mov (.tmp 10), none⟩,
  ⟨(some 19), .mov (.tmp 11), none⟩,
  ⟨(some 20), .bin .neq (.tmp 18) (.tmp 19), none⟩] none [18, 19])
  (.cond (.tmp 20)
  .skip
  (.exit 0)))
  (.block 1
  (.seq
  (.region [
  ⟨(some 21), .mov (.tmp 10), none⟩,
  ⟨(some 22), .mov (.tmp 11), none⟩,
  ⟨(some 23), .bin .gtr (.tmp 21) (.tmp 22), none⟩] none [20, 21, 22])
  (.cond (.tmp 23)
  (.seq
  (.region [
  ⟨(some 24), .mov (.tmp 0), none⟩,
  ⟨(some 25), .mov (.tmp 2), none⟩,
  ⟨(some 26), .mov (.tmp 10), none⟩,
  ⟨(some 27), .bin .sub (.tmp 25) (.tmp 26), none⟩,
  ⟨(some 28), .mov (.tmp 2), none⟩,
  ⟨(some 29), .mov (.tmp 11), none⟩,
  ⟨(some 30), .mov (.tmp 4), none⟩,
  ⟨(some 31), .call n_slices_swapRangeCmpFunc_Pred [(.tmp 24), (.tmp 27), (.tmp 28), (.tmp 29), (.tmp 30)], none⟩] none [23, 24, 25, 26, 27, 28, 29, 30, 31])
  (.region [
  ⟨(some 32), .mov (.tmp 10), none⟩,
  ⟨(some 33), .mov (.tmp 11), none⟩,
  ⟨(some 34), .bin .sub (.tmp 32) (.tmp 33), none⟩,
  ⟨(some 10), .mov (.mv 34), none⟩] none [32, 33, 34]))
  (.seq
  (.region [
  ⟨(some 35), .mov (.tmp 0), none⟩,
  ⟨(some 36), .mov (.tmp 2), none⟩,
  ⟨(some 37), .mov (.tmp 10), none⟩,
  ⟨(some 38), .bin .sub (.tmp 36) (.tmp 37), none⟩,
  ⟨(some 39), .mov (.tmp 2), none⟩,
  ⟨(some 40), .mov (.tmp 11), none⟩,
  ⟨(some 41), .bin .add (.tmp 39) (.tmp 40), none⟩,
  ⟨(some 42), .mov (.tmp 10), none⟩,
  ⟨(some 43), .bin .sub (.tmp 41) (.tmp 42), none⟩,
  ⟨(some 44), .mov (.tmp 10), none⟩,
  ⟨(some 45), .mov (.tmp 4), none⟩,
  ⟨(some 46), .call n_slices_swapRangeCmpFunc_Pred [(.tmp 35), (.tmp 38), (.tmp 43), (.tmp 44), (.tmp 45)], none⟩] none [23, 35, 36, 37, 38, 39, 40, 41, 42, 43, 44, 45, 46])
  (.region [
  ⟨(some 47), .mov (.tmp 11), none⟩,
  ⟨(some 48), .mov (.tmp 10), none⟩,
  ⟨(some 49), .bin .sub (.tmp 47) (.tmp 48), none⟩,
  ⟨(some 11), .mov (.mv 49), none⟩] none [47, 48, 49]))))))
/-- slices.rotateCmpFunc[fugue/api.Pred] -/
def a_slices_rotateCmpFunc_Pred : AFun :=
  { nargs := 5, ntmps := 58, res := [], gc := false, body :=
  (.seq
  (.region [
  ⟨(some 12), .mov (.tmp 2), none⟩,
  ⟨(some 13), .mov (.tmp 1), none⟩,
  ⟨(some 14), .bin .sub (.tmp 12) (.tmp 13), none⟩,
  ⟨(some 10), .mov (.mv 14), none⟩] none [1, 12, 13, 14])
  (.seq
  (.region [
  ⟨(some 15), .mov (.tmp 3), none⟩,
  ⟨(some 16), .mov (.tmp 2), none⟩,
  ⟨(some 17), .bin .sub (.tmp 15) (.tmp 16), none⟩,
  ⟨(some 11), .mov (.mv 17), none⟩] none [3, 15, 16, 17])
  (.seq
  (.block 0
  (.loop a_slices_rotateCmpFunc_Pred_l0))
  (.region [
  ⟨(some 50), .mov (.tmp 0), none⟩,
  ⟨(some 51), .mov (.tmp 2), none⟩,
  ⟨(some 52), .mov (.tmp 10), none⟩,
  ⟨(some 53), .bin .sub (.tmp 51) (.tmp 52), none⟩,
  ⟨(some 54), .mov (.tmp 2), none⟩,
  ⟨(some 55), .mov (.tmp 10), none⟩,
  ⟨(some 56), .mov (.tmp 4), none⟩,
  ⟨(some 57), .call n_slices_swapRangeCmpFunc_Pred [(.tmp 50), (.tmp 53), (.tmp 54), (.tmp 55), (.tmp 56)], none⟩] none [0, 2, 4, 10, 11, 20, 50, 51, 52, 53, 54, 55, 56, 57])))) }
def a_slices_swapRangeCmpFunc_Pred_l0 : ACode :=
  (.seq
  (.seq
  (.region [
  ⟨(some 11), .mov (.tmp 10), none⟩,
  ⟨(some 12), .mov (.tmp 3), none⟩,
  ⟨(some 13), .bin .lss (.tmp 11) (.tmp 12), none⟩] none [11, 12])
  (.cond (.tmp 13)
  .skip
  (.exit 0)))
  (.seq
  (.block 1
  (.region [
  ⟨(some 16), .mov (.tmp 0), none⟩,
  ⟨(some 17), .mov (.tmp 1), none⟩,
  ⟨(some 18), .mov (.tmp 10), none⟩,
  ⟨(some 19), .bin .add (.tmp 17) (.tmp 18), none⟩,
  ⟨(some 20), .mov (.tmp 0), none⟩,
  ⟨(some 21), .mov (.tmp 2), none⟩,
  ⟨(some 22), .mov (.tmp 10), none⟩,
  ⟨(some 23), .bin .add (.tmp 21) (.tmp 22), none⟩,
  ⟨(some 24), .mov (.tmp 0), none⟩,
  ⟨(some 25), .mov (.tmp 2), none⟩,
  ⟨(some 26), .mov (.tmp 10), none⟩,
  ⟨(some 27), .bin .add (.tmp 25) (.tmp 26), none⟩,
  ⟨(some 28), .indexAddr 5 (.tmp 24) (.tmp 27), none⟩,
  ⟨(some 29), .load (some 5) false (.tmp 28), none⟩,
  ⟨(some 30), .mov (.tmp 0), none⟩,
  ⟨(some 31), .mov (.tmp 1), none⟩,
  ⟨(some 32), .mov (.tmp 10), none⟩,
  ⟨(some 33), .bin .add (.tmp 31) (.tmp 32), none⟩,
  ⟨(some 34), .indexAddr 5 (.tmp 30) (.tmp 33), none⟩,
  ⟨(some 35), .load (some 5) false (.tmp 34), none⟩,
  ⟨(some 36), .indexAddr 5 (.tmp 16) (.tmp 19), none⟩,
  ⟨none, .storeP 5 (.tmp 36) (.tmp 29), none⟩,
  ⟨(some 37), .indexAddr 5 (.tmp 20) (.tmp 23), none⟩,
  ⟨none, .storeP 5 (.tmp 37) (.tmp 35), none⟩] (some [0, 1, 2, 3, 4, 5, 6, 7, 8, 9, 10, 11, 12, 13, 14, 15, 16, 17, 18, 19, 20, 21, 22, 23]) [13, 16, 17, 18, 19, 20, 21, 22, 23, 24, 25, 26, 27, 28, 29, 30, 31, 32, 33, 34, 35, 36, 37]))
  (.region [
  ⟨(some 14), .mov (.tmp 10), none⟩,
  ⟨(some 15), .bin .add (.tmp 14) (.const (.int .i64 1)), none⟩,
  ⟨(some 10), .mov (.mv 15), none⟩] none [14, 15])))
/-- slices.swapRangeCmpFunc[fugue/api.Pred] -/
def a_slices_swapRangeCmpFunc_Pred : AFun :=
  { nargs := 5, ntmps := 38, res := [], gc := false, body :=
  (.seq
  (.region [
  ⟨(some 10), .mov (.const (.int .i64 0)), none⟩] none [4])
  (.block 0
  (.loop a_slices_swapRangeCmpFunc_Pred_l0))) }
end Go.Fu

