/-
  The fit of the program's functions and the machine's code: reckoned by the kernel.
-/
import Derived.Test.YtkgdpcnobfadaaaDoorProg
import Derived.Test.YtkgdpcnobfadaaaDoorFqCode2
set_option linter.unusedSimpArgs false
set_option linter.unusedVariables false
namespace Go.Fu
open Go Go.Mx
theorem ok_l13_SchemeQuantify : okFun Go.Proofs.Tryd.prog Go.Proofs.Tryd.f3 a_l13_SchemeQuantify = true := by kernel_rfl
theorem ok_r13_Made : okFun Go.Proofs.Tryd.prog Go.Proofs.Tryd.f4 a_r13_Made = true := by kernel_rfl
theorem ok_r01_Around : okFun Go.Proofs.Tryd.prog Go.Proofs.Tryd.f5 a_r01_Around = true := by kernel_rfl
theorem ok_scheme_Quantify : okFun Go.Proofs.Tryd.prog Go.Proofs.Tryd.f6 a_scheme_Quantify = true := by kernel_rfl
theorem ok_scheme_Mono : okFun Go.Proofs.Tryd.prog Go.Proofs.Tryd.f7 a_scheme_Mono = true := by kernel_rfl
theorem ok_r13_Equal : okFun Go.Proofs.Tryd.prog Go.Proofs.Tryd.f8 a_r13_Equal = true := by kernel_rfl
theorem ok_r13_Quantify : okFun Go.Proofs.Tryd.prog Go.Proofs.Tryd.f9 a_r13_Quantify = true := by kernel_rfl
theorem ok_l13_lives : okFun Go.Proofs.Tryd.prog Go.Proofs.Tryd.f10 a_l13_lives = true := by kernel_rfl
theorem ok_r12_Type : okFun Go.Proofs.Tryd.prog Go.Proofs.Tryd.f11 a_r12_Type = true := by kernel_rfl
theorem ok_r12_Preds : okFun Go.Proofs.Tryd.prog Go.Proofs.Tryd.f12 a_r12_Preds = true := by kernel_rfl
theorem ok_r04_Plain : okFun Go.Proofs.Tryd.prog Go.Proofs.Tryd.f13 a_r04_Plain = true := by kernel_rfl
theorem ok_r03_Kind : okFun Go.Proofs.Tryd.prog Go.Proofs.Tryd.f14 a_r03_Kind = true := by kernel_rfl
theorem ok_scheme_Quantify_1 : okFun Go.Proofs.Tryd.prog Go.Proofs.Tryd.f16 a_scheme_Quantify_1 = true := by kernel_rfl
theorem ok_scheme_variables : okFun Go.Proofs.Tryd.prog Go.Proofs.Tryd.f17 a_scheme_variables = true := by kernel_rfl
theorem ok_types_Subst : okFun Go.Proofs.Tryd.prog Go.Proofs.Tryd.f18 a_types_Subst = true := by kernel_rfl
theorem ok_r01_SameTexts : okFun Go.Proofs.Tryd.prog Go.Proofs.Tryd.f19 a_r01_SameTexts = true := by kernel_rfl
theorem ok_r04_Equal : okFun Go.Proofs.Tryd.prog Go.Proofs.Tryd.f20 a_r04_Equal = true := by kernel_rfl
theorem ok_r12_Same : okFun Go.Proofs.Tryd.prog Go.Proofs.Tryd.f21 a_r12_Same = true := by kernel_rfl
theorem ok_r03_Same : okFun Go.Proofs.Tryd.prog Go.Proofs.Tryd.f22 a_r03_Same = true := by kernel_rfl
theorem ok_r13_variables : okFun Go.Proofs.Tryd.prog Go.Proofs.Tryd.f23 a_r13_variables = true := by kernel_rfl
theorem ok_r01_Decimal : okFun Go.Proofs.Tryd.prog Go.Proofs.Tryd.f24 a_r01_Decimal = true := by kernel_rfl
theorem ok_types_Var : okFun Go.Proofs.Tryd.prog Go.Proofs.Tryd.f25 a_types_Var = true := by kernel_rfl
theorem ok_types_Fun : okFun Go.Proofs.Tryd.prog Go.Proofs.Tryd.f26 a_types_Fun = true := by kernel_rfl
theorem ok_types_App : okFun Go.Proofs.Tryd.prog Go.Proofs.Tryd.f27 a_types_App = true := by kernel_rfl
theorem ok_types_Con : okFun Go.Proofs.Tryd.prog Go.Proofs.Tryd.f28 a_types_Con = true := by kernel_rfl
theorem ok_scheme_Print : okFun Go.Proofs.Tryd.prog Go.Proofs.Tryd.f29 a_scheme_Print = true := by kernel_rfl
theorem ok_r12_typ : okFun Go.Proofs.Tryd.prog Go.Proofs.Tryd.f30 a_r12_typ = true := by kernel_rfl
theorem ok_r01_Ints : okFun Go.Proofs.Tryd.prog Go.Proofs.Tryd.f31 a_r01_Ints = true := by kernel_rfl
theorem ok_r11_Names : okFun Go.Proofs.Tryd.prog Go.Proofs.Tryd.f32 a_r11_Names = true := by kernel_rfl
theorem ok_r12_pick : okFun Go.Proofs.Tryd.prog Go.Proofs.Tryd.f33 a_r12_pick = true := by kernel_rfl
theorem ok_r04_build : okFun Go.Proofs.Tryd.prog Go.Proofs.Tryd.f34 a_r04_build = true := by kernel_rfl
theorem ok_r03_Made : okFun Go.Proofs.Tryd.prog Go.Proofs.Tryd.f35 a_r03_Made = true := by kernel_rfl
theorem ok_slices_Index_int : okFun Go.Proofs.Tryd.prog Go.Proofs.Tryd.f37 a_slices_Index_int = true := by kernel_rfl
theorem ok_slices_Clone_Type : okFun Go.Proofs.Tryd.prog Go.Proofs.Tryd.f38 a_slices_Clone_Type = true := by kernel_rfl
theorem ok_slices_Index_string : okFun Go.Proofs.Tryd.prog Go.Proofs.Tryd.f39 a_slices_Index_string = true := by kernel_rfl
theorem ok_types_own : okFun Go.Proofs.Tryd.prog Go.Proofs.Tryd.f40 a_types_own = true := by kernel_rfl
theorem ok_types_apply : okFun Go.Proofs.Tryd.prog Go.Proofs.Tryd.f41 a_types_apply = true := by kernel_rfl
theorem ok_types_under : okFun Go.Proofs.Tryd.prog Go.Proofs.Tryd.f42 a_types_under = true := by kernel_rfl
theorem ok_r12_same : okFun Go.Proofs.Tryd.prog Go.Proofs.Tryd.f43 a_r12_same = true := by kernel_rfl
theorem ok_scheme_Canon : okFun Go.Proofs.Tryd.prog Go.Proofs.Tryd.f44 a_scheme_Canon = true := by kernel_rfl
theorem ok_types_Print : okFun Go.Proofs.Tryd.prog Go.Proofs.Tryd.f45 a_types_Print = true := by kernel_rfl
theorem ok_strings_Join : okFun Go.Proofs.Tryd.prog Go.Proofs.Tryd.f46 a_strings_Join = true := by kernel_rfl
theorem ok_r04_Name : okFun Go.Proofs.Tryd.prog Go.Proofs.Tryd.f47 a_r04_Name = true := by kernel_rfl
theorem ok_r04_Con : okFun Go.Proofs.Tryd.prog Go.Proofs.Tryd.f48 a_r04_Con = true := by kernel_rfl
theorem ok_r04_Fun : okFun Go.Proofs.Tryd.prog Go.Proofs.Tryd.f49 a_r04_Fun = true := by kernel_rfl
theorem ok_r04_app : okFun Go.Proofs.Tryd.prog Go.Proofs.Tryd.f50 a_r04_app = true := by kernel_rfl
theorem ok_types_Free : okFun Go.Proofs.Tryd.prog Go.Proofs.Tryd.f52 a_types_Free = true := by kernel_rfl
theorem ok_slices_Contains_string : okFun Go.Proofs.Tryd.prog Go.Proofs.Tryd.f53 a_slices_Contains_string = true := by kernel_rfl
theorem ok_types_letter : okFun Go.Proofs.Tryd.prog Go.Proofs.Tryd.f54 a_types_letter = true := by kernel_rfl
theorem ok_types_All : okFun Go.Proofs.Tryd.prog Go.Proofs.Tryd.f55 a_types_All = true := by kernel_rfl
theorem ok_scheme_others : okFun Go.Proofs.Tryd.prog Go.Proofs.Tryd.f56 a_scheme_others = true := by kernel_rfl
theorem ok_scheme_lettered_meet : okFun Go.Proofs.Tryd.prog Go.Proofs.Tryd.f57 a_scheme_lettered_meet = true := by kernel_rfl
theorem ok_scheme_lettered_letters : okFun Go.Proofs.Tryd.prog Go.Proofs.Tryd.f58 a_scheme_lettered_letters = true := by kernel_rfl
theorem ok_scheme_copied : okFun Go.Proofs.Tryd.prog Go.Proofs.Tryd.f59 a_scheme_copied = true := by kernel_rfl
theorem ok_scheme_put : okFun Go.Proofs.Tryd.prog Go.Proofs.Tryd.f60 a_scheme_put = true := by kernel_rfl
theorem ok_slices_SortStableFunc_Pred : okFun Go.Proofs.Tryd.prog Go.Proofs.Tryd.f61 a_slices_SortStableFunc_Pred = true := by kernel_rfl
theorem ok_scheme_byClass : okFun Go.Proofs.Tryd.prog Go.Proofs.Tryd.f62 a_scheme_byClass = true := by kernel_rfl
theorem ok_slices_CompactFunc_Pred : okFun Go.Proofs.Tryd.prog Go.Proofs.Tryd.f63 a_slices_CompactFunc_Pred = true := by kernel_rfl
theorem ok_scheme_Canon_1 : okFun Go.Proofs.Tryd.prog Go.Proofs.Tryd.f64 a_scheme_Canon_1 = true := by kernel_rfl
theorem ok_types_print : okFun Go.Proofs.Tryd.prog Go.Proofs.Tryd.f65 a_types_print = true := by kernel_rfl
theorem ok_strings_Builder_WriteString : okFun Go.Proofs.Tryd.prog Go.Proofs.Tryd.f67 a_strings_Builder_WriteString = true := by kernel_rfl
theorem ok_chars_Letters : okFun Go.Proofs.Tryd.prog Go.Proofs.Tryd.f73 a_chars_Letters = true := by kernel_rfl
theorem ok_slices_DeleteFunc_string : okFun Go.Proofs.Tryd.prog Go.Proofs.Tryd.f74 a_slices_DeleteFunc_string = true := by kernel_rfl
theorem ok_scheme_others_1 : okFun Go.Proofs.Tryd.prog Go.Proofs.Tryd.f75 a_scheme_others_1 = true := by kernel_rfl
theorem ok_scheme_lettered_letters_1 : okFun Go.Proofs.Tryd.prog Go.Proofs.Tryd.f76 a_scheme_lettered_letters_1 = true := by kernel_rfl
theorem ok_slices_Clone_Kind : okFun Go.Proofs.Tryd.prog Go.Proofs.Tryd.f77 a_slices_Clone_Kind = true := by kernel_rfl
theorem ok_slices_stableCmpFunc_Pred : okFun Go.Proofs.Tryd.prog Go.Proofs.Tryd.f78 a_slices_stableCmpFunc_Pred = true := by kernel_rfl
theorem ok_cmp_Or_int : okFun Go.Proofs.Tryd.prog Go.Proofs.Tryd.f79 a_cmp_Or_int = true := by kernel_rfl
theorem ok_cmp_Compare_string : okFun Go.Proofs.Tryd.prog Go.Proofs.Tryd.f80 a_cmp_Compare_string = true := by kernel_rfl
theorem ok_types_parts : okFun Go.Proofs.Tryd.prog Go.Proofs.Tryd.f81 a_types_parts = true := by kernel_rfl
theorem ok_types_boolean : okFun Go.Proofs.Tryd.prog Go.Proofs.Tryd.f82 a_types_boolean = true := by kernel_rfl
theorem ok_slices_IndexFunc_string : okFun Go.Proofs.Tryd.prog Go.Proofs.Tryd.f90 a_slices_IndexFunc_string = true := by kernel_rfl
theorem ok_slices_insertionSortCmpFunc_Pred : okFun Go.Proofs.Tryd.prog Go.Proofs.Tryd.f91 a_slices_insertionSortCmpFunc_Pred = true := by kernel_rfl
theorem ok_slices_symMergeCmpFunc_Pred : okFun Go.Proofs.Tryd.prog Go.Proofs.Tryd.f92 a_slices_symMergeCmpFunc_Pred = true := by kernel_rfl
theorem ok_cmp_isNaN_string : okFun Go.Proofs.Tryd.prog Go.Proofs.Tryd.f93 a_cmp_isNaN_string = true := by kernel_rfl
theorem ok_slices_rotateCmpFunc_Pred : okFun Go.Proofs.Tryd.prog Go.Proofs.Tryd.f98 a_slices_rotateCmpFunc_Pred = true := by kernel_rfl
theorem ok_slices_swapRangeCmpFunc_Pred : okFun Go.Proofs.Tryd.prog Go.Proofs.Tryd.f99 a_slices_swapRangeCmpFunc_Pred = true := by kernel_rfl
end Go.Fu

