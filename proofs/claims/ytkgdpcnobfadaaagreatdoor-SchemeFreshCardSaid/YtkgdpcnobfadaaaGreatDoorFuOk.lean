/-
  The fit of the program's functions and the machine's code: reckoned by the kernel.
-/
import Derived.Test.YtkgdpcnobfadaaaGreatDoorProg
import Derived.Test.YtkgdpcnobfadaaaGreatDoorFuCode2
set_option linter.unusedSimpArgs false
set_option linter.unusedVariables false
namespace Go.Fu
open Go Go.Mx
theorem ok_l13_SchemeFresh : okFun Go.Proofs.Tryz.prog Go.Proofs.Tryz.f3 a_l13_SchemeFresh = true := by kernel_rfl
theorem ok_r13_Made : okFun Go.Proofs.Tryz.prog Go.Proofs.Tryz.f9 a_r13_Made = true := by kernel_rfl
theorem ok_unify_New : okFun Go.Proofs.Tryz.prog Go.Proofs.Tryz.f10 a_unify_New = true := by kernel_rfl
theorem ok_r01_Around : okFun Go.Proofs.Tryz.prog Go.Proofs.Tryz.f11 a_r01_Around = true := by kernel_rfl
theorem ok_unify_Subst_Fresh : okFun Go.Proofs.Tryz.prog Go.Proofs.Tryz.f12 a_unify_Subst_Fresh = true := by kernel_rfl
theorem ok_scheme_Fresh : okFun Go.Proofs.Tryz.prog Go.Proofs.Tryz.f13 a_scheme_Fresh = true := by kernel_rfl
theorem ok_r04_Equal : okFun Go.Proofs.Tryz.prog Go.Proofs.Tryz.f14 a_r04_Equal = true := by kernel_rfl
theorem ok_r12_Same : okFun Go.Proofs.Tryz.prog Go.Proofs.Tryz.f15 a_r12_Same = true := by kernel_rfl
theorem ok_r13_Put : okFun Go.Proofs.Tryz.prog Go.Proofs.Tryz.f16 a_r13_Put = true := by kernel_rfl
theorem ok_r04_Subst : okFun Go.Proofs.Tryz.prog Go.Proofs.Tryz.f17 a_r04_Subst = true := by kernel_rfl
theorem ok_l13_lives : okFun Go.Proofs.Tryz.prog Go.Proofs.Tryz.f18 a_l13_lives = true := by kernel_rfl
theorem ok_scheme_Print : okFun Go.Proofs.Tryz.prog Go.Proofs.Tryz.f22 a_scheme_Print = true := by kernel_rfl
theorem ok_scheme_Canon : okFun Go.Proofs.Tryz.prog Go.Proofs.Tryz.f25 a_scheme_Canon = true := by kernel_rfl
theorem ok_scheme_Mono : okFun Go.Proofs.Tryz.prog Go.Proofs.Tryz.f34 a_scheme_Mono = true := by kernel_rfl
theorem ok_r12_Type : okFun Go.Proofs.Tryz.prog Go.Proofs.Tryz.f37 a_r12_Type = true := by kernel_rfl
theorem ok_r12_Preds : okFun Go.Proofs.Tryz.prog Go.Proofs.Tryz.f38 a_r12_Preds = true := by kernel_rfl
theorem ok_r04_Plain : okFun Go.Proofs.Tryz.prog Go.Proofs.Tryz.f39 a_r04_Plain = true := by kernel_rfl
theorem ok_r03_Kind : okFun Go.Proofs.Tryz.prog Go.Proofs.Tryz.f40 a_r03_Kind = true := by kernel_rfl
theorem ok_types_Meta : okFun Go.Proofs.Tryz.prog Go.Proofs.Tryz.f41 a_types_Meta = true := by kernel_rfl
theorem ok_scheme_put : okFun Go.Proofs.Tryz.prog Go.Proofs.Tryz.f42 a_scheme_put = true := by kernel_rfl
theorem ok_slices_Clone_Type : okFun Go.Proofs.Tryz.prog Go.Proofs.Tryz.f43 a_slices_Clone_Type = true := by kernel_rfl
theorem ok_r12_same : okFun Go.Proofs.Tryz.prog Go.Proofs.Tryz.f44 a_r12_same = true := by kernel_rfl
theorem ok_r04_at : okFun Go.Proofs.Tryz.prog Go.Proofs.Tryz.f45 a_r04_at = true := by kernel_rfl
theorem ok_r04_app : okFun Go.Proofs.Tryz.prog Go.Proofs.Tryz.f46 a_r04_app = true := by kernel_rfl
theorem ok_r04_Free : okFun Go.Proofs.Tryz.prog Go.Proofs.Tryz.f47 a_r04_Free = true := by kernel_rfl
theorem ok_r01_Has : okFun Go.Proofs.Tryz.prog Go.Proofs.Tryz.f48 a_r01_Has = true := by kernel_rfl
theorem ok_r01_Letters : okFun Go.Proofs.Tryz.prog Go.Proofs.Tryz.f49 a_r01_Letters = true := by kernel_rfl
theorem ok_types_Var : okFun Go.Proofs.Tryz.prog Go.Proofs.Tryz.f50 a_types_Var = true := by kernel_rfl
theorem ok_types_Fun : okFun Go.Proofs.Tryz.prog Go.Proofs.Tryz.f51 a_types_Fun = true := by kernel_rfl
theorem ok_types_App : okFun Go.Proofs.Tryz.prog Go.Proofs.Tryz.f52 a_types_App = true := by kernel_rfl
theorem ok_types_Con : okFun Go.Proofs.Tryz.prog Go.Proofs.Tryz.f53 a_types_Con = true := by kernel_rfl
theorem ok_r01_Decimal : okFun Go.Proofs.Tryz.prog Go.Proofs.Tryz.f54 a_r01_Decimal = true := by kernel_rfl
theorem ok_types_Print : okFun Go.Proofs.Tryz.prog Go.Proofs.Tryz.f55 a_types_Print = true := by kernel_rfl
theorem ok_strings_Join : okFun Go.Proofs.Tryz.prog Go.Proofs.Tryz.f56 a_strings_Join = true := by kernel_rfl
theorem ok_scheme_byClass : okFun Go.Proofs.Tryz.prog Go.Proofs.Tryz.f58 a_scheme_byClass = true := by kernel_rfl
theorem ok_scheme_others : okFun Go.Proofs.Tryz.prog Go.Proofs.Tryz.f64 a_scheme_others = true := by kernel_rfl
theorem ok_scheme_lettered_meet : okFun Go.Proofs.Tryz.prog Go.Proofs.Tryz.f65 a_scheme_lettered_meet = true := by kernel_rfl
theorem ok_scheme_lettered_letters : okFun Go.Proofs.Tryz.prog Go.Proofs.Tryz.f66 a_scheme_lettered_letters = true := by kernel_rfl
theorem ok_scheme_copied : okFun Go.Proofs.Tryz.prog Go.Proofs.Tryz.f67 a_scheme_copied = true := by kernel_rfl
theorem ok_slices_Index_string : okFun Go.Proofs.Tryz.prog Go.Proofs.Tryz.f68 a_slices_Index_string = true := by kernel_rfl
theorem ok_slices_SortStableFunc_Pred : okFun Go.Proofs.Tryz.prog Go.Proofs.Tryz.f69 a_slices_SortStableFunc_Pred = true := by kernel_rfl
theorem ok_slices_CompactFunc_Pred : okFun Go.Proofs.Tryz.prog Go.Proofs.Tryz.f70 a_slices_CompactFunc_Pred = true := by kernel_rfl
theorem ok_scheme_Canon_1 : okFun Go.Proofs.Tryz.prog Go.Proofs.Tryz.f71 a_scheme_Canon_1 = true := by kernel_rfl
theorem ok_types_Subst : okFun Go.Proofs.Tryz.prog Go.Proofs.Tryz.f87 a_types_Subst = true := by kernel_rfl
theorem ok_r12_typ : okFun Go.Proofs.Tryz.prog Go.Proofs.Tryz.f91 a_r12_typ = true := by kernel_rfl
theorem ok_r01_Ints : okFun Go.Proofs.Tryz.prog Go.Proofs.Tryz.f92 a_r01_Ints = true := by kernel_rfl
theorem ok_r11_Names : okFun Go.Proofs.Tryz.prog Go.Proofs.Tryz.f93 a_r11_Names = true := by kernel_rfl
theorem ok_r12_pick : okFun Go.Proofs.Tryz.prog Go.Proofs.Tryz.f94 a_r12_pick = true := by kernel_rfl
theorem ok_r04_build : okFun Go.Proofs.Tryz.prog Go.Proofs.Tryz.f95 a_r04_build = true := by kernel_rfl
theorem ok_r03_Made : okFun Go.Proofs.Tryz.prog Go.Proofs.Tryz.f96 a_r03_Made = true := by kernel_rfl
theorem ok_r04_free : okFun Go.Proofs.Tryz.prog Go.Proofs.Tryz.f97 a_r04_free = true := by kernel_rfl
theorem ok_types_own : okFun Go.Proofs.Tryz.prog Go.Proofs.Tryz.f98 a_types_own = true := by kernel_rfl
theorem ok_types_apply : okFun Go.Proofs.Tryz.prog Go.Proofs.Tryz.f99 a_types_apply = true := by kernel_rfl
theorem ok_types_print : okFun Go.Proofs.Tryz.prog Go.Proofs.Tryz.f100 a_types_print = true := by kernel_rfl
theorem ok_strings_Builder_WriteString : okFun Go.Proofs.Tryz.prog Go.Proofs.Tryz.f102 a_strings_Builder_WriteString = true := by kernel_rfl
theorem ok_cmp_Or_int : okFun Go.Proofs.Tryz.prog Go.Proofs.Tryz.f104 a_cmp_Or_int = true := by kernel_rfl
theorem ok_cmp_Compare_string : okFun Go.Proofs.Tryz.prog Go.Proofs.Tryz.f105 a_cmp_Compare_string = true := by kernel_rfl
theorem ok_types_Free : okFun Go.Proofs.Tryz.prog Go.Proofs.Tryz.f107 a_types_Free = true := by kernel_rfl
theorem ok_slices_DeleteFunc_string : okFun Go.Proofs.Tryz.prog Go.Proofs.Tryz.f108 a_slices_DeleteFunc_string = true := by kernel_rfl
theorem ok_scheme_others_1 : okFun Go.Proofs.Tryz.prog Go.Proofs.Tryz.f109 a_scheme_others_1 = true := by kernel_rfl
theorem ok_slices_Contains_string : okFun Go.Proofs.Tryz.prog Go.Proofs.Tryz.f110 a_slices_Contains_string = true := by kernel_rfl
theorem ok_scheme_lettered_letters_1 : okFun Go.Proofs.Tryz.prog Go.Proofs.Tryz.f111 a_scheme_lettered_letters_1 = true := by kernel_rfl
theorem ok_chars_Letters : okFun Go.Proofs.Tryz.prog Go.Proofs.Tryz.f112 a_chars_Letters = true := by kernel_rfl
theorem ok_slices_Clone_Kind : okFun Go.Proofs.Tryz.prog Go.Proofs.Tryz.f113 a_slices_Clone_Kind = true := by kernel_rfl
theorem ok_slices_stableCmpFunc_Pred : okFun Go.Proofs.Tryz.prog Go.Proofs.Tryz.f114 a_slices_stableCmpFunc_Pred = true := by kernel_rfl
theorem ok_types_under : okFun Go.Proofs.Tryz.prog Go.Proofs.Tryz.f130 a_types_under = true := by kernel_rfl
theorem ok_r04_Name : okFun Go.Proofs.Tryz.prog Go.Proofs.Tryz.f133 a_r04_Name = true := by kernel_rfl
theorem ok_r04_Con : okFun Go.Proofs.Tryz.prog Go.Proofs.Tryz.f134 a_r04_Con = true := by kernel_rfl
theorem ok_r04_Fun : okFun Go.Proofs.Tryz.prog Go.Proofs.Tryz.f135 a_r04_Fun = true := by kernel_rfl
theorem ok_types_parts : okFun Go.Proofs.Tryz.prog Go.Proofs.Tryz.f136 a_types_parts = true := by kernel_rfl
theorem ok_types_boolean : okFun Go.Proofs.Tryz.prog Go.Proofs.Tryz.f137 a_types_boolean = true := by kernel_rfl
theorem ok_cmp_isNaN_string : okFun Go.Proofs.Tryz.prog Go.Proofs.Tryz.f140 a_cmp_isNaN_string = true := by kernel_rfl
theorem ok_slices_IndexFunc_string : okFun Go.Proofs.Tryz.prog Go.Proofs.Tryz.f142 a_slices_IndexFunc_string = true := by kernel_rfl
theorem ok_slices_insertionSortCmpFunc_Pred : okFun Go.Proofs.Tryz.prog Go.Proofs.Tryz.f143 a_slices_insertionSortCmpFunc_Pred = true := by kernel_rfl
theorem ok_slices_symMergeCmpFunc_Pred : okFun Go.Proofs.Tryz.prog Go.Proofs.Tryz.f144 a_slices_symMergeCmpFunc_Pred = true := by kernel_rfl
theorem ok_types_letter : okFun Go.Proofs.Tryz.prog Go.Proofs.Tryz.f161 a_types_letter = true := by kernel_rfl
theorem ok_types_All : okFun Go.Proofs.Tryz.prog Go.Proofs.Tryz.f162 a_types_All = true := by kernel_rfl
theorem ok_slices_rotateCmpFunc_Pred : okFun Go.Proofs.Tryz.prog Go.Proofs.Tryz.f165 a_slices_rotateCmpFunc_Pred = true := by kernel_rfl
theorem ok_slices_swapRangeCmpFunc_Pred : okFun Go.Proofs.Tryz.prog Go.Proofs.Tryz.f183 a_slices_swapRangeCmpFunc_Pred = true := by kernel_rfl
end Go.Fu

