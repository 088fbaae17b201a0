/-
  The program's numbers of functions, types, rows.
-/
import Derived.Test.YtkgdpcnobfadaaaDoorMzRun
set_option linter.unusedSimpArgs false
set_option linter.unusedVariables false
namespace Go.Fu
open Go Go.Mx
def n_r13_Made : FuncId := 4
def n_r01_Around : FuncId := 5
def n_scheme_Quantify : FuncId := 6
def n_scheme_Mono : FuncId := 7
def n_r13_Equal : FuncId := 8
def n_r13_Quantify : FuncId := 9
def n_l13_lives : FuncId := 10
def n_r12_Type : FuncId := 11
def n_r12_Preds : FuncId := 12
def n_r04_Plain : FuncId := 13
def n_r03_Kind : FuncId := 14
def n_strconv_Itoa : FuncId := 15
def n_scheme_Quantify_1 : FuncId := 16
def n_scheme_variables : FuncId := 17
def n_types_Subst : FuncId := 18
def n_r01_SameTexts : FuncId := 19
def n_r04_Equal : FuncId := 20
def n_r12_Same : FuncId := 21
def n_r03_Same : FuncId := 22
def n_r13_variables : FuncId := 23
def n_r01_Decimal : FuncId := 24
def n_types_Var : FuncId := 25
def n_types_Fun : FuncId := 26
def n_types_App : FuncId := 27
def n_types_Con : FuncId := 28
def n_scheme_Print : FuncId := 29
def n_r12_typ : FuncId := 30
def n_r01_Ints : FuncId := 31
def n_r11_Names : FuncId := 32
def n_r12_pick : FuncId := 33
def n_r04_build : FuncId := 34
def n_r03_Made : FuncId := 35
def n_slices_Index_int : FuncId := 37
def n_slices_Clone_Type : FuncId := 38
def n_slices_Index_string : FuncId := 39
def n_types_own : FuncId := 40
def n_types_apply : FuncId := 41
def n_types_under : FuncId := 42
def n_r12_same : FuncId := 43
def n_scheme_Canon : FuncId := 44
def n_types_Print : FuncId := 45
def n_strings_Join : FuncId := 46
def n_r04_Name : FuncId := 47
def n_r04_Con : FuncId := 48
def n_r04_Fun : FuncId := 49
def n_r04_app : FuncId := 50
def n_types_Free : FuncId := 52
def n_slices_Contains_string : FuncId := 53
def n_types_letter : FuncId := 54
def n_types_All : FuncId := 55
def n_scheme_others : FuncId := 56
def n_scheme_lettered_meet : FuncId := 57
def n_scheme_lettered_letters : FuncId := 58
def n_scheme_copied : FuncId := 59
def n_scheme_put : FuncId := 60
def n_slices_SortStableFunc_Pred : FuncId := 61
def n_scheme_byClass : FuncId := 62
def n_slices_CompactFunc_Pred : FuncId := 63
def n_scheme_Canon_1 : FuncId := 64
def n_types_print : FuncId := 65
def n_strings_Builder_Grow : FuncId := 66
def n_strings_Builder_WriteString : FuncId := 67
def n_strings_Builder_String : FuncId := 68
def n_chars_Letters : FuncId := 73
def n_slices_DeleteFunc_string : FuncId := 74
def n_scheme_others_1 : FuncId := 75
def n_scheme_lettered_letters_1 : FuncId := 76
def n_slices_Clone_Kind : FuncId := 77
def n_slices_stableCmpFunc_Pred : FuncId := 78
def n_cmp_Or_int : FuncId := 79
def n_cmp_Compare_string : FuncId := 80
def n_types_parts : FuncId := 81
def n_types_boolean : FuncId := 82
def n_strings_Builder_copyCheck : FuncId := 83
def n_slices_IndexFunc_string : FuncId := 90
def n_slices_insertionSortCmpFunc_Pred : FuncId := 91
def n_slices_symMergeCmpFunc_Pred : FuncId := 92
def n_cmp_isNaN_string : FuncId := 93
def n_slices_rotateCmpFunc_Pred : FuncId := 98
def n_slices_swapRangeCmpFunc_Pred : FuncId := 99
def n_l13_SchemeQuantify : FuncId := 3
def k_api_Kind : RowK := ⟨41, 1, true⟩
theorem k_api_Kind_sz : k_api_Kind.sz = 1 := rfl
theorem k_api_Kind_ag : k_api_Kind.ag = true := rfl
theorem k_api_Kind_same : k_api_Kind.same k_api_Kind = true := rfl
def k_api_Pred : RowK := ⟨47, 5, true⟩
theorem k_api_Pred_sz : k_api_Pred.sz = 5 := rfl
theorem k_api_Pred_ag : k_api_Pred.ag = true := rfl
theorem k_api_Pred_same : k_api_Pred.same k_api_Pred = true := rfl
def k_api_Type : RowK := ⟨28, 4, true⟩
theorem k_api_Type_sz : k_api_Type.sz = 4 := rfl
theorem k_api_Type_ag : k_api_Type.ag = true := rfl
theorem k_api_Type_same : k_api_Type.same k_api_Type = true := rfl
def k_int : RowK := ⟨3, 1, false⟩
theorem k_int_sz : k_int.sz = 1 := rfl
theorem k_int_ag : k_int.ag = false := rfl
theorem k_int_same : k_int.same k_int = true := rfl
def k_string : RowK := ⟨9, 1, false⟩
theorem k_string_sz : k_string.sz = 1 := rfl
theorem k_string_ag : k_string.ag = false := rfl
theorem k_string_same : k_string.same k_string = true := rfl
def k_uint8 : RowK := ⟨5, 1, false⟩
theorem k_uint8_sz : k_uint8.sz = 1 := rfl
theorem k_uint8_ag : k_uint8.ag = false := rfl
theorem k_uint8_same : k_uint8.same k_uint8 = true := rfl
def t_string : Nat := 9
def t_L_int : Nat := 22
def t_api_Scheme : Nat := 30
def t_P_scheme_lettered : Nat := 79
def t_scheme_lettered : Nat := 82
def t_strings_Builder : Nat := 94
end Go.Fu

