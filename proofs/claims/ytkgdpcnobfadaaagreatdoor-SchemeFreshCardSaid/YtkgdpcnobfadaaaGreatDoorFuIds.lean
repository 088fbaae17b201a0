/-
  The program's numbers of functions, types, rows.
-/
import Derived.Test.YtkgdpcnobfadaaaGreatDoorMzRun
set_option linter.unusedSimpArgs false
set_option linter.unusedVariables false
namespace Go.Fu
open Go Go.Mx
def n_r13_Made : FuncId := 9
def n_unify_New : FuncId := 10
def n_r01_Around : FuncId := 11
def n_unify_Subst_Fresh : FuncId := 12
def n_scheme_Fresh : FuncId := 13
def n_r04_Equal : FuncId := 14
def n_r12_Same : FuncId := 15
def n_r13_Put : FuncId := 16
def n_r04_Subst : FuncId := 17
def n_l13_lives : FuncId := 18
def n_r13_Renamed : FuncId := 19
def n_l13_told : FuncId := 20
def n_l13_names : FuncId := 21
def n_scheme_Print : FuncId := 22
def n_scheme_Same : FuncId := 23
def n_r13_Equal : FuncId := 24
def n_scheme_Canon : FuncId := 25
def n_scheme_Quantify : FuncId := 26
def n_r04_Metas : FuncId := 27
def n_unify_Subst_Unify : FuncId := 28
def n_unify_Subst_Apply : FuncId := 29
def n_l13_world : FuncId := 30
def n_l13_instance : FuncId := 31
def n_unify_Match : FuncId := 32
def n_scheme_General : FuncId := 33
def n_scheme_Mono : FuncId := 34
def n_l13_may : FuncId := 35
def n_l13_whole : FuncId := 36
def n_r12_Type : FuncId := 37
def n_r12_Preds : FuncId := 38
def n_r04_Plain : FuncId := 39
def n_r03_Kind : FuncId := 40
def n_types_Meta : FuncId := 41
def n_scheme_put : FuncId := 42
def n_slices_Clone_Type : FuncId := 43
def n_r12_same : FuncId := 44
def n_r04_at : FuncId := 45
def n_r04_app : FuncId := 46
def n_r04_Free : FuncId := 47
def n_r01_Has : FuncId := 48
def n_r01_Letters : FuncId := 49
def n_types_Var : FuncId := 50
def n_types_Fun : FuncId := 51
def n_types_App : FuncId := 52
def n_types_Con : FuncId := 53
def n_r01_Decimal : FuncId := 54
def n_types_Print : FuncId := 55
def n_strings_Join : FuncId := 56
def n_scheme_Same_1 : FuncId := 57
def n_scheme_byClass : FuncId := 58
def n_slices_Equal_string : FuncId := 59
def n_slices_EqualFunc_Pred : FuncId := 60
def n_types_Same : FuncId := 61
def n_r01_SameTexts : FuncId := 62
def n_r03_Same : FuncId := 63
def n_scheme_others : FuncId := 64
def n_scheme_lettered_meet : FuncId := 65
def n_scheme_lettered_letters : FuncId := 66
def n_scheme_copied : FuncId := 67
def n_slices_Index_string : FuncId := 68
def n_slices_SortStableFunc_Pred : FuncId := 69
def n_slices_CompactFunc_Pred : FuncId := 70
def n_scheme_Canon_1 : FuncId := 71
def n_strconv_Itoa : FuncId := 72
def n_scheme_Quantify_1 : FuncId := 73
def n_scheme_variables : FuncId := 74
def n_r04_metas : FuncId := 75
def n_maps_Clone_Type : FuncId := 76
def n_unify_Subst_one : FuncId := 77
def n_unify_Subst_look : FuncId := 78
def n_unify_each : FuncId := 79
def n_r12_World : FuncId := 80
def n_classes_New : FuncId := 81
def n_unify_match : FuncId := 82
def n_scheme_apart : FuncId := 83
def n_slices_ContainsFunc_Pred : FuncId := 84
def n_scheme_General_1 : FuncId := 85
def n_entail_By : FuncId := 86
def n_types_Subst : FuncId := 87
def n_classes_Env_Class : FuncId := 88
def n_classes_Env_Len : FuncId := 89
def n_classes_Env_At : FuncId := 90
def n_r12_typ : FuncId := 91
def n_r01_Ints : FuncId := 92
def n_r11_Names : FuncId := 93
def n_r12_pick : FuncId := 94
def n_r04_build : FuncId := 95
def n_r03_Made : FuncId := 96
def n_r04_free : FuncId := 97
def n_types_own : FuncId := 98
def n_types_apply : FuncId := 99
def n_types_print : FuncId := 100
def n_strings_Builder_Grow : FuncId := 101
def n_strings_Builder_WriteString : FuncId := 102
def n_strings_Builder_String : FuncId := 103
def n_cmp_Or_int : FuncId := 104
def n_cmp_Compare_string : FuncId := 105
def n_types_same : FuncId := 106
def n_types_Free : FuncId := 107
def n_slices_DeleteFunc_string : FuncId := 108
def n_scheme_others_1 : FuncId := 109
def n_slices_Contains_string : FuncId := 110
def n_scheme_lettered_letters_1 : FuncId := 111
def n_chars_Letters : FuncId := 112
def n_slices_Clone_Kind : FuncId := 113
def n_slices_stableCmpFunc_Pred : FuncId := 114
def n_slices_Index_int : FuncId := 116
def n_unify_Subst_bind : FuncId := 118
def n_r11_Made : FuncId := 119
def n_r12_Vars : FuncId := 120
def n_r11_Above : FuncId := 121
def n_r11_Inst : FuncId := 122
def n_slices_IndexFunc_Pred : FuncId := 127
def n_classes_Env_Path : FuncId := 128
def n_entail_inst : FuncId := 129
def n_types_under : FuncId := 130
def n_slices_Clone_string : FuncId := 131
def n_slices_Clone_Sig : FuncId := 132
def n_r04_Name : FuncId := 133
def n_r04_Con : FuncId := 134
def n_r04_Fun : FuncId := 135
def n_types_parts : FuncId := 136
def n_types_boolean : FuncId := 137
def n_strings_Builder_copyCheck : FuncId := 138
def n_cmp_isNaN_string : FuncId := 140
def n_types_place : FuncId := 141
def n_slices_IndexFunc_string : FuncId := 142
def n_slices_insertionSortCmpFunc_Pred : FuncId := 143
def n_slices_symMergeCmpFunc_Pred : FuncId := 144
def n_unify_Subst_within : FuncId := 146
def n_unify_Subst_great : FuncId := 147
def n_r11_pick : FuncId := 148
def n_r11_Whole : FuncId := 149
def n_r11_above : FuncId := 150
def n_slices_Backward_Class_1 : FuncId := 151
def n_slices_Backward_Sig_1 : FuncId := 152
def n_classes_Env_above : FuncId := 153
def n_classes_Env_Inst : FuncId := 154
def n_classes_Env_refusals_1 : FuncId := 155
def n_slices_ContainsFunc_string : FuncId := 156
def n_classes_Env_climb : FuncId := 157
def n_classes_Env_Path_1 : FuncId := 158
def n_types_Spine : FuncId := 159
def n_entail_needs : FuncId := 160
def n_types_letter : FuncId := 161
def n_types_All : FuncId := 162
def n_slices_rotateCmpFunc_Pred : FuncId := 165
def n_slices_ContainsFunc_Type : FuncId := 170
def n_unify_Subst_within_1 : FuncId := 171
def n_unify_Subst_size : FuncId := 172
def n_r11_Class : FuncId := 173
def n_r11_In : FuncId := 174
def n_classes_Env_above_1 : FuncId := 175
def n_slices_IndexFunc_Inst : FuncId := 176
def n_classes_Env_Inst_1 : FuncId := 177
def n_classes_queue_classes_way_put : FuncId := 178
def n_classes_queue_classes_way_next : FuncId := 179
def n_slices_Clone_int : FuncId := 180
def n_slices_Reverse_Type : FuncId := 181
def n_entail_put : FuncId := 182
def n_slices_swapRangeCmpFunc_Pred : FuncId := 183
def n_slices_IndexFunc_Type : FuncId := 189
def n_l13_SchemeFresh : FuncId := 3
def k_api_At : RowK := ⟨117, 2, true⟩
theorem k_api_At_sz : k_api_At.sz = 2 := rfl
theorem k_api_At_ag : k_api_At.ag = true := rfl
theorem k_api_At_same : k_api_At.same k_api_At = true := rfl
def k_api_Class : RowK := ⟨132, 6, true⟩
theorem k_api_Class_sz : k_api_Class.sz = 6 := rfl
theorem k_api_Class_ag : k_api_Class.ag = true := rfl
theorem k_api_Class_same : k_api_Class.same k_api_Class = true := rfl
def k_api_Evid : RowK := ⟨126, 3, true⟩
theorem k_api_Evid_sz : k_api_Evid.sz = 3 := rfl
theorem k_api_Evid_ag : k_api_Evid.ag = true := rfl
theorem k_api_Evid_same : k_api_Evid.same k_api_Evid = true := rfl
def k_api_Inst : RowK := ⟨137, 6, true⟩
theorem k_api_Inst_sz : k_api_Inst.sz = 6 := rfl
theorem k_api_Inst_ag : k_api_Inst.ag = true := rfl
theorem k_api_Inst_same : k_api_Inst.same k_api_Inst = true := rfl
def k_api_Kind : RowK := ⟨77, 1, true⟩
theorem k_api_Kind_sz : k_api_Kind.sz = 1 := rfl
theorem k_api_Kind_ag : k_api_Kind.ag = true := rfl
theorem k_api_Kind_same : k_api_Kind.same k_api_Kind = true := rfl
def k_api_Pred : RowK := ⟨88, 5, true⟩
theorem k_api_Pred_sz : k_api_Pred.sz = 5 := rfl
theorem k_api_Pred_ag : k_api_Pred.ag = true := rfl
theorem k_api_Pred_same : k_api_Pred.same k_api_Pred = true := rfl
def k_api_Scheme : RowK := ⟨30, 7, true⟩
theorem k_api_Scheme_sz : k_api_Scheme.sz = 7 := rfl
theorem k_api_Scheme_ag : k_api_Scheme.ag = true := rfl
theorem k_api_Scheme_same : k_api_Scheme.same k_api_Scheme = true := rfl
def k_api_Sig : RowK := ⟨186, 9, true⟩
theorem k_api_Sig_sz : k_api_Sig.sz = 9 := rfl
theorem k_api_Sig_ag : k_api_Sig.ag = true := rfl
theorem k_api_Sig_same : k_api_Sig.same k_api_Sig = true := rfl
def k_api_Type : RowK := ⟨28, 4, true⟩
theorem k_api_Type_sz : k_api_Type.sz = 4 := rfl
theorem k_api_Type_ag : k_api_Type.ag = true := rfl
theorem k_api_Type_same : k_api_Type.same k_api_Type = true := rfl
def k_classes_way : RowK := ⟨216, 2, true⟩
theorem k_classes_way_sz : k_classes_way.sz = 2 := rfl
theorem k_classes_way_ag : k_classes_way.ag = true := rfl
theorem k_classes_way_same : k_classes_way.same k_classes_way = true := rfl
def k_int : RowK := ⟨3, 1, false⟩
theorem k_int_sz : k_int.sz = 1 := rfl
theorem k_int_ag : k_int.ag = false := rfl
theorem k_int_same : k_int.same k_int = true := rfl
def k_string : RowK := ⟨9, 1, false⟩
theorem k_string_sz : k_string.sz = 1 := rfl
theorem k_string_ag : k_string.ag = false := rfl
theorem k_string_same : k_string.same k_string = true := rfl
def k_uint8 : RowK := ⟨5, 1, false⟩
theorem k_uint8_sz : k_uint8.sz = 1 := rfl
theorem k_uint8_ag : k_uint8.ag = false := rfl
theorem k_uint8_same : k_uint8.same k_uint8 = true := rfl
def t_int : Nat := 3
def t_bool : Nat := 4
def t_string : Nat := 9
def t_L_int : Nat := 22
def t_L_api_Pred : Nat := 25
def t_api_Scheme : Nat := 30
def t_P_unify_Subst : Nat := 32
def t_P_classes_Env : Nat := 56
def t_L_api_Class : Nat := 58
def t_unify_Subst : Nat := 81
def t_P_scheme_lettered : Nat := 102
def t_scheme_lettered : Nat := 105
def t_L_api_Sig : Nat := 130
def t_api_Inst : Nat := 137
def t_strings_Builder : Nat := 153
def t_classes_queue_classes_way : Nat := 244
end Go.Fu

