/-
 The table of the functions that the machine runs,and their fit.
-/
import Derived.Test.YtieacpoabejcoaaGreatDoorFsOk
import Derived.Test.YtieacpoabejcoaaGreatDoorFsString
set_option maxHeartbeats 4000000
set_option linter.unusedSimpArgs false
set_option linter.unusedVariables false
set_option linter.unusedSectionVars false
namespace Go.Fu
open Go Go.Mx
set_option maxRecDepth 100000
instance:LoopKit:=⟨fun N c c2=>okCode Go.Proofs.Tryz.prog N true c c2=true⟩
instance:KitOf Go.Proofs.Tryz.prog inferInstance:=⟨fun _ _ _=>Iff.rfl⟩
def Γa:FuncId→Option AFun:=fun f=>match f with
 | 5=>some a_40
 | 7=>some a_120
 | 17=>some a_218
 | 18=>some a_77
 | 19=>some a_151
 | 21=>some a_126
 | 22=>some a_91
 | 23=>some a_221
 | 25=>some a_219
 | 27=>some a_161
 | 28=>some a_160
 | 29=>some a_117
 | 30=>some a_156
 | 31=>some a_152
 | 37=>some a_229
 | 40=>some a_223
 | 43=>some a_174
 | 48=>some a_175
 | 49=>some a_240
 | 50=>some a_173
 | 51=>some a_238
 | 52=>some a_222
 | 53=>some a_162
 | 54=>some a_74
 | 55=>some a_163
 | 56=>some a_20
 | 58=>some a_9
 | 59=>some a_165
 | 60=>some a_170
 | 61=>some a_164
 | 62=>some a_150
 | 63=>some a_10
 | 65=>some a_116
 | 66=>some a_72
 | 68=>some a_227
 | 69=>some a_226
 | 70=>some a_224
 | 72=>some a_125
 | 73=>some a_233
 | 74=>some a_230
 | 75=>some a_220
 | 78=>some a_2
 | 79=>some a_78
 | 80=>some a_85
 | 81=>some a_48
 | 82=>some a_6
 | 83=>some a_26
 | 86=>some a_216
 | 87=>some a_215
 | 88=>some a_241
 | 89=>some a_33
 | 92=>some a_177
 | 93=>some a_176
 | 94=>some a_237
 | 95=>some a_119
 | 96=>some a_87
 | 97=>some a_158
 | 98=>some a_82
 | 99=>some a_121
 | 100=>some a_166
 | 101=>some a_168
 | 102=>some a_146
 | 103=>some a_118
 | 104=>some a_157
 | 106=>some a_172
 | 107=>some a_24
 | 111=>some a_124
 | 112=>some a_122
 | 113=>some a_239
 | 114=>some a_232
 | 115=>some a_228
 | 116=>some a_231
 | 117=>some a_225
 | 118=>some a_214
 | 120=>some a_235
 | 121=>some a_155
 | 122=>some a_153
 | 123=>some a_154
 | 125=>some a_217
 | 126=>some a_244
 | 127=>some a_178
 | 131=>some a_236
 | 133=>some a_46
 | 134=>some a_159
 | 135=>some a_21
 | 136=>some a_167
 | 137=>some a_169
 | 138=>some a_145
 | 139=>some a_73
 | 140=>some a_147
 | 141=>some a_171
 | 142=>some a_113
 | 143=>some a_111
 | 148=>some a_97
 | 149=>some a_234
 | 155=>some a_243
 | 156=>some a_242
 | 162=>some a_80
 | 163=>some a_81
 | 164=>some a_112
 | 165=>some a_95
 | 166=>some a_110
 | 167=>some a_149
 | 168=>some a_58
 | 169=>some a_123
 | _=>none
theorem Γa_holds:Holds Go.Proofs.Tryz.prog Γa:=by
 intro f af h
 unfold Γa at h
 split at h
 ·cases h; exact ⟨rfl,_,Go.Proofs.Tryz.func5,ok_l13_SchemeInstance⟩
 ·cases h; exact ⟨rfl,_,Go.Proofs.Tryz.func7,ok_r13_Made⟩
 ·cases h; exact ⟨rfl,_,Go.Proofs.Tryz.func17,ok_l13_lives⟩
 ·cases h; exact ⟨rfl,_,Go.Proofs.Tryz.func18,ok_l13_world⟩
 ·cases h; exact ⟨rfl,_,Go.Proofs.Tryz.func19,ok_l13_instance⟩
 ·cases h; exact ⟨rfl,_,Go.Proofs.Tryz.func21,ok_unify_Match⟩
 ·cases h; exact ⟨rfl,_,Go.Proofs.Tryz.func22,ok_scheme_General⟩
 ·cases h; exact ⟨rfl,_,Go.Proofs.Tryz.func23,ok_scheme_Mono⟩
 ·cases h; exact ⟨rfl,_,Go.Proofs.Tryz.func25,ok_scheme_Canon⟩
 ·cases h; exact ⟨rfl,_,Go.Proofs.Tryz.func27,ok_r12_Type⟩
 ·cases h; exact ⟨rfl,_,Go.Proofs.Tryz.func28,ok_r12_Preds⟩
 ·cases h; exact ⟨rfl,_,Go.Proofs.Tryz.func29,ok_r01_Around⟩
 ·cases h; exact ⟨rfl,_,Go.Proofs.Tryz.func30,ok_r04_Plain⟩
 ·cases h; exact ⟨rfl,_,Go.Proofs.Tryz.func31,ok_r03_Kind⟩
 ·cases h; exact ⟨rfl,_,Go.Proofs.Tryz.func37,ok_scheme_put⟩
 ·cases h; exact ⟨rfl,_,Go.Proofs.Tryz.func40,ok_scheme_byClass⟩
 ·cases h; exact ⟨rfl,_,Go.Proofs.Tryz.func43,ok_types_Same⟩
 ·cases h; exact ⟨rfl,_,Go.Proofs.Tryz.func48,ok_types_Var⟩
 ·cases h; exact ⟨rfl,_,Go.Proofs.Tryz.func49,ok_types_Fun⟩
 ·cases h; exact ⟨rfl,_,Go.Proofs.Tryz.func50,ok_types_App⟩
 ·cases h; exact ⟨rfl,_,Go.Proofs.Tryz.func51,ok_types_Con⟩
 ·cases h; exact ⟨rfl,_,Go.Proofs.Tryz.func52,ok_scheme_Print⟩
 ·cases h; exact ⟨rfl,_,Go.Proofs.Tryz.func53,ok_r12_World⟩
 ·cases h; exact ⟨rfl,_,Go.Proofs.Tryz.func54,ok_classes_New⟩
 ·cases h; exact ⟨rfl,_,Go.Proofs.Tryz.func55,ok_r13_Put⟩
 ·cases h; exact ⟨rfl,_,Go.Proofs.Tryz.func56,ok_r04_Subst⟩
 ·cases h; exact ⟨rfl,_,Go.Proofs.Tryz.func58,ok_unify_match⟩
 ·cases h; exact ⟨rfl,_,Go.Proofs.Tryz.func59,ok_scheme_apart⟩
 ·cases h; exact ⟨rfl,_,Go.Proofs.Tryz.func60,ok_slices_ContainsFunc_Pred⟩
 ·cases h; exact ⟨rfl,_,Go.Proofs.Tryz.func61,ok_scheme_General_1⟩
 ·cases h; exact ⟨rfl,_,Go.Proofs.Tryz.func62,ok_entail_By⟩
 ·cases h; exact ⟨rfl,_,Go.Proofs.Tryz.func63,ok_types_Subst⟩
 ·cases h; exact ⟨rfl,_,Go.Proofs.Tryz.func65,ok_l13_told⟩
 ·cases h; exact ⟨rfl,_,Go.Proofs.Tryz.func66,ok_classes_Env_Class⟩
 ·cases h; exact ⟨rfl,_,Go.Proofs.Tryz.func68,ok_scheme_others⟩
 ·cases h; exact ⟨rfl,_,Go.Proofs.Tryz.func69,ok_scheme_lettered_meet⟩
 ·cases h; exact ⟨rfl,_,Go.Proofs.Tryz.func70,ok_scheme_lettered_letters⟩
 ·cases h; exact ⟨rfl,_,Go.Proofs.Tryz.func72,ok_slices_Index_string⟩
 ·cases h; exact ⟨rfl,_,Go.Proofs.Tryz.func73,ok_slices_SortStableFunc_Pred⟩
 ·cases h; exact ⟨rfl,_,Go.Proofs.Tryz.func74,ok_slices_CompactFunc_Pred⟩
 ·cases h; exact ⟨rfl,_,Go.Proofs.Tryz.func75,ok_scheme_Canon_1⟩
 ·cases h; exact ⟨rfl,_,Go.Proofs.Tryz.func78,ok_r12_typ⟩
 ·cases h; exact ⟨rfl,_,Go.Proofs.Tryz.func79,ok_r01_Ints⟩
 ·cases h; exact ⟨rfl,_,Go.Proofs.Tryz.func80,ok_r11_Names⟩
 ·cases h; exact ⟨rfl,_,Go.Proofs.Tryz.func81,ok_r12_pick⟩
 ·cases h; exact ⟨rfl,_,Go.Proofs.Tryz.func82,ok_r04_build⟩
 ·cases h; exact ⟨rfl,_,Go.Proofs.Tryz.func83,ok_r03_Made⟩
 ·cases h; exact ⟨rfl,_,Go.Proofs.Tryz.func86,ok_cmp_Or_int⟩
 ·cases h; exact ⟨rfl,_,Go.Proofs.Tryz.func87,ok_cmp_Compare_string⟩
 ·cases h; exact ⟨rfl,_,Go.Proofs.Tryz.func88,ok_types_Print⟩
 ·cases h; exact ⟨rfl,_,Go.Proofs.Tryz.func89,ok_types_same⟩
 ·cases h; exact ⟨rfl,_,Go.Proofs.Tryz.func92,ok_types_own⟩
 ·cases h; exact ⟨rfl,_,Go.Proofs.Tryz.func93,ok_types_apply⟩
 ·cases h; exact ⟨rfl,_,Go.Proofs.Tryz.func94,ok_strings_Join⟩
 ·cases h; exact ⟨rfl,_,Go.Proofs.Tryz.func95,ok_r11_Made⟩
 ·cases h; exact ⟨rfl,_,Go.Proofs.Tryz.func96,ok_r12_Vars⟩
 ·cases h; exact ⟨rfl,_,Go.Proofs.Tryz.func97,ok_r11_Above⟩
 ·cases h; exact ⟨rfl,_,Go.Proofs.Tryz.func98,ok_r11_Inst⟩
 ·cases h; exact ⟨rfl,_,Go.Proofs.Tryz.func99,ok_slices_Clone_Inst⟩
 ·cases h; exact ⟨rfl,_,Go.Proofs.Tryz.func100,ok_slices_Backward_Class⟩
 ·cases h; exact ⟨rfl,_,Go.Proofs.Tryz.func101,ok_slices_Backward_Sig⟩
 ·cases h; exact ⟨rfl,_,Go.Proofs.Tryz.func102,ok_classes_Env_refusals⟩
 ·cases h; exact ⟨rfl,_,Go.Proofs.Tryz.func103,ok_r04_at⟩
 ·cases h; exact ⟨rfl,_,Go.Proofs.Tryz.func104,ok_r04_app⟩
 ·cases h; exact ⟨rfl,_,Go.Proofs.Tryz.func106,ok_slices_IndexFunc_Pred⟩
 ·cases h; exact ⟨rfl,_,Go.Proofs.Tryz.func107,ok_classes_Env_Path⟩
 ·cases h; exact ⟨rfl,_,Go.Proofs.Tryz.func111,ok_slices_Clone_string⟩
 ·cases h; exact ⟨rfl,_,Go.Proofs.Tryz.func112,ok_slices_Clone_Sig⟩
 ·cases h; exact ⟨rfl,_,Go.Proofs.Tryz.func113,ok_types_Free⟩
 ·cases h; exact ⟨rfl,_,Go.Proofs.Tryz.func114,ok_slices_DeleteFunc_string⟩
 ·cases h; exact ⟨rfl,_,Go.Proofs.Tryz.func115,ok_scheme_others_1⟩
 ·cases h; exact ⟨rfl,_,Go.Proofs.Tryz.func116,ok_slices_Contains_string⟩
 ·cases h; exact ⟨rfl,_,Go.Proofs.Tryz.func117,ok_scheme_lettered_letters_1⟩
 ·cases h; exact ⟨rfl,_,Go.Proofs.Tryz.func118,ok_chars_Letters⟩
 ·cases h; exact ⟨rfl,_,Go.Proofs.Tryz.func120,ok_slices_stableCmpFunc_Pred⟩
 ·cases h; exact ⟨rfl,_,Go.Proofs.Tryz.func121,ok_r04_Name⟩
 ·cases h; exact ⟨rfl,_,Go.Proofs.Tryz.func122,ok_r04_Con⟩
 ·cases h; exact ⟨rfl,_,Go.Proofs.Tryz.func123,ok_r04_Fun⟩
 ·cases h; exact ⟨rfl,_,Go.Proofs.Tryz.func125,ok_cmp_isNaN_string⟩
 ·cases h; exact ⟨rfl,_,Go.Proofs.Tryz.func126,ok_types_print⟩
 ·cases h; exact ⟨rfl,_,Go.Proofs.Tryz.func127,ok_types_place⟩
 ·cases h; exact ⟨rfl,_,Go.Proofs.Tryz.func131,ok_strings_Builder_WriteString⟩
 ·cases h; exact ⟨rfl,_,Go.Proofs.Tryz.func133,ok_r11_pick⟩
 ·cases h; exact ⟨rfl,_,Go.Proofs.Tryz.func134,ok_r11_Whole⟩
 ·cases h; exact ⟨rfl,_,Go.Proofs.Tryz.func135,ok_r11_above⟩
 ·cases h; exact ⟨rfl,_,Go.Proofs.Tryz.func136,ok_slices_Backward_Class_1⟩
 ·cases h; exact ⟨rfl,_,Go.Proofs.Tryz.func137,ok_slices_Backward_Sig_1⟩
 ·cases h; exact ⟨rfl,_,Go.Proofs.Tryz.func138,ok_classes_Env_above⟩
 ·cases h; exact ⟨rfl,_,Go.Proofs.Tryz.func139,ok_classes_Env_Inst⟩
 ·cases h; exact ⟨rfl,_,Go.Proofs.Tryz.func140,ok_classes_Env_refusals_1⟩
 ·cases h; exact ⟨rfl,_,Go.Proofs.Tryz.func141,ok_slices_ContainsFunc_string⟩
 ·cases h; exact ⟨rfl,_,Go.Proofs.Tryz.func142,ok_classes_Env_climb⟩
 ·cases h; exact ⟨rfl,_,Go.Proofs.Tryz.func143,ok_classes_Env_Path_1⟩
 ·cases h; exact ⟨rfl,_,Go.Proofs.Tryz.func148,ok_slices_IndexFunc_string⟩
 ·cases h; exact ⟨rfl,_,Go.Proofs.Tryz.func149,ok_slices_insertionSortCmpFunc_Pred⟩
 ·cases h; exact ⟨rfl,_,Go.Proofs.Tryz.func155,ok_types_parts⟩
 ·cases h; exact ⟨rfl,_,Go.Proofs.Tryz.func156,ok_types_boolean⟩
 ·cases h; exact ⟨rfl,_,Go.Proofs.Tryz.func162,ok_r11_Class⟩
 ·cases h; exact ⟨rfl,_,Go.Proofs.Tryz.func163,ok_r11_In⟩
 ·cases h; exact ⟨rfl,_,Go.Proofs.Tryz.func164,ok_classes_Env_above_1⟩
 ·cases h; exact ⟨rfl,_,Go.Proofs.Tryz.func165,ok_slices_IndexFunc_Inst⟩
 ·cases h; exact ⟨rfl,_,Go.Proofs.Tryz.func166,ok_classes_Env_Inst_1⟩
 ·cases h; exact ⟨rfl,_,Go.Proofs.Tryz.func167,ok_classes_queue_classes_way_put⟩
 ·cases h; exact ⟨rfl,_,Go.Proofs.Tryz.func168,ok_classes_queue_classes_way_next⟩
 ·cases h; exact ⟨rfl,_,Go.Proofs.Tryz.func169,ok_slices_Clone_int⟩
 ·cases h
def Ra:RecF:=fun _ _ _ _=>none
theorem Ra_sound {κ2:Ctx}:RSound Go.Proofs.Tryz.prog κ2 Ra:=fun _ _ _ _ _ _ h=>by cases h
noncomputable def livesA (n:Nat) (f:FuncId):Bool:=match runQ Γa Ra Xa n false f [] {objs:=[],tys:=[],oth:=[],next:=0} with
 | some (.ret ⟨false,.bool true⟩,_)=>true
 | _=>false
end Go.Fu
