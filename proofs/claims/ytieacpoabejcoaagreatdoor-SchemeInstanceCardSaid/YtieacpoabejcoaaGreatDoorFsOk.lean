/-
 The fit of the program's functions and the machine's code: reckoned by the kernel.
-/
import Derived.Test.YtieacpoabejcoaaGreatDoorProg
import Derived.Test.YtieacpoabejcoaaGreatDoorFsString
set_option maxHeartbeats 4000000
set_option linter.unusedSimpArgs false
set_option linter.unusedVariables false
set_option linter.unusedSectionVars false
namespace Go.Fu
open Go Go.Mx
theorem ok_l13_SchemeInstance:okFun Go.Proofs.Tryz.prog Go.Proofs.Tryz.f5 a_40=true:=by kernel_rfl
theorem ok_r13_Made:okFun Go.Proofs.Tryz.prog Go.Proofs.Tryz.f7 a_120=true:=by kernel_rfl
theorem ok_l13_lives:okFun Go.Proofs.Tryz.prog Go.Proofs.Tryz.f17 a_218=true:=by kernel_rfl
theorem ok_l13_world:okFun Go.Proofs.Tryz.prog Go.Proofs.Tryz.f18 a_77=true:=by kernel_rfl
theorem ok_l13_instance:okFun Go.Proofs.Tryz.prog Go.Proofs.Tryz.f19 a_151=true:=by kernel_rfl
theorem ok_unify_Match:okFun Go.Proofs.Tryz.prog Go.Proofs.Tryz.f21 a_126=true:=by kernel_rfl
theorem ok_scheme_General:okFun Go.Proofs.Tryz.prog Go.Proofs.Tryz.f22 a_91=true:=by kernel_rfl
theorem ok_scheme_Mono:okFun Go.Proofs.Tryz.prog Go.Proofs.Tryz.f23 a_221=true:=by kernel_rfl
theorem ok_scheme_Canon:okFun Go.Proofs.Tryz.prog Go.Proofs.Tryz.f25 a_219=true:=by kernel_rfl
theorem ok_r12_Type:okFun Go.Proofs.Tryz.prog Go.Proofs.Tryz.f27 a_161=true:=by kernel_rfl
theorem ok_r12_Preds:okFun Go.Proofs.Tryz.prog Go.Proofs.Tryz.f28 a_160=true:=by kernel_rfl
theorem ok_r01_Around:okFun Go.Proofs.Tryz.prog Go.Proofs.Tryz.f29 a_117=true:=by kernel_rfl
theorem ok_r04_Plain:okFun Go.Proofs.Tryz.prog Go.Proofs.Tryz.f30 a_156=true:=by kernel_rfl
theorem ok_r03_Kind:okFun Go.Proofs.Tryz.prog Go.Proofs.Tryz.f31 a_152=true:=by kernel_rfl
theorem ok_scheme_put:okFun Go.Proofs.Tryz.prog Go.Proofs.Tryz.f37 a_229=true:=by kernel_rfl
theorem ok_scheme_byClass:okFun Go.Proofs.Tryz.prog Go.Proofs.Tryz.f40 a_223=true:=by kernel_rfl
theorem ok_types_Same:okFun Go.Proofs.Tryz.prog Go.Proofs.Tryz.f43 a_174=true:=by kernel_rfl
theorem ok_types_Var:okFun Go.Proofs.Tryz.prog Go.Proofs.Tryz.f48 a_175=true:=by kernel_rfl
theorem ok_types_Fun:okFun Go.Proofs.Tryz.prog Go.Proofs.Tryz.f49 a_240=true:=by kernel_rfl
theorem ok_types_App:okFun Go.Proofs.Tryz.prog Go.Proofs.Tryz.f50 a_173=true:=by kernel_rfl
theorem ok_types_Con:okFun Go.Proofs.Tryz.prog Go.Proofs.Tryz.f51 a_238=true:=by kernel_rfl
theorem ok_scheme_Print:okFun Go.Proofs.Tryz.prog Go.Proofs.Tryz.f52 a_222=true:=by kernel_rfl
theorem ok_r12_World:okFun Go.Proofs.Tryz.prog Go.Proofs.Tryz.f53 a_162=true:=by kernel_rfl
theorem ok_classes_New:okFun Go.Proofs.Tryz.prog Go.Proofs.Tryz.f54 a_74=true:=by kernel_rfl
theorem ok_r13_Put:okFun Go.Proofs.Tryz.prog Go.Proofs.Tryz.f55 a_163=true:=by kernel_rfl
theorem ok_r04_Subst:okFun Go.Proofs.Tryz.prog Go.Proofs.Tryz.f56 a_20=true:=by kernel_rfl
theorem ok_unify_match:okFun Go.Proofs.Tryz.prog Go.Proofs.Tryz.f58 a_9=true:=by kernel_rfl
theorem ok_scheme_apart:okFun Go.Proofs.Tryz.prog Go.Proofs.Tryz.f59 a_165=true:=by kernel_rfl
theorem ok_slices_ContainsFunc_Pred:okFun Go.Proofs.Tryz.prog Go.Proofs.Tryz.f60 a_170=true:=by kernel_rfl
theorem ok_scheme_General_1:okFun Go.Proofs.Tryz.prog Go.Proofs.Tryz.f61 a_164=true:=by kernel_rfl
theorem ok_entail_By:okFun Go.Proofs.Tryz.prog Go.Proofs.Tryz.f62 a_150=true:=by kernel_rfl
theorem ok_types_Subst:okFun Go.Proofs.Tryz.prog Go.Proofs.Tryz.f63 a_10=true:=by kernel_rfl
theorem ok_l13_told:okFun Go.Proofs.Tryz.prog Go.Proofs.Tryz.f65 a_116=true:=by kernel_rfl
theorem ok_classes_Env_Class:okFun Go.Proofs.Tryz.prog Go.Proofs.Tryz.f66 a_72=true:=by kernel_rfl
theorem ok_scheme_others:okFun Go.Proofs.Tryz.prog Go.Proofs.Tryz.f68 a_227=true:=by kernel_rfl
theorem ok_scheme_lettered_meet:okFun Go.Proofs.Tryz.prog Go.Proofs.Tryz.f69 a_226=true:=by kernel_rfl
theorem ok_scheme_lettered_letters:okFun Go.Proofs.Tryz.prog Go.Proofs.Tryz.f70 a_224=true:=by kernel_rfl
theorem ok_slices_Index_string:okFun Go.Proofs.Tryz.prog Go.Proofs.Tryz.f72 a_125=true:=by kernel_rfl
theorem ok_slices_SortStableFunc_Pred:okFun Go.Proofs.Tryz.prog Go.Proofs.Tryz.f73 a_233=true:=by kernel_rfl
theorem ok_slices_CompactFunc_Pred:okFun Go.Proofs.Tryz.prog Go.Proofs.Tryz.f74 a_230=true:=by kernel_rfl
theorem ok_scheme_Canon_1:okFun Go.Proofs.Tryz.prog Go.Proofs.Tryz.f75 a_220=true:=by kernel_rfl
theorem ok_r12_typ:okFun Go.Proofs.Tryz.prog Go.Proofs.Tryz.f78 a_2=true:=by kernel_rfl
theorem ok_r01_Ints:okFun Go.Proofs.Tryz.prog Go.Proofs.Tryz.f79 a_78=true:=by kernel_rfl
theorem ok_r11_Names:okFun Go.Proofs.Tryz.prog Go.Proofs.Tryz.f80 a_85=true:=by kernel_rfl
theorem ok_r12_pick:okFun Go.Proofs.Tryz.prog Go.Proofs.Tryz.f81 a_48=true:=by kernel_rfl
theorem ok_r04_build:okFun Go.Proofs.Tryz.prog Go.Proofs.Tryz.f82 a_6=true:=by kernel_rfl
theorem ok_r03_Made:okFun Go.Proofs.Tryz.prog Go.Proofs.Tryz.f83 a_26=true:=by kernel_rfl
theorem ok_cmp_Or_int:okFun Go.Proofs.Tryz.prog Go.Proofs.Tryz.f86 a_216=true:=by kernel_rfl
theorem ok_cmp_Compare_string:okFun Go.Proofs.Tryz.prog Go.Proofs.Tryz.f87 a_215=true:=by kernel_rfl
theorem ok_types_Print:okFun Go.Proofs.Tryz.prog Go.Proofs.Tryz.f88 a_241=true:=by kernel_rfl
theorem ok_types_same:okFun Go.Proofs.Tryz.prog Go.Proofs.Tryz.f89 a_33=true:=by kernel_rfl
theorem ok_types_own:okFun Go.Proofs.Tryz.prog Go.Proofs.Tryz.f92 a_177=true:=by kernel_rfl
theorem ok_types_apply:okFun Go.Proofs.Tryz.prog Go.Proofs.Tryz.f93 a_176=true:=by kernel_rfl
theorem ok_strings_Join:okFun Go.Proofs.Tryz.prog Go.Proofs.Tryz.f94 a_237=true:=by kernel_rfl
theorem ok_r11_Made:okFun Go.Proofs.Tryz.prog Go.Proofs.Tryz.f95 a_119=true:=by kernel_rfl
theorem ok_r12_Vars:okFun Go.Proofs.Tryz.prog Go.Proofs.Tryz.f96 a_87=true:=by kernel_rfl
theorem ok_r11_Above:okFun Go.Proofs.Tryz.prog Go.Proofs.Tryz.f97 a_158=true:=by kernel_rfl
theorem ok_r11_Inst:okFun Go.Proofs.Tryz.prog Go.Proofs.Tryz.f98 a_82=true:=by kernel_rfl
theorem ok_slices_Clone_Inst:okFun Go.Proofs.Tryz.prog Go.Proofs.Tryz.f99 a_121=true:=by kernel_rfl
theorem ok_slices_Backward_Class:okFun Go.Proofs.Tryz.prog Go.Proofs.Tryz.f100 a_166=true:=by kernel_rfl
theorem ok_slices_Backward_Sig:okFun Go.Proofs.Tryz.prog Go.Proofs.Tryz.f101 a_168=true:=by kernel_rfl
theorem ok_classes_Env_refusals:okFun Go.Proofs.Tryz.prog Go.Proofs.Tryz.f102 a_146=true:=by kernel_rfl
theorem ok_r04_at:okFun Go.Proofs.Tryz.prog Go.Proofs.Tryz.f103 a_118=true:=by kernel_rfl
theorem ok_r04_app:okFun Go.Proofs.Tryz.prog Go.Proofs.Tryz.f104 a_157=true:=by kernel_rfl
theorem ok_slices_IndexFunc_Pred:okFun Go.Proofs.Tryz.prog Go.Proofs.Tryz.f106 a_172=true:=by kernel_rfl
theorem ok_classes_Env_Path:okFun Go.Proofs.Tryz.prog Go.Proofs.Tryz.f107 a_24=true:=by kernel_rfl
theorem ok_slices_Clone_string:okFun Go.Proofs.Tryz.prog Go.Proofs.Tryz.f111 a_124=true:=by kernel_rfl
theorem ok_slices_Clone_Sig:okFun Go.Proofs.Tryz.prog Go.Proofs.Tryz.f112 a_122=true:=by kernel_rfl
theorem ok_types_Free:okFun Go.Proofs.Tryz.prog Go.Proofs.Tryz.f113 a_239=true:=by kernel_rfl
theorem ok_slices_DeleteFunc_string:okFun Go.Proofs.Tryz.prog Go.Proofs.Tryz.f114 a_232=true:=by kernel_rfl
theorem ok_scheme_others_1:okFun Go.Proofs.Tryz.prog Go.Proofs.Tryz.f115 a_228=true:=by kernel_rfl
theorem ok_slices_Contains_string:okFun Go.Proofs.Tryz.prog Go.Proofs.Tryz.f116 a_231=true:=by kernel_rfl
theorem ok_scheme_lettered_letters_1:okFun Go.Proofs.Tryz.prog Go.Proofs.Tryz.f117 a_225=true:=by kernel_rfl
theorem ok_chars_Letters:okFun Go.Proofs.Tryz.prog Go.Proofs.Tryz.f118 a_214=true:=by kernel_rfl
theorem ok_slices_stableCmpFunc_Pred:okFun Go.Proofs.Tryz.prog Go.Proofs.Tryz.f120 a_235=true:=by kernel_rfl
theorem ok_r04_Name:okFun Go.Proofs.Tryz.prog Go.Proofs.Tryz.f121 a_155=true:=by kernel_rfl
theorem ok_r04_Con:okFun Go.Proofs.Tryz.prog Go.Proofs.Tryz.f122 a_153=true:=by kernel_rfl
theorem ok_r04_Fun:okFun Go.Proofs.Tryz.prog Go.Proofs.Tryz.f123 a_154=true:=by kernel_rfl
theorem ok_cmp_isNaN_string:okFun Go.Proofs.Tryz.prog Go.Proofs.Tryz.f125 a_217=true:=by kernel_rfl
theorem ok_types_print:okFun Go.Proofs.Tryz.prog Go.Proofs.Tryz.f126 a_244=true:=by kernel_rfl
theorem ok_types_place:okFun Go.Proofs.Tryz.prog Go.Proofs.Tryz.f127 a_178=true:=by kernel_rfl
theorem ok_strings_Builder_WriteString:okFun Go.Proofs.Tryz.prog Go.Proofs.Tryz.f131 a_236=true:=by kernel_rfl
theorem ok_r11_pick:okFun Go.Proofs.Tryz.prog Go.Proofs.Tryz.f133 a_46=true:=by kernel_rfl
theorem ok_r11_Whole:okFun Go.Proofs.Tryz.prog Go.Proofs.Tryz.f134 a_159=true:=by kernel_rfl
theorem ok_r11_above:okFun Go.Proofs.Tryz.prog Go.Proofs.Tryz.f135 a_21=true:=by kernel_rfl
theorem ok_slices_Backward_Class_1:okFun Go.Proofs.Tryz.prog Go.Proofs.Tryz.f136 a_167=true:=by kernel_rfl
theorem ok_slices_Backward_Sig_1:okFun Go.Proofs.Tryz.prog Go.Proofs.Tryz.f137 a_169=true:=by kernel_rfl
theorem ok_classes_Env_above:okFun Go.Proofs.Tryz.prog Go.Proofs.Tryz.f138 a_145=true:=by kernel_rfl
theorem ok_classes_Env_Inst:okFun Go.Proofs.Tryz.prog Go.Proofs.Tryz.f139 a_73=true:=by kernel_rfl
theorem ok_classes_Env_refusals_1:okFun Go.Proofs.Tryz.prog Go.Proofs.Tryz.f140 a_147=true:=by kernel_rfl
theorem ok_slices_ContainsFunc_string:okFun Go.Proofs.Tryz.prog Go.Proofs.Tryz.f141 a_171=true:=by kernel_rfl
theorem ok_classes_Env_climb:okFun Go.Proofs.Tryz.prog Go.Proofs.Tryz.f142 a_113=true:=by kernel_rfl
theorem ok_classes_Env_Path_1:okFun Go.Proofs.Tryz.prog Go.Proofs.Tryz.f143 a_111=true:=by kernel_rfl
theorem ok_slices_IndexFunc_string:okFun Go.Proofs.Tryz.prog Go.Proofs.Tryz.f148 a_97=true:=by kernel_rfl
theorem ok_slices_insertionSortCmpFunc_Pred:okFun Go.Proofs.Tryz.prog Go.Proofs.Tryz.f149 a_234=true:=by kernel_rfl
theorem ok_types_parts:okFun Go.Proofs.Tryz.prog Go.Proofs.Tryz.f155 a_243=true:=by kernel_rfl
theorem ok_types_boolean:okFun Go.Proofs.Tryz.prog Go.Proofs.Tryz.f156 a_242=true:=by kernel_rfl
theorem ok_r11_Class:okFun Go.Proofs.Tryz.prog Go.Proofs.Tryz.f162 a_80=true:=by kernel_rfl
theorem ok_r11_In:okFun Go.Proofs.Tryz.prog Go.Proofs.Tryz.f163 a_81=true:=by kernel_rfl
theorem ok_classes_Env_above_1:okFun Go.Proofs.Tryz.prog Go.Proofs.Tryz.f164 a_112=true:=by kernel_rfl
theorem ok_slices_IndexFunc_Inst:okFun Go.Proofs.Tryz.prog Go.Proofs.Tryz.f165 a_95=true:=by kernel_rfl
theorem ok_classes_Env_Inst_1:okFun Go.Proofs.Tryz.prog Go.Proofs.Tryz.f166 a_110=true:=by kernel_rfl
theorem ok_classes_queue_classes_way_put:okFun Go.Proofs.Tryz.prog Go.Proofs.Tryz.f167 a_149=true:=by kernel_rfl
theorem ok_classes_queue_classes_way_next:okFun Go.Proofs.Tryz.prog Go.Proofs.Tryz.f168 a_58=true:=by kernel_rfl
theorem ok_slices_Clone_int:okFun Go.Proofs.Tryz.prog Go.Proofs.Tryz.f169 a_123=true:=by kernel_rfl
end Go.Fu
