/-
  The fit of the program's functions and the machine's code: reckoned by the kernel.
-/
import Derived.Test.YtmhedpkbfaginaaGreatDoorProg
import Derived.Test.YtmhedpkbfaginaaGreatDoorFlCode3
set_option linter.unusedSimpArgs false
set_option linter.unusedVariables false
set_option linter.unusedSectionVars false
namespace Go.Fu
open Go Go.Mx
theorem ok_l14_PatsUnknown : okFun Go.Proofs.Tryz.prog Go.Proofs.Tryz.f3 a_31 = true := by kernel_rfl
theorem ok_l14_PatsTwice : okFun Go.Proofs.Tryz.prog Go.Proofs.Tryz.f4 a_64 = true := by kernel_rfl
theorem ok_l14_PatsOrder : okFun Go.Proofs.Tryz.prog Go.Proofs.Tryz.f5 a_28 = true := by kernel_rfl
theorem ok_r14_One : okFun Go.Proofs.Tryz.prog Go.Proofs.Tryz.f8 a_44 = true := by kernel_rfl
theorem ok_r14_World : okFun Go.Proofs.Tryz.prog Go.Proofs.Tryz.f9 a_166 = true := by kernel_rfl
theorem ok_unify_New : okFun Go.Proofs.Tryz.prog Go.Proofs.Tryz.f10 a_130 = true := by kernel_rfl
theorem ok_unify_Subst_Fresh : okFun Go.Proofs.Tryz.prog Go.Proofs.Tryz.f11 a_132 = true := by kernel_rfl
theorem ok_pats_New : okFun Go.Proofs.Tryz.prog Go.Proofs.Tryz.f12 a_114 = true := by kernel_rfl
theorem ok_pats_Cons_Pat : okFun Go.Proofs.Tryz.prog Go.Proofs.Tryz.f13 a_94 = true := by kernel_rfl
theorem ok_l14_lives : okFun Go.Proofs.Tryz.prog Go.Proofs.Tryz.f14 a_152 = true := by kernel_rfl
theorem ok_r14_Fits : okFun Go.Proofs.Tryz.prog Go.Proofs.Tryz.f15 a_21 = true := by kernel_rfl
theorem ok_r14_WorldType : okFun Go.Proofs.Tryz.prog Go.Proofs.Tryz.f16 a_168 = true := by kernel_rfl
theorem ok_unify_Subst_Unify : okFun Go.Proofs.Tryz.prog Go.Proofs.Tryz.f17 a_81 = true := by kernel_rfl
theorem ok_r14_Typed : okFun Go.Proofs.Tryz.prog Go.Proofs.Tryz.f18 a_58 = true := by kernel_rfl
theorem ok_l14_full : okFun Go.Proofs.Tryz.prog Go.Proofs.Tryz.f19 a_112 = true := by kernel_rfl
theorem ok_pats_Cons_Con : okFun Go.Proofs.Tryz.prog Go.Proofs.Tryz.f21 a_93 = true := by kernel_rfl
theorem ok_r14_Con : okFun Go.Proofs.Tryz.prog Go.Proofs.Tryz.f22 a_96 = true := by kernel_rfl
theorem ok_pats_Cons_Scheme : okFun Go.Proofs.Tryz.prog Go.Proofs.Tryz.f25 a_155 = true := by kernel_rfl
theorem ok_pats_Cons_Fields : okFun Go.Proofs.Tryz.prog Go.Proofs.Tryz.f27 a_153 = true := by kernel_rfl
theorem ok_r04_Equal : okFun Go.Proofs.Tryz.prog Go.Proofs.Tryz.f29 a_119 = true := by kernel_rfl
theorem ok_kinds_Star : okFun Go.Proofs.Tryz.prog Go.Proofs.Tryz.f33 a_111 = true := by kernel_rfl
theorem ok_r14_Pattern : okFun Go.Proofs.Tryz.prog Go.Proofs.Tryz.f34 a_10 = true := by kernel_rfl
theorem ok_r14_Bare : okFun Go.Proofs.Tryz.prog Go.Proofs.Tryz.f35 a_120 = true := by kernel_rfl
theorem ok_r14_given : okFun Go.Proofs.Tryz.prog Go.Proofs.Tryz.f36 a_169 = true := by kernel_rfl
theorem ok_types_Meta : okFun Go.Proofs.Tryz.prog Go.Proofs.Tryz.f37 a_127 = true := by kernel_rfl
theorem ok_slices_Concat_Data : okFun Go.Proofs.Tryz.prog Go.Proofs.Tryz.f38 a_123 = true := by kernel_rfl
theorem ok_kindof_Prelude : okFun Go.Proofs.Tryz.prog Go.Proofs.Tryz.f39 a_110 = true := by kernel_rfl
theorem ok_pats_maker_make : okFun Go.Proofs.Tryz.prog Go.Proofs.Tryz.f40 a_20 = true := by kernel_rfl
theorem ok_scheme_Print : okFun Go.Proofs.Tryz.prog Go.Proofs.Tryz.f41 a_172 = true := by kernel_rfl
theorem ok_unify_Subst_Apply : okFun Go.Proofs.Tryz.prog Go.Proofs.Tryz.f42 a_131 = true := by kernel_rfl
theorem ok_r14_spine : okFun Go.Proofs.Tryz.prog Go.Proofs.Tryz.f43 a_170 = true := by kernel_rfl
theorem ok_r04_Subst : okFun Go.Proofs.Tryz.prog Go.Proofs.Tryz.f44 a_162 = true := by kernel_rfl
theorem ok_maps_Clone_Type : okFun Go.Proofs.Tryz.prog Go.Proofs.Tryz.f45 a_113 = true := by kernel_rfl
theorem ok_unify_Subst_one : okFun Go.Proofs.Tryz.prog Go.Proofs.Tryz.f46 a_12 = true := by kernel_rfl
theorem ok_r14_pick : okFun Go.Proofs.Tryz.prog Go.Proofs.Tryz.f47 a_74 = true := by kernel_rfl
theorem ok_r14_datas : okFun Go.Proofs.Tryz.prog Go.Proofs.Tryz.f49 a_121 = true := by kernel_rfl
theorem ok_slices_Clone_string : okFun Go.Proofs.Tryz.prog Go.Proofs.Tryz.f52 a_181 = true := by kernel_rfl
theorem ok_slices_Clone_Kind : okFun Go.Proofs.Tryz.prog Go.Proofs.Tryz.f53 a_180 = true := by kernel_rfl
theorem ok_pats_typeOf : okFun Go.Proofs.Tryz.prog Go.Proofs.Tryz.f54 a_156 = true := by kernel_rfl
theorem ok_types_All : okFun Go.Proofs.Tryz.prog Go.Proofs.Tryz.f56 a_190 = true := by kernel_rfl
theorem ok_r14_digit : okFun Go.Proofs.Tryz.prog Go.Proofs.Tryz.f66 a_122 = true := by kernel_rfl
theorem ok_r14_WorldFields : okFun Go.Proofs.Tryz.prog Go.Proofs.Tryz.f67 a_167 = true := by kernel_rfl
theorem ok_slices_Grow_Data : okFun Go.Proofs.Tryz.prog Go.Proofs.Tryz.f68 a_124 = true := by kernel_rfl
theorem ok_pats_maker_wild : okFun Go.Proofs.Tryz.prog Go.Proofs.Tryz.f69 a_117 = true := by kernel_rfl
theorem ok_pats_maker_name : okFun Go.Proofs.Tryz.prog Go.Proofs.Tryz.f70 a_95 = true := by kernel_rfl
theorem ok_pats_maker_number : okFun Go.Proofs.Tryz.prog Go.Proofs.Tryz.f71 a_116 = true := by kernel_rfl
theorem ok_pats_maker_con : okFun Go.Proofs.Tryz.prog Go.Proofs.Tryz.f72 a_115 = true := by kernel_rfl
theorem ok_slices_Clone_Pat : okFun Go.Proofs.Tryz.prog Go.Proofs.Tryz.f73 a_75 = true := by kernel_rfl
theorem ok_types_Subst : okFun Go.Proofs.Tryz.prog Go.Proofs.Tryz.f74 a_194 = true := by kernel_rfl
theorem ok_scheme_Canon : okFun Go.Proofs.Tryz.prog Go.Proofs.Tryz.f75 a_171 = true := by kernel_rfl
theorem ok_types_Print : okFun Go.Proofs.Tryz.prog Go.Proofs.Tryz.f76 a_193 = true := by kernel_rfl
theorem ok_unify_Subst_look : okFun Go.Proofs.Tryz.prog Go.Proofs.Tryz.f78 a_98 = true := by kernel_rfl
theorem ok_unify_each : okFun Go.Proofs.Tryz.prog Go.Proofs.Tryz.f79 a_135 = true := by kernel_rfl
theorem ok_r04_at : okFun Go.Proofs.Tryz.prog Go.Proofs.Tryz.f80 a_164 = true := by kernel_rfl
theorem ok_r04_app : okFun Go.Proofs.Tryz.prog Go.Proofs.Tryz.f81 a_163 = true := by kernel_rfl
theorem ok_r04_Free : okFun Go.Proofs.Tryz.prog Go.Proofs.Tryz.f82 a_161 = true := by kernel_rfl
theorem ok_r01_Has : okFun Go.Proofs.Tryz.prog Go.Proofs.Tryz.f83 a_159 = true := by kernel_rfl
theorem ok_r01_Letters : okFun Go.Proofs.Tryz.prog Go.Proofs.Tryz.f84 a_160 = true := by kernel_rfl
theorem ok_unify_Subst_bind : okFun Go.Proofs.Tryz.prog Go.Proofs.Tryz.f86 a_34 = true := by kernel_rfl
theorem ok_types_Fun : okFun Go.Proofs.Tryz.prog Go.Proofs.Tryz.f88 a_192 = true := by kernel_rfl
theorem ok_pats_own : okFun Go.Proofs.Tryz.prog Go.Proofs.Tryz.f89 a_118 = true := by kernel_rfl
theorem ok_pats_vars : okFun Go.Proofs.Tryz.prog Go.Proofs.Tryz.f90 a_157 = true := by kernel_rfl
theorem ok_types_own : okFun Go.Proofs.Tryz.prog Go.Proofs.Tryz.f92 a_129 = true := by kernel_rfl
theorem ok_types_Con : okFun Go.Proofs.Tryz.prog Go.Proofs.Tryz.f103 a_126 = true := by kernel_rfl
theorem ok_slices_Index_string : okFun Go.Proofs.Tryz.prog Go.Proofs.Tryz.f104 a_186 = true := by kernel_rfl
theorem ok_types_apply : okFun Go.Proofs.Tryz.prog Go.Proofs.Tryz.f105 a_128 = true := by kernel_rfl
theorem ok_types_under : okFun Go.Proofs.Tryz.prog Go.Proofs.Tryz.f106 a_200 = true := by kernel_rfl
theorem ok_scheme_others : okFun Go.Proofs.Tryz.prog Go.Proofs.Tryz.f107 a_177 = true := by kernel_rfl
theorem ok_scheme_lettered_meet : okFun Go.Proofs.Tryz.prog Go.Proofs.Tryz.f108 a_176 = true := by kernel_rfl
theorem ok_scheme_lettered_letters : okFun Go.Proofs.Tryz.prog Go.Proofs.Tryz.f109 a_174 = true := by kernel_rfl
theorem ok_types_Var : okFun Go.Proofs.Tryz.prog Go.Proofs.Tryz.f110 a_195 = true := by kernel_rfl
theorem ok_scheme_copied : okFun Go.Proofs.Tryz.prog Go.Proofs.Tryz.f111 a_173 = true := by kernel_rfl
theorem ok_scheme_put : okFun Go.Proofs.Tryz.prog Go.Proofs.Tryz.f112 a_179 = true := by kernel_rfl
theorem ok_slices_SortStableFunc_Pred : okFun Go.Proofs.Tryz.prog Go.Proofs.Tryz.f113 a_187 = true := by kernel_rfl
theorem ok_slices_CompactFunc_Pred : okFun Go.Proofs.Tryz.prog Go.Proofs.Tryz.f115 a_182 = true := by kernel_rfl
theorem ok_types_print : okFun Go.Proofs.Tryz.prog Go.Proofs.Tryz.f117 a_199 = true := by kernel_rfl
theorem ok_r04_free : okFun Go.Proofs.Tryz.prog Go.Proofs.Tryz.f121 a_165 = true := by kernel_rfl
theorem ok_r01_Decimal : okFun Go.Proofs.Tryz.prog Go.Proofs.Tryz.f122 a_158 = true := by kernel_rfl
theorem ok_unify_Subst_within : okFun Go.Proofs.Tryz.prog Go.Proofs.Tryz.f123 a_59 = true := by kernel_rfl
theorem ok_types_App : okFun Go.Proofs.Tryz.prog Go.Proofs.Tryz.f124 a_125 = true := by kernel_rfl
theorem ok_unify_Subst_great : okFun Go.Proofs.Tryz.prog Go.Proofs.Tryz.f125 a_133 = true := by kernel_rfl
theorem ok_types_Free : okFun Go.Proofs.Tryz.prog Go.Proofs.Tryz.f132 a_191 = true := by kernel_rfl
theorem ok_slices_Contains_string : okFun Go.Proofs.Tryz.prog Go.Proofs.Tryz.f133 a_183 = true := by kernel_rfl
theorem ok_types_letter : okFun Go.Proofs.Tryz.prog Go.Proofs.Tryz.f134 a_197 = true := by kernel_rfl
theorem ok_slices_DeleteFunc_string : okFun Go.Proofs.Tryz.prog Go.Proofs.Tryz.f135 a_184 = true := by kernel_rfl
theorem ok_scheme_others_1 : okFun Go.Proofs.Tryz.prog Go.Proofs.Tryz.f136 a_178 = true := by kernel_rfl
theorem ok_scheme_lettered_letters_1 : okFun Go.Proofs.Tryz.prog Go.Proofs.Tryz.f137 a_175 = true := by kernel_rfl
theorem ok_chars_Letters : okFun Go.Proofs.Tryz.prog Go.Proofs.Tryz.f138 a_151 = true := by kernel_rfl
theorem ok_slices_stableCmpFunc_Pred : okFun Go.Proofs.Tryz.prog Go.Proofs.Tryz.f139 a_189 = true := by kernel_rfl
theorem ok_types_parts : okFun Go.Proofs.Tryz.prog Go.Proofs.Tryz.f142 a_198 = true := by kernel_rfl
theorem ok_types_boolean : okFun Go.Proofs.Tryz.prog Go.Proofs.Tryz.f143 a_196 = true := by kernel_rfl
theorem ok_slices_ContainsFunc_Type : okFun Go.Proofs.Tryz.prog Go.Proofs.Tryz.f147 a_97 = true := by kernel_rfl
theorem ok_unify_Subst_within_1 : okFun Go.Proofs.Tryz.prog Go.Proofs.Tryz.f148 a_134 = true := by kernel_rfl
theorem ok_unify_Subst_size : okFun Go.Proofs.Tryz.prog Go.Proofs.Tryz.f149 a_13 = true := by kernel_rfl
theorem ok_slices_IndexFunc_string : okFun Go.Proofs.Tryz.prog Go.Proofs.Tryz.f154 a_185 = true := by kernel_rfl
theorem ok_slices_insertionSortCmpFunc_Pred : okFun Go.Proofs.Tryz.prog Go.Proofs.Tryz.f155 a_188 = true := by kernel_rfl
theorem ok_slices_IndexFunc_Type : okFun Go.Proofs.Tryz.prog Go.Proofs.Tryz.f161 a_78 = true := by kernel_rfl
end Go.Fu
