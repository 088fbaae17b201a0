/-
  The table of the functions that the machine runs, and their fit.
-/
import Derived.Test.YtmhedpkbfaginaaGreatDoorFlOk
import Derived.Test.YtmhedpkbfaginaaGreatDoorMyRecover
set_option maxHeartbeats 4000000
set_option linter.unusedSimpArgs false
set_option linter.unusedVariables false
set_option linter.unusedSectionVars false
namespace Go.Fu
open Go Go.Mx
set_option maxRecDepth 100000
instance : LoopKit := ⟨fun N c c2 => okCode Go.Proofs.Tryz.prog N true c c2 = true⟩
instance : KitOf Go.Proofs.Tryz.prog inferInstance := ⟨fun _ _ _ => Iff.rfl⟩
def Γa : FuncId → Option AFun := fun f => match f with
  | 3 => some a_31
  | 4 => some a_64
  | 5 => some a_28
  | 8 => some a_44
  | 9 => some a_166
  | 10 => some a_130
  | 11 => some a_132
  | 12 => some a_114
  | 13 => some a_94
  | 14 => some a_152
  | 15 => some a_21
  | 16 => some a_168
  | 17 => some a_81
  | 18 => some a_58
  | 19 => some a_112
  | 21 => some a_93
  | 22 => some a_96
  | 25 => some a_155
  | 27 => some a_153
  | 29 => some a_119
  | 33 => some a_111
  | 34 => some a_10
  | 35 => some a_120
  | 36 => some a_169
  | 37 => some a_127
  | 38 => some a_123
  | 39 => some a_110
  | 40 => some a_20
  | 41 => some a_172
  | 42 => some a_131
  | 43 => some a_170
  | 44 => some a_162
  | 45 => some a_113
  | 46 => some a_12
  | 47 => some a_74
  | 49 => some a_121
  | 52 => some a_181
  | 53 => some a_180
  | 54 => some a_156
  | 56 => some a_190
  | 66 => some a_122
  | 67 => some a_167
  | 68 => some a_124
  | 69 => some a_117
  | 70 => some a_95
  | 71 => some a_116
  | 72 => some a_115
  | 73 => some a_75
  | 74 => some a_194
  | 75 => some a_171
  | 76 => some a_193
  | 78 => some a_98
  | 79 => some a_135
  | 80 => some a_164
  | 81 => some a_163
  | 82 => some a_161
  | 83 => some a_159
  | 84 => some a_160
  | 86 => some a_34
  | 88 => some a_192
  | 89 => some a_118
  | 90 => some a_157
  | 92 => some a_129
  | 103 => some a_126
  | 104 => some a_186
  | 105 => some a_128
  | 106 => some a_200
  | 107 => some a_177
  | 108 => some a_176
  | 109 => some a_174
  | 110 => some a_195
  | 111 => some a_173
  | 112 => some a_179
  | 113 => some a_187
  | 115 => some a_182
  | 117 => some a_199
  | 121 => some a_165
  | 122 => some a_158
  | 123 => some a_59
  | 124 => some a_125
  | 125 => some a_133
  | 132 => some a_191
  | 133 => some a_183
  | 134 => some a_197
  | 135 => some a_184
  | 136 => some a_178
  | 137 => some a_175
  | 138 => some a_151
  | 139 => some a_189
  | 142 => some a_198
  | 143 => some a_196
  | 147 => some a_97
  | 148 => some a_134
  | 149 => some a_13
  | 154 => some a_185
  | 155 => some a_188
  | 161 => some a_78
  | _ => none
theorem Γa_holds : Holds Go.Proofs.Tryz.prog Γa := by
  intro f af h
  unfold Γa at h
  split at h
  · cases h; exact ⟨rfl, _, Go.Proofs.Tryz.func3, ok_l14_PatsUnknown⟩
  · cases h; exact ⟨rfl, _, Go.Proofs.Tryz.func4, ok_l14_PatsTwice⟩
  · cases h; exact ⟨rfl, _, Go.Proofs.Tryz.func5, ok_l14_PatsOrder⟩
  · cases h; exact ⟨rfl, _, Go.Proofs.Tryz.func8, ok_r14_One⟩
  · cases h; exact ⟨rfl, _, Go.Proofs.Tryz.func9, ok_r14_World⟩
  · cases h; exact ⟨rfl, _, Go.Proofs.Tryz.func10, ok_unify_New⟩
  · cases h; exact ⟨rfl, _, Go.Proofs.Tryz.func11, ok_unify_Subst_Fresh⟩
  · cases h; exact ⟨rfl, _, Go.Proofs.Tryz.func12, ok_pats_New⟩
  · cases h; exact ⟨rfl, _, Go.Proofs.Tryz.func13, ok_pats_Cons_Pat⟩
  · cases h; exact ⟨rfl, _, Go.Proofs.Tryz.func14, ok_l14_lives⟩
  · cases h; exact ⟨rfl, _, Go.Proofs.Tryz.func15, ok_r14_Fits⟩
  · cases h; exact ⟨rfl, _, Go.Proofs.Tryz.func16, ok_r14_WorldType⟩
  · cases h; exact ⟨rfl, _, Go.Proofs.Tryz.func17, ok_unify_Subst_Unify⟩
  · cases h; exact ⟨rfl, _, Go.Proofs.Tryz.func18, ok_r14_Typed⟩
  · cases h; exact ⟨rfl, _, Go.Proofs.Tryz.func19, ok_l14_full⟩
  · cases h; exact ⟨rfl, _, Go.Proofs.Tryz.func21, ok_pats_Cons_Con⟩
  · cases h; exact ⟨rfl, _, Go.Proofs.Tryz.func22, ok_r14_Con⟩
  · cases h; exact ⟨rfl, _, Go.Proofs.Tryz.func25, ok_pats_Cons_Scheme⟩
  · cases h; exact ⟨rfl, _, Go.Proofs.Tryz.func27, ok_pats_Cons_Fields⟩
  · cases h; exact ⟨rfl, _, Go.Proofs.Tryz.func29, ok_r04_Equal⟩
  · cases h; exact ⟨rfl, _, Go.Proofs.Tryz.func33, ok_kinds_Star⟩
  · cases h; exact ⟨rfl, _, Go.Proofs.Tryz.func34, ok_r14_Pattern⟩
  · cases h; exact ⟨rfl, _, Go.Proofs.Tryz.func35, ok_r14_Bare⟩
  · cases h; exact ⟨rfl, _, Go.Proofs.Tryz.func36, ok_r14_given⟩
  · cases h; exact ⟨rfl, _, Go.Proofs.Tryz.func37, ok_types_Meta⟩
  · cases h; exact ⟨rfl, _, Go.Proofs.Tryz.func38, ok_slices_Concat_Data⟩
  · cases h; exact ⟨rfl, _, Go.Proofs.Tryz.func39, ok_kindof_Prelude⟩
  · cases h; exact ⟨rfl, _, Go.Proofs.Tryz.func40, ok_pats_maker_make⟩
  · cases h; exact ⟨rfl, _, Go.Proofs.Tryz.func41, ok_scheme_Print⟩
  · cases h; exact ⟨rfl, _, Go.Proofs.Tryz.func42, ok_unify_Subst_Apply⟩
  · cases h; exact ⟨rfl, _, Go.Proofs.Tryz.func43, ok_r14_spine⟩
  · cases h; exact ⟨rfl, _, Go.Proofs.Tryz.func44, ok_r04_Subst⟩
  · cases h; exact ⟨rfl, _, Go.Proofs.Tryz.func45, ok_maps_Clone_Type⟩
  · cases h; exact ⟨rfl, _, Go.Proofs.Tryz.func46, ok_unify_Subst_one⟩
  · cases h; exact ⟨rfl, _, Go.Proofs.Tryz.func47, ok_r14_pick⟩
  · cases h; exact ⟨rfl, _, Go.Proofs.Tryz.func49, ok_r14_datas⟩
  · cases h; exact ⟨rfl, _, Go.Proofs.Tryz.func52, ok_slices_Clone_string⟩
  · cases h; exact ⟨rfl, _, Go.Proofs.Tryz.func53, ok_slices_Clone_Kind⟩
  · cases h; exact ⟨rfl, _, Go.Proofs.Tryz.func54, ok_pats_typeOf⟩
  · cases h; exact ⟨rfl, _, Go.Proofs.Tryz.func56, ok_types_All⟩
  · cases h; exact ⟨rfl, _, Go.Proofs.Tryz.func66, ok_r14_digit⟩
  · cases h; exact ⟨rfl, _, Go.Proofs.Tryz.func67, ok_r14_WorldFields⟩
  · cases h; exact ⟨rfl, _, Go.Proofs.Tryz.func68, ok_slices_Grow_Data⟩
  · cases h; exact ⟨rfl, _, Go.Proofs.Tryz.func69, ok_pats_maker_wild⟩
  · cases h; exact ⟨rfl, _, Go.Proofs.Tryz.func70, ok_pats_maker_name⟩
  · cases h; exact ⟨rfl, _, Go.Proofs.Tryz.func71, ok_pats_maker_number⟩
  · cases h; exact ⟨rfl, _, Go.Proofs.Tryz.func72, ok_pats_maker_con⟩
  · cases h; exact ⟨rfl, _, Go.Proofs.Tryz.func73, ok_slices_Clone_Pat⟩
  · cases h; exact ⟨rfl, _, Go.Proofs.Tryz.func74, ok_types_Subst⟩
  · cases h; exact ⟨rfl, _, Go.Proofs.Tryz.func75, ok_scheme_Canon⟩
  · cases h; exact ⟨rfl, _, Go.Proofs.Tryz.func76, ok_types_Print⟩
  · cases h; exact ⟨rfl, _, Go.Proofs.Tryz.func78, ok_unify_Subst_look⟩
  · cases h; exact ⟨rfl, _, Go.Proofs.Tryz.func79, ok_unify_each⟩
  · cases h; exact ⟨rfl, _, Go.Proofs.Tryz.func80, ok_r04_at⟩
  · cases h; exact ⟨rfl, _, Go.Proofs.Tryz.func81, ok_r04_app⟩
  · cases h; exact ⟨rfl, _, Go.Proofs.Tryz.func82, ok_r04_Free⟩
  · cases h; exact ⟨rfl, _, Go.Proofs.Tryz.func83, ok_r01_Has⟩
  · cases h; exact ⟨rfl, _, Go.Proofs.Tryz.func84, ok_r01_Letters⟩
  · cases h; exact ⟨rfl, _, Go.Proofs.Tryz.func86, ok_unify_Subst_bind⟩
  · cases h; exact ⟨rfl, _, Go.Proofs.Tryz.func88, ok_types_Fun⟩
  · cases h; exact ⟨rfl, _, Go.Proofs.Tryz.func89, ok_pats_own⟩
  · cases h; exact ⟨rfl, _, Go.Proofs.Tryz.func90, ok_pats_vars⟩
  · cases h; exact ⟨rfl, _, Go.Proofs.Tryz.func92, ok_types_own⟩
  · cases h; exact ⟨rfl, _, Go.Proofs.Tryz.func103, ok_types_Con⟩
  · cases h; exact ⟨rfl, _, Go.Proofs.Tryz.func104, ok_slices_Index_string⟩
  · cases h; exact ⟨rfl, _, Go.Proofs.Tryz.func105, ok_types_apply⟩
  · cases h; exact ⟨rfl, _, Go.Proofs.Tryz.func106, ok_types_under⟩
  · cases h; exact ⟨rfl, _, Go.Proofs.Tryz.func107, ok_scheme_others⟩
  · cases h; exact ⟨rfl, _, Go.Proofs.Tryz.func108, ok_scheme_lettered_meet⟩
  · cases h; exact ⟨rfl, _, Go.Proofs.Tryz.func109, ok_scheme_lettered_letters⟩
  · cases h; exact ⟨rfl, _, Go.Proofs.Tryz.func110, ok_types_Var⟩
  · cases h; exact ⟨rfl, _, Go.Proofs.Tryz.func111, ok_scheme_copied⟩
  · cases h; exact ⟨rfl, _, Go.Proofs.Tryz.func112, ok_scheme_put⟩
  · cases h; exact ⟨rfl, _, Go.Proofs.Tryz.func113, ok_slices_SortStableFunc_Pred⟩
  · cases h; exact ⟨rfl, _, Go.Proofs.Tryz.func115, ok_slices_CompactFunc_Pred⟩
  · cases h; exact ⟨rfl, _, Go.Proofs.Tryz.func117, ok_types_print⟩
  · cases h; exact ⟨rfl, _, Go.Proofs.Tryz.func121, ok_r04_free⟩
  · cases h; exact ⟨rfl, _, Go.Proofs.Tryz.func122, ok_r01_Decimal⟩
  · cases h; exact ⟨rfl, _, Go.Proofs.Tryz.func123, ok_unify_Subst_within⟩
  · cases h; exact ⟨rfl, _, Go.Proofs.Tryz.func124, ok_types_App⟩
  · cases h; exact ⟨rfl, _, Go.Proofs.Tryz.func125, ok_unify_Subst_great⟩
  · cases h; exact ⟨rfl, _, Go.Proofs.Tryz.func132, ok_types_Free⟩
  · cases h; exact ⟨rfl, _, Go.Proofs.Tryz.func133, ok_slices_Contains_string⟩
  · cases h; exact ⟨rfl, _, Go.Proofs.Tryz.func134, ok_types_letter⟩
  · cases h; exact ⟨rfl, _, Go.Proofs.Tryz.func135, ok_slices_DeleteFunc_string⟩
  · cases h; exact ⟨rfl, _, Go.Proofs.Tryz.func136, ok_scheme_others_1⟩
  · cases h; exact ⟨rfl, _, Go.Proofs.Tryz.func137, ok_scheme_lettered_letters_1⟩
  · cases h; exact ⟨rfl, _, Go.Proofs.Tryz.func138, ok_chars_Letters⟩
  · cases h; exact ⟨rfl, _, Go.Proofs.Tryz.func139, ok_slices_stableCmpFunc_Pred⟩
  · cases h; exact ⟨rfl, _, Go.Proofs.Tryz.func142, ok_types_parts⟩
  · cases h; exact ⟨rfl, _, Go.Proofs.Tryz.func143, ok_types_boolean⟩
  · cases h; exact ⟨rfl, _, Go.Proofs.Tryz.func147, ok_slices_ContainsFunc_Type⟩
  · cases h; exact ⟨rfl, _, Go.Proofs.Tryz.func148, ok_unify_Subst_within_1⟩
  · cases h; exact ⟨rfl, _, Go.Proofs.Tryz.func149, ok_unify_Subst_size⟩
  · cases h; exact ⟨rfl, _, Go.Proofs.Tryz.func154, ok_slices_IndexFunc_string⟩
  · cases h; exact ⟨rfl, _, Go.Proofs.Tryz.func155, ok_slices_insertionSortCmpFunc_Pred⟩
  · cases h; exact ⟨rfl, _, Go.Proofs.Tryz.func161, ok_slices_IndexFunc_Type⟩
  · cases h
theorem none_sound {κ2 : Ctx} : CSound Go.Proofs.Tryz.prog κ2 (fun _ _ _ => none) := fun _ _ _ _ _ h => by cases h
def Ra : RecF := fun _ _ _ _ => none
theorem Ra_sound {κ2 : Ctx} : RSound Go.Proofs.Tryz.prog κ2 Ra := fun _ _ _ _ _ _ h => by cases h
def Xa : CallF := fun _ _ _ => none
theorem Xa_sound {κ2 : Ctx} : CSound Go.Proofs.Tryz.prog κ2 Xa := none_sound
noncomputable def livesA (n : Nat) (f : FuncId) : Bool := match runQ Γa Ra Xa n false f [] { objs := [], tys := [], oth := [], next := 0 } with
  | some (.ret ⟨false, .bool true⟩, _) => true
  | _ => false
end Go.Fu
