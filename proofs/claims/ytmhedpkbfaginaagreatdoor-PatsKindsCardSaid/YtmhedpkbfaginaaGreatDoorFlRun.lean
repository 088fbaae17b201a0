/-
  The table of the functions that the machine runs, and their fit.
-/
import Derived.Test.YtmhedpkbfaginaaGreatDoorFlOk
import Derived.Test.YtmhedpkbfaginaaGreatDoorMyRecover
set_option maxHeartbeats 4000000
set_option linter.unusedSimpArgs false
set_option linter.unusedVariables false
set_option linter.unusedSectionVars false
namespace Go.Fu
open Go Go.Mx
set_option maxRecDepth 100000
instance : LoopKit := ⟨fun N c c2 => okCode Go.Proofs.Tryz.prog N true c c2 = true⟩
instance : KitOf Go.Proofs.Tryz.prog inferInstance := ⟨fun _ _ _ => Iff.rfl⟩
def Γa : FuncId → Option AFun := fun f => match f with
  | 7 => some a_69
  | 9 => some a_177
  | 10 => some a_207
  | 11 => some a_209
  | 12 => some a_103
  | 13 => some a_172
  | 14 => some a_170
  | 16 => some a_178
  | 17 => some a_210
  | 20 => some a_109
  | 21 => some a_70
  | 25 => some a_71
  | 27 => some a_102
  | 31 => some a_36
  | 32 => some a_166
  | 33 => some a_100
  | 36 => some a_110
  | 37 => some a_201
  | 38 => some a_113
  | 39 => some a_85
  | 40 => some a_174
  | 41 => some a_180
  | 42 => some a_208
  | 45 => some a_171
  | 46 => some a_214
  | 47 => some a_49
  | 48 => some a_7
  | 52 => some a_52
  | 53 => some a_51
  | 54 => some a_105
  | 55 => some a_111
  | 56 => some a_117
  | 57 => some a_107
  | 58 => some a_87
  | 59 => some a_90
  | 60 => some a_84
  | 61 => some a_96
  | 62 => some a_19
  | 63 => some a_92
  | 64 => some a_164
  | 65 => some a_193
  | 68 => some a_115
  | 69 => some a_176
  | 70 => some a_175
  | 72 => some a_173
  | 73 => some a_188
  | 74 => some a_203
  | 75 => some a_179
  | 76 => some a_202
  | 78 => some a_213
  | 79 => some a_218
  | 81 => some a_108
  | 86 => some a_211
  | 88 => some a_120
  | 89 => some a_104
  | 90 => some a_106
  | 91 => some a_112
  | 92 => some a_123
  | 93 => some a_93
  | 95 => some a_165
  | 97 => some a_13
  | 99 => some a_89
  | 100 => some a_95
  | 101 => some a_88
  | 102 => some a_86
  | 103 => some a_119
  | 104 => some a_196
  | 105 => some a_122
  | 107 => some a_185
  | 108 => some a_184
  | 109 => some a_182
  | 110 => some a_121
  | 111 => some a_181
  | 112 => some a_187
  | 113 => some a_197
  | 115 => some a_189
  | 117 => some a_206
  | 123 => some a_216
  | 124 => some a_118
  | 125 => some a_212
  | 129 => some a_167
  | 130 => some a_169
  | 131 => some a_94
  | 132 => some a_200
  | 133 => some a_191
  | 135 => some a_192
  | 136 => some a_186
  | 137 => some a_183
  | 138 => some a_163
  | 139 => some a_199
  | 142 => some a_205
  | 143 => some a_204
  | 147 => some a_190
  | 148 => some a_217
  | 149 => some a_215
  | 152 => some a_101
  | 153 => some a_20
  | 154 => some a_195
  | 155 => some a_198
  | 161 => some a_194
  | 162 => some a_97
  | 165 => some a_98
  | 166 => some a_168
  | 172 => some a_114
  | 173 => some a_99
  | 179 => some a_116
  | 151 => some a_zbo
  | 128 => some a_zb
  | 127 => some a_zs
  | 94 => some a_zc
  | _ => none
theorem Γa_holds : Holds Go.Proofs.Tryz.prog Γa := by
  intro f af h
  unfold Γa at h
  split at h
  · cases h; exact ⟨rfl, _, Go.Proofs.Tryz.func7, ok_l14_PatsKinds⟩
  · cases h; exact ⟨rfl, _, Go.Proofs.Tryz.func9, ok_r14_World⟩
  · cases h; exact ⟨rfl, _, Go.Proofs.Tryz.func10, ok_unify_New⟩
  · cases h; exact ⟨rfl, _, Go.Proofs.Tryz.func11, ok_unify_Subst_Fresh⟩
  · cases h; exact ⟨rfl, _, Go.Proofs.Tryz.func12, ok_pats_New⟩
  · cases h; exact ⟨rfl, _, Go.Proofs.Tryz.func13, ok_pats_Cons_Pat⟩
  · cases h; exact ⟨rfl, _, Go.Proofs.Tryz.func14, ok_l14_lives⟩
  · cases h; exact ⟨rfl, _, Go.Proofs.Tryz.func16, ok_r14_WorldType⟩
  · cases h; exact ⟨rfl, _, Go.Proofs.Tryz.func17, ok_unify_Subst_Unify⟩
  · cases h; exact ⟨rfl, _, Go.Proofs.Tryz.func20, ok_r14_Made⟩
  · cases h; exact ⟨rfl, _, Go.Proofs.Tryz.func21, ok_pats_Cons_Con⟩
  · cases h; exact ⟨rfl, _, Go.Proofs.Tryz.func25, ok_pats_Cons_Scheme⟩
  · cases h; exact ⟨rfl, _, Go.Proofs.Tryz.func27, ok_pats_Cons_Fields⟩
  · cases h; exact ⟨rfl, _, Go.Proofs.Tryz.func31, ok_kindof_Of⟩
  · cases h; exact ⟨rfl, _, Go.Proofs.Tryz.func32, ok_kinds_Same⟩
  · cases h; exact ⟨rfl, _, Go.Proofs.Tryz.func33, ok_kinds_Star⟩
  · cases h; exact ⟨rfl, _, Go.Proofs.Tryz.func36, ok_r14_given⟩
  · cases h; exact ⟨rfl, _, Go.Proofs.Tryz.func37, ok_types_Meta⟩
  · cases h; exact ⟨rfl, _, Go.Proofs.Tryz.func38, ok_slices_Concat_Data⟩
  · cases h; exact ⟨rfl, _, Go.Proofs.Tryz.func39, ok_kindof_Prelude⟩
  · cases h; exact ⟨rfl, _, Go.Proofs.Tryz.func40, ok_pats_maker_make⟩
  · cases h; exact ⟨rfl, _, Go.Proofs.Tryz.func41, ok_scheme_Print⟩
  · cases h; exact ⟨rfl, _, Go.Proofs.Tryz.func42, ok_unify_Subst_Apply⟩
  · cases h; exact ⟨rfl, _, Go.Proofs.Tryz.func45, ok_maps_Clone_Type⟩
  · cases h; exact ⟨rfl, _, Go.Proofs.Tryz.func46, ok_unify_Subst_one⟩
  · cases h; exact ⟨rfl, _, Go.Proofs.Tryz.func47, ok_r14_pick⟩
  · cases h; exact ⟨rfl, _, Go.Proofs.Tryz.func48, ok_r14_field⟩
  · cases h; exact ⟨rfl, _, Go.Proofs.Tryz.func52, ok_slices_Clone_string⟩
  · cases h; exact ⟨rfl, _, Go.Proofs.Tryz.func53, ok_slices_Clone_Kind⟩
  · cases h; exact ⟨rfl, _, Go.Proofs.Tryz.func54, ok_pats_typeOf⟩
  · cases h; exact ⟨rfl, _, Go.Proofs.Tryz.func55, ok_slices_Backward_string⟩
  · cases h; exact ⟨rfl, _, Go.Proofs.Tryz.func56, ok_types_All⟩
  · cases h; exact ⟨rfl, _, Go.Proofs.Tryz.func57, ok_r04_Fun⟩
  · cases h; exact ⟨rfl, _, Go.Proofs.Tryz.func58, ok_kindof_behind⟩
  · cases h; exact ⟨rfl, _, Go.Proofs.Tryz.func59, ok_kindof_tried⟩
  · cases h; exact ⟨rfl, _, Go.Proofs.Tryz.func60, ok_kindof_Of_1⟩
  · cases h; exact ⟨rfl, _, Go.Proofs.Tryz.func61, ok_kinds_Solver_Kind⟩
  · cases h; exact ⟨rfl, _, Go.Proofs.Tryz.func62, ok_kindof_group_of⟩
  · cases h; exact ⟨rfl, _, Go.Proofs.Tryz.func63, ok_kindof_zip⟩
  · cases h; exact ⟨rfl, _, Go.Proofs.Tryz.func64, ok_kindof_terms⟩
  · cases h; exact ⟨rfl, _, Go.Proofs.Tryz.func65, ok_slices_EqualFunc_Kind⟩
  · cases h; exact ⟨rfl, _, Go.Proofs.Tryz.func68, ok_slices_Grow_Data⟩
  · cases h; exact ⟨rfl, _, Go.Proofs.Tryz.func69, ok_pats_maker_wild⟩
  · cases h; exact ⟨rfl, _, Go.Proofs.Tryz.func70, ok_pats_maker_name⟩
  · cases h; exact ⟨rfl, _, Go.Proofs.Tryz.func72, ok_pats_maker_con⟩
  · cases h; exact ⟨rfl, _, Go.Proofs.Tryz.func73, ok_slices_Clone_Pat⟩
  · cases h; exact ⟨rfl, _, Go.Proofs.Tryz.func74, ok_types_Subst⟩
  · cases h; exact ⟨rfl, _, Go.Proofs.Tryz.func75, ok_scheme_Canon⟩
  · cases h; exact ⟨rfl, _, Go.Proofs.Tryz.func76, ok_types_Print⟩
  · cases h; exact ⟨rfl, _, Go.Proofs.Tryz.func78, ok_unify_Subst_look⟩
  · cases h; exact ⟨rfl, _, Go.Proofs.Tryz.func79, ok_unify_each⟩
  · cases h; exact ⟨rfl, _, Go.Proofs.Tryz.func81, ok_r04_app⟩
  · cases h; exact ⟨rfl, _, Go.Proofs.Tryz.func86, ok_unify_Subst_bind⟩
  · cases h; exact ⟨rfl, _, Go.Proofs.Tryz.func88, ok_types_Fun⟩
  · cases h; exact ⟨rfl, _, Go.Proofs.Tryz.func89, ok_pats_own⟩
  · cases h; exact ⟨rfl, _, Go.Proofs.Tryz.func90, ok_pats_vars⟩
  · cases h; exact ⟨rfl, _, Go.Proofs.Tryz.func91, ok_slices_Backward_string_1⟩
  · cases h; exact ⟨rfl, _, Go.Proofs.Tryz.func92, ok_types_own⟩
  · cases h; exact ⟨rfl, _, Go.Proofs.Tryz.func93, ok_kinds_New⟩
  · cases h; exact ⟨rfl, _, Go.Proofs.Tryz.func95, ok_kinds_Of⟩
  · cases h; exact ⟨rfl, _, Go.Proofs.Tryz.func97, ok_kinds_Solver_look⟩
  · cases h; exact ⟨rfl, _, Go.Proofs.Tryz.func99, ok_kindof_named⟩
  · cases h; exact ⟨rfl, _, Go.Proofs.Tryz.func100, ok_kinds_Solver_Fresh⟩
  · cases h; exact ⟨rfl, _, Go.Proofs.Tryz.func101, ok_kindof_group_must⟩
  · cases h; exact ⟨rfl, _, Go.Proofs.Tryz.func102, ok_kindof_arrow⟩
  · cases h; exact ⟨rfl, _, Go.Proofs.Tryz.func103, ok_types_Con⟩
  · cases h; exact ⟨rfl, _, Go.Proofs.Tryz.func104, ok_slices_Index_string⟩
  · cases h; exact ⟨rfl, _, Go.Proofs.Tryz.func105, ok_types_apply⟩
  · cases h; exact ⟨rfl, _, Go.Proofs.Tryz.func107, ok_scheme_others⟩
  · cases h; exact ⟨rfl, _, Go.Proofs.Tryz.func108, ok_scheme_lettered_meet⟩
  · cases h; exact ⟨rfl, _, Go.Proofs.Tryz.func109, ok_scheme_lettered_letters⟩
  · cases h; exact ⟨rfl, _, Go.Proofs.Tryz.func110, ok_types_Var⟩
  · cases h; exact ⟨rfl, _, Go.Proofs.Tryz.func111, ok_scheme_copied⟩
  · cases h; exact ⟨rfl, _, Go.Proofs.Tryz.func112, ok_scheme_put⟩
  · cases h; exact ⟨rfl, _, Go.Proofs.Tryz.func113, ok_slices_SortStableFunc_Pred⟩
  · cases h; exact ⟨rfl, _, Go.Proofs.Tryz.func115, ok_slices_CompactFunc_Pred⟩
  · cases h; exact ⟨rfl, _, Go.Proofs.Tryz.func117, ok_types_print⟩
  · cases h; exact ⟨rfl, _, Go.Proofs.Tryz.func123, ok_unify_Subst_within⟩
  · cases h; exact ⟨rfl, _, Go.Proofs.Tryz.func124, ok_types_App⟩
  · cases h; exact ⟨rfl, _, Go.Proofs.Tryz.func125, ok_unify_Subst_great⟩
  · cases h; exact ⟨rfl, _, Go.Proofs.Tryz.func129, ok_kinds_Split⟩
  · cases h; exact ⟨rfl, _, Go.Proofs.Tryz.func130, ok_kinds_own⟩
  · cases h; exact ⟨rfl, _, Go.Proofs.Tryz.func131, ok_kinds_Solver_Equal⟩
  · cases h; exact ⟨rfl, _, Go.Proofs.Tryz.func132, ok_types_Free⟩
  · cases h; exact ⟨rfl, _, Go.Proofs.Tryz.func133, ok_slices_Contains_string⟩
  · cases h; exact ⟨rfl, _, Go.Proofs.Tryz.func135, ok_slices_DeleteFunc_string⟩
  · cases h; exact ⟨rfl, _, Go.Proofs.Tryz.func136, ok_scheme_others_1⟩
  · cases h; exact ⟨rfl, _, Go.Proofs.Tryz.func137, ok_scheme_lettered_letters_1⟩
  · cases h; exact ⟨rfl, _, Go.Proofs.Tryz.func138, ok_chars_Letters⟩
  · cases h; exact ⟨rfl, _, Go.Proofs.Tryz.func139, ok_slices_stableCmpFunc_Pred⟩
  · cases h; exact ⟨rfl, _, Go.Proofs.Tryz.func142, ok_types_parts⟩
  · cases h; exact ⟨rfl, _, Go.Proofs.Tryz.func143, ok_types_boolean⟩
  · cases h; exact ⟨rfl, _, Go.Proofs.Tryz.func147, ok_slices_ContainsFunc_Type⟩
  · cases h; exact ⟨rfl, _, Go.Proofs.Tryz.func148, ok_unify_Subst_within_1⟩
  · cases h; exact ⟨rfl, _, Go.Proofs.Tryz.func149, ok_unify_Subst_size⟩
  · cases h; exact ⟨rfl, _, Go.Proofs.Tryz.func152, ok_maps_Clone_kinds_Term⟩
  · cases h; exact ⟨rfl, _, Go.Proofs.Tryz.func153, ok_kinds_Solver_equal⟩
  · cases h; exact ⟨rfl, _, Go.Proofs.Tryz.func154, ok_slices_IndexFunc_string⟩
  · cases h; exact ⟨rfl, _, Go.Proofs.Tryz.func155, ok_slices_insertionSortCmpFunc_Pred⟩
  · cases h; exact ⟨rfl, _, Go.Proofs.Tryz.func161, ok_slices_IndexFunc_Type⟩
  · cases h; exact ⟨rfl, _, Go.Proofs.Tryz.func162, ok_kinds_Solver_bind⟩
  · cases h; exact ⟨rfl, _, Go.Proofs.Tryz.func165, ok_kinds_Solver_within⟩
  · cases h; exact ⟨rfl, _, Go.Proofs.Tryz.func166, ok_kinds_copied⟩
  · cases h; exact ⟨rfl, _, Go.Proofs.Tryz.func172, ok_slices_ContainsFunc_kinds_Term⟩
  · cases h; exact ⟨rfl, _, Go.Proofs.Tryz.func173, ok_kinds_Solver_within_1⟩
  · cases h; exact ⟨rfl, _, Go.Proofs.Tryz.func179, ok_slices_IndexFunc_kinds_Term⟩
  · cases h; exact ⟨rfl, _, Go.Proofs.Tryz.func151, ok_zbo⟩
  · cases h; exact ⟨rfl, _, Go.Proofs.Tryz.func128, ok_zb⟩
  · cases h; exact ⟨rfl, _, Go.Proofs.Tryz.func127, ok_zs⟩
  · cases h; exact ⟨rfl, _, Go.Proofs.Tryz.func94, ok_zc⟩
  · cases h
theorem none_sound {κ2 : Ctx} : CSound Go.Proofs.Tryz.prog κ2 (fun _ _ _ => none) := fun _ _ _ _ _ h => by cases h
noncomputable def Ra : RecF := fun f ds m σ => match f with
  | 96 => recRun (fun _ _ _ => none) 3 a_91 1 4 1 ds m σ
  | _ => none
def restOf (fn : Func) : Code := match fn.body with
  | some (.seq _ r) => r
  | _ => .skip
def operOf (fn : Func) (i : Nat) : Oper := match fn.body with
  | some (.seq (.region _ ops _) _) => ops.getD i default
  | _ => default
theorem rec96_ok : okCode Go.Proofs.Tryz.prog Go.Proofs.Tryz.f96.ntmps false (restOf Go.Proofs.Tryz.f96) a_91 = true := by kernel_rfl
theorem Ra_sound {κ2 : Ctx} : RSound Go.Proofs.Tryz.prog κ2 Ra := by
  intro f ds m σ m2 σ2 h
  unfold Ra at h
  split at h
  · exact rec_sound (fn := Go.Proofs.Tryz.f96) (id := 0) (o0 := operOf Go.Proofs.Tryz.f96 0) (o1 := operOf Go.Proofs.Tryz.f96 1) (rest := restOf Go.Proofs.Tryz.f96) none_sound Go.Proofs.Tryz.func96 rfl rfl rfl rfl rfl rfl rfl rfl (by decide) (by decide) rfl (by decide) rec96_ok h
  · cases h
def Xa : CallF := fun _ _ _ => none
theorem Xa_sound {κ2 : Ctx} : CSound Go.Proofs.Tryz.prog κ2 Xa := none_sound
noncomputable def livesA (n : Nat) (f : FuncId) : Bool := match runQ Γa Ra Xa n false f [] { objs := [], tys := [], oth := [], next := 0 } with
  | some (.ret ⟨false, .bool true⟩, _) => true
  | _ => false
end Go.Fu
