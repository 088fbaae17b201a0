/-
  The table of the functions that the machine runs, and their fit.
-/
import Derived.Test.YtkgdpcnobfadaaaGreatDoorFuOk
import Derived.Test.YtkgdpcnobfadaaaGreatDoorFuExt
set_option linter.unusedSimpArgs false
set_option linter.unusedVariables false
namespace Go.Fu
open Go Go.Mx
def Γa : FuncId → Option AFun := fun f => match f with
  | 3 => some a_l13_SchemeFresh
  | 9 => some a_r13_Made
  | 10 => some a_unify_New
  | 11 => some a_r01_Around
  | 12 => some a_unify_Subst_Fresh
  | 13 => some a_scheme_Fresh
  | 14 => some a_r04_Equal
  | 15 => some a_r12_Same
  | 16 => some a_r13_Put
  | 17 => some a_r04_Subst
  | 18 => some a_l13_lives
  | 22 => some a_scheme_Print
  | 25 => some a_scheme_Canon
  | 34 => some a_scheme_Mono
  | 37 => some a_r12_Type
  | 38 => some a_r12_Preds
  | 39 => some a_r04_Plain
  | 40 => some a_r03_Kind
  | 41 => some a_types_Meta
  | 42 => some a_scheme_put
  | 43 => some a_slices_Clone_Type
  | 44 => some a_r12_same
  | 45 => some a_r04_at
  | 46 => some a_r04_app
  | 47 => some a_r04_Free
  | 48 => some a_r01_Has
  | 49 => some a_r01_Letters
  | 50 => some a_types_Var
  | 51 => some a_types_Fun
  | 52 => some a_types_App
  | 53 => some a_types_Con
  | 54 => some a_r01_Decimal
  | 55 => some a_types_Print
  | 56 => some a_strings_Join
  | 58 => some a_scheme_byClass
  | 64 => some a_scheme_others
  | 65 => some a_scheme_lettered_meet
  | 66 => some a_scheme_lettered_letters
  | 67 => some a_scheme_copied
  | 68 => some a_slices_Index_string
  | 69 => some a_slices_SortStableFunc_Pred
  | 70 => some a_slices_CompactFunc_Pred
  | 71 => some a_scheme_Canon_1
  | 87 => some a_types_Subst
  | 91 => some a_r12_typ
  | 92 => some a_r01_Ints
  | 93 => some a_r11_Names
  | 94 => some a_r12_pick
  | 95 => some a_r04_build
  | 96 => some a_r03_Made
  | 97 => some a_r04_free
  | 98 => some a_types_own
  | 99 => some a_types_apply
  | 100 => some a_types_print
  | 102 => some a_strings_Builder_WriteString
  | 104 => some a_cmp_Or_int
  | 105 => some a_cmp_Compare_string
  | 107 => some a_types_Free
  | 108 => some a_slices_DeleteFunc_string
  | 109 => some a_scheme_others_1
  | 110 => some a_slices_Contains_string
  | 111 => some a_scheme_lettered_letters_1
  | 112 => some a_chars_Letters
  | 113 => some a_slices_Clone_Kind
  | 114 => some a_slices_stableCmpFunc_Pred
  | 130 => some a_types_under
  | 133 => some a_r04_Name
  | 134 => some a_r04_Con
  | 135 => some a_r04_Fun
  | 136 => some a_types_parts
  | 137 => some a_types_boolean
  | 140 => some a_cmp_isNaN_string
  | 142 => some a_slices_IndexFunc_string
  | 143 => some a_slices_insertionSortCmpFunc_Pred
  | 144 => some a_slices_symMergeCmpFunc_Pred
  | 161 => some a_types_letter
  | 162 => some a_types_All
  | 165 => some a_slices_rotateCmpFunc_Pred
  | 183 => some a_slices_swapRangeCmpFunc_Pred
  | _ => none
theorem Γa_holds : Holds Go.Proofs.Tryz.prog Γa := by
  intro f af h
  unfold Γa at h
  split at h
  · cases h; exact ⟨_, Go.Proofs.Tryz.func3, ok_l13_SchemeFresh⟩
  · cases h; exact ⟨_, Go.Proofs.Tryz.func9, ok_r13_Made⟩
  · cases h; exact ⟨_, Go.Proofs.Tryz.func10, ok_unify_New⟩
  · cases h; exact ⟨_, Go.Proofs.Tryz.func11, ok_r01_Around⟩
  · cases h; exact ⟨_, Go.Proofs.Tryz.func12, ok_unify_Subst_Fresh⟩
  · cases h; exact ⟨_, Go.Proofs.Tryz.func13, ok_scheme_Fresh⟩
  · cases h; exact ⟨_, Go.Proofs.Tryz.func14, ok_r04_Equal⟩
  · cases h; exact ⟨_, Go.Proofs.Tryz.func15, ok_r12_Same⟩
  · cases h; exact ⟨_, Go.Proofs.Tryz.func16, ok_r13_Put⟩
  · cases h; exact ⟨_, Go.Proofs.Tryz.func17, ok_r04_Subst⟩
  · cases h; exact ⟨_, Go.Proofs.Tryz.func18, ok_l13_lives⟩
  · cases h; exact ⟨_, Go.Proofs.Tryz.func22, ok_scheme_Print⟩
  · cases h; exact ⟨_, Go.Proofs.Tryz.func25, ok_scheme_Canon⟩
  · cases h; exact ⟨_, Go.Proofs.Tryz.func34, ok_scheme_Mono⟩
  · cases h; exact ⟨_, Go.Proofs.Tryz.func37, ok_r12_Type⟩
  · cases h; exact ⟨_, Go.Proofs.Tryz.func38, ok_r12_Preds⟩
  · cases h; exact ⟨_, Go.Proofs.Tryz.func39, ok_r04_Plain⟩
  · cases h; exact ⟨_, Go.Proofs.Tryz.func40, ok_r03_Kind⟩
  · cases h; exact ⟨_, Go.Proofs.Tryz.func41, ok_types_Meta⟩
  · cases h; exact ⟨_, Go.Proofs.Tryz.func42, ok_scheme_put⟩
  · cases h; exact ⟨_, Go.Proofs.Tryz.func43, ok_slices_Clone_Type⟩
  · cases h; exact ⟨_, Go.Proofs.Tryz.func44, ok_r12_same⟩
  · cases h; exact ⟨_, Go.Proofs.Tryz.func45, ok_r04_at⟩
  · cases h; exact ⟨_, Go.Proofs.Tryz.func46, ok_r04_app⟩
  · cases h; exact ⟨_, Go.Proofs.Tryz.func47, ok_r04_Free⟩
  · cases h; exact ⟨_, Go.Proofs.Tryz.func48, ok_r01_Has⟩
  · cases h; exact ⟨_, Go.Proofs.Tryz.func49, ok_r01_Letters⟩
  · cases h; exact ⟨_, Go.Proofs.Tryz.func50, ok_types_Var⟩
  · cases h; exact ⟨_, Go.Proofs.Tryz.func51, ok_types_Fun⟩
  · cases h; exact ⟨_, Go.Proofs.Tryz.func52, ok_types_App⟩
  · cases h; exact ⟨_, Go.Proofs.Tryz.func53, ok_types_Con⟩
  · cases h; exact ⟨_, Go.Proofs.Tryz.func54, ok_r01_Decimal⟩
  · cases h; exact ⟨_, Go.Proofs.Tryz.func55, ok_types_Print⟩
  · cases h; exact ⟨_, Go.Proofs.Tryz.func56, ok_strings_Join⟩
  · cases h; exact ⟨_, Go.Proofs.Tryz.func58, ok_scheme_byClass⟩
  · cases h; exact ⟨_, Go.Proofs.Tryz.func64, ok_scheme_others⟩
  · cases h; exact ⟨_, Go.Proofs.Tryz.func65, ok_scheme_lettered_meet⟩
  · cases h; exact ⟨_, Go.Proofs.Tryz.func66, ok_scheme_lettered_letters⟩
  · cases h; exact ⟨_, Go.Proofs.Tryz.func67, ok_scheme_copied⟩
  · cases h; exact ⟨_, Go.Proofs.Tryz.func68, ok_slices_Index_string⟩
  · cases h; exact ⟨_, Go.Proofs.Tryz.func69, ok_slices_SortStableFunc_Pred⟩
  · cases h; exact ⟨_, Go.Proofs.Tryz.func70, ok_slices_CompactFunc_Pred⟩
  · cases h; exact ⟨_, Go.Proofs.Tryz.func71, ok_scheme_Canon_1⟩
  · cases h; exact ⟨_, Go.Proofs.Tryz.func87, ok_types_Subst⟩
  · cases h; exact ⟨_, Go.Proofs.Tryz.func91, ok_r12_typ⟩
  · cases h; exact ⟨_, Go.Proofs.Tryz.func92, ok_r01_Ints⟩
  · cases h; exact ⟨_, Go.Proofs.Tryz.func93, ok_r11_Names⟩
  · cases h; exact ⟨_, Go.Proofs.Tryz.func94, ok_r12_pick⟩
  · cases h; exact ⟨_, Go.Proofs.Tryz.func95, ok_r04_build⟩
  · cases h; exact ⟨_, Go.Proofs.Tryz.func96, ok_r03_Made⟩
  · cases h; exact ⟨_, Go.Proofs.Tryz.func97, ok_r04_free⟩
  · cases h; exact ⟨_, Go.Proofs.Tryz.func98, ok_types_own⟩
  · cases h; exact ⟨_, Go.Proofs.Tryz.func99, ok_types_apply⟩
  · cases h; exact ⟨_, Go.Proofs.Tryz.func100, ok_types_print⟩
  · cases h; exact ⟨_, Go.Proofs.Tryz.func102, ok_strings_Builder_WriteString⟩
  · cases h; exact ⟨_, Go.Proofs.Tryz.func104, ok_cmp_Or_int⟩
  · cases h; exact ⟨_, Go.Proofs.Tryz.func105, ok_cmp_Compare_string⟩
  · cases h; exact ⟨_, Go.Proofs.Tryz.func107, ok_types_Free⟩
  · cases h; exact ⟨_, Go.Proofs.Tryz.func108, ok_slices_DeleteFunc_string⟩
  · cases h; exact ⟨_, Go.Proofs.Tryz.func109, ok_scheme_others_1⟩
  · cases h; exact ⟨_, Go.Proofs.Tryz.func110, ok_slices_Contains_string⟩
  · cases h; exact ⟨_, Go.Proofs.Tryz.func111, ok_scheme_lettered_letters_1⟩
  · cases h; exact ⟨_, Go.Proofs.Tryz.func112, ok_chars_Letters⟩
  · cases h; exact ⟨_, Go.Proofs.Tryz.func113, ok_slices_Clone_Kind⟩
  · cases h; exact ⟨_, Go.Proofs.Tryz.func114, ok_slices_stableCmpFunc_Pred⟩
  · cases h; exact ⟨_, Go.Proofs.Tryz.func130, ok_types_under⟩
  · cases h; exact ⟨_, Go.Proofs.Tryz.func133, ok_r04_Name⟩
  · cases h; exact ⟨_, Go.Proofs.Tryz.func134, ok_r04_Con⟩
  · cases h; exact ⟨_, Go.Proofs.Tryz.func135, ok_r04_Fun⟩
  · cases h; exact ⟨_, Go.Proofs.Tryz.func136, ok_types_parts⟩
  · cases h; exact ⟨_, Go.Proofs.Tryz.func137, ok_types_boolean⟩
  · cases h; exact ⟨_, Go.Proofs.Tryz.func140, ok_cmp_isNaN_string⟩
  · cases h; exact ⟨_, Go.Proofs.Tryz.func142, ok_slices_IndexFunc_string⟩
  · cases h; exact ⟨_, Go.Proofs.Tryz.func143, ok_slices_insertionSortCmpFunc_Pred⟩
  · cases h; exact ⟨_, Go.Proofs.Tryz.func144, ok_slices_symMergeCmpFunc_Pred⟩
  · cases h; exact ⟨_, Go.Proofs.Tryz.func161, ok_types_letter⟩
  · cases h; exact ⟨_, Go.Proofs.Tryz.func162, ok_types_All⟩
  · cases h; exact ⟨_, Go.Proofs.Tryz.func165, ok_slices_rotateCmpFunc_Pred⟩
  · cases h; exact ⟨_, Go.Proofs.Tryz.func183, ok_slices_swapRangeCmpFunc_Pred⟩
  · cases h
theorem Γ_l13_SchemeFresh : Γa n_l13_SchemeFresh = some a_l13_SchemeFresh := rfl
theorem Γ_r13_Made : Γa n_r13_Made = some a_r13_Made := rfl
theorem Γ_unify_New : Γa n_unify_New = some a_unify_New := rfl
theorem Γ_r01_Around : Γa n_r01_Around = some a_r01_Around := rfl
theorem Γ_unify_Subst_Fresh : Γa n_unify_Subst_Fresh = some a_unify_Subst_Fresh := rfl
theorem Γ_scheme_Fresh : Γa n_scheme_Fresh = some a_scheme_Fresh := rfl
theorem Γ_r04_Equal : Γa n_r04_Equal = some a_r04_Equal := rfl
theorem Γ_r12_Same : Γa n_r12_Same = some a_r12_Same := rfl
theorem Γ_r13_Put : Γa n_r13_Put = some a_r13_Put := rfl
theorem Γ_r04_Subst : Γa n_r04_Subst = some a_r04_Subst := rfl
theorem Γ_l13_lives : Γa n_l13_lives = some a_l13_lives := rfl
theorem Γ_scheme_Print : Γa n_scheme_Print = some a_scheme_Print := rfl
theorem Γ_scheme_Canon : Γa n_scheme_Canon = some a_scheme_Canon := rfl
theorem Γ_scheme_Mono : Γa n_scheme_Mono = some a_scheme_Mono := rfl
theorem Γ_r12_Type : Γa n_r12_Type = some a_r12_Type := rfl
theorem Γ_r12_Preds : Γa n_r12_Preds = some a_r12_Preds := rfl
theorem Γ_r04_Plain : Γa n_r04_Plain = some a_r04_Plain := rfl
theorem Γ_r03_Kind : Γa n_r03_Kind = some a_r03_Kind := rfl
theorem Γ_types_Meta : Γa n_types_Meta = some a_types_Meta := rfl
theorem Γ_scheme_put : Γa n_scheme_put = some a_scheme_put := rfl
theorem Γ_slices_Clone_Type : Γa n_slices_Clone_Type = some a_slices_Clone_Type := rfl
theorem Γ_r12_same : Γa n_r12_same = some a_r12_same := rfl
theorem Γ_r04_at : Γa n_r04_at = some a_r04_at := rfl
theorem Γ_r04_app : Γa n_r04_app = some a_r04_app := rfl
theorem Γ_r04_Free : Γa n_r04_Free = some a_r04_Free := rfl
theorem Γ_r01_Has : Γa n_r01_Has = some a_r01_Has := rfl
theorem Γ_r01_Letters : Γa n_r01_Letters = some a_r01_Letters := rfl
theorem Γ_types_Var : Γa n_types_Var = some a_types_Var := rfl
theorem Γ_types_Fun : Γa n_types_Fun = some a_types_Fun := rfl
theorem Γ_types_App : Γa n_types_App = some a_types_App := rfl
theorem Γ_types_Con : Γa n_types_Con = some a_types_Con := rfl
theorem Γ_r01_Decimal : Γa n_r01_Decimal = some a_r01_Decimal := rfl
theorem Γ_types_Print : Γa n_types_Print = some a_types_Print := rfl
theorem Γ_strings_Join : Γa n_strings_Join = some a_strings_Join := rfl
theorem Γ_scheme_byClass : Γa n_scheme_byClass = some a_scheme_byClass := rfl
theorem Γ_scheme_others : Γa n_scheme_others = some a_scheme_others := rfl
theorem Γ_scheme_lettered_meet : Γa n_scheme_lettered_meet = some a_scheme_lettered_meet := rfl
theorem Γ_scheme_lettered_letters : Γa n_scheme_lettered_letters = some a_scheme_lettered_letters := rfl
theorem Γ_scheme_copied : Γa n_scheme_copied = some a_scheme_copied := rfl
theorem Γ_slices_Index_string : Γa n_slices_Index_string = some a_slices_Index_string := rfl
theorem Γ_slices_SortStableFunc_Pred : Γa n_slices_SortStableFunc_Pred = some a_slices_SortStableFunc_Pred := rfl
theorem Γ_slices_CompactFunc_Pred : Γa n_slices_CompactFunc_Pred = some a_slices_CompactFunc_Pred := rfl
theorem Γ_scheme_Canon_1 : Γa n_scheme_Canon_1 = some a_scheme_Canon_1 := rfl
theorem Γ_types_Subst : Γa n_types_Subst = some a_types_Subst := rfl
theorem Γ_r12_typ : Γa n_r12_typ = some a_r12_typ := rfl
theorem Γ_r01_Ints : Γa n_r01_Ints = some a_r01_Ints := rfl
theorem Γ_r11_Names : Γa n_r11_Names = some a_r11_Names := rfl
theorem Γ_r12_pick : Γa n_r12_pick = some a_r12_pick := rfl
theorem Γ_r04_build : Γa n_r04_build = some a_r04_build := rfl
theorem Γ_r03_Made : Γa n_r03_Made = some a_r03_Made := rfl
theorem Γ_r04_free : Γa n_r04_free = some a_r04_free := rfl
theorem Γ_types_own : Γa n_types_own = some a_types_own := rfl
theorem Γ_types_apply : Γa n_types_apply = some a_types_apply := rfl
theorem Γ_types_print : Γa n_types_print = some a_types_print := rfl
theorem Γ_strings_Builder_WriteString : Γa n_strings_Builder_WriteString = some a_strings_Builder_WriteString := rfl
theorem Γ_cmp_Or_int : Γa n_cmp_Or_int = some a_cmp_Or_int := rfl
theorem Γ_cmp_Compare_string : Γa n_cmp_Compare_string = some a_cmp_Compare_string := rfl
theorem Γ_types_Free : Γa n_types_Free = some a_types_Free := rfl
theorem Γ_slices_DeleteFunc_string : Γa n_slices_DeleteFunc_string = some a_slices_DeleteFunc_string := rfl
theorem Γ_scheme_others_1 : Γa n_scheme_others_1 = some a_scheme_others_1 := rfl
theorem Γ_slices_Contains_string : Γa n_slices_Contains_string = some a_slices_Contains_string := rfl
theorem Γ_scheme_lettered_letters_1 : Γa n_scheme_lettered_letters_1 = some a_scheme_lettered_letters_1 := rfl
theorem Γ_chars_Letters : Γa n_chars_Letters = some a_chars_Letters := rfl
theorem Γ_slices_Clone_Kind : Γa n_slices_Clone_Kind = some a_slices_Clone_Kind := rfl
theorem Γ_slices_stableCmpFunc_Pred : Γa n_slices_stableCmpFunc_Pred = some a_slices_stableCmpFunc_Pred := rfl
theorem Γ_types_under : Γa n_types_under = some a_types_under := rfl
theorem Γ_r04_Name : Γa n_r04_Name = some a_r04_Name := rfl
theorem Γ_r04_Con : Γa n_r04_Con = some a_r04_Con := rfl
theorem Γ_r04_Fun : Γa n_r04_Fun = some a_r04_Fun := rfl
theorem Γ_types_parts : Γa n_types_parts = some a_types_parts := rfl
theorem Γ_types_boolean : Γa n_types_boolean = some a_types_boolean := rfl
theorem Γ_cmp_isNaN_string : Γa n_cmp_isNaN_string = some a_cmp_isNaN_string := rfl
theorem Γ_slices_IndexFunc_string : Γa n_slices_IndexFunc_string = some a_slices_IndexFunc_string := rfl
theorem Γ_slices_insertionSortCmpFunc_Pred : Γa n_slices_insertionSortCmpFunc_Pred = some a_slices_insertionSortCmpFunc_Pred := rfl
theorem Γ_slices_symMergeCmpFunc_Pred : Γa n_slices_symMergeCmpFunc_Pred = some a_slices_symMergeCmpFunc_Pred := rfl
theorem Γ_types_letter : Γa n_types_letter = some a_types_letter := rfl
theorem Γ_types_All : Γa n_types_All = some a_types_All := rfl
theorem Γ_slices_rotateCmpFunc_Pred : Γa n_slices_rotateCmpFunc_Pred = some a_slices_rotateCmpFunc_Pred := rfl
theorem Γ_slices_swapRangeCmpFunc_Pred : Γa n_slices_swapRangeCmpFunc_Pred = some a_slices_swapRangeCmpFunc_Pred := rfl
def Xa : CallF := fun f ds σ => ifB (f == n_strconv_Itoa) (bindO (xItoa ds) fun d => some (.ret ⟨false, d⟩, σ)) (ifB (f == n_strings_Builder_copyCheck) (xCopy ds σ) (ifB (f == n_strings_Builder_String) (xString ds σ) (ifB (f == n_strings_Builder_Grow) (xGrow ds σ) none)))
def Ra : RecF := fun _ _ _ _ => none
def livesA (n : Nat) (f : FuncId) : Bool := match runQ Γa Ra Xa n false f [] { objs := [], tys := [], oth := [], next := 0 } with
  | some (.ret ⟨false, .bool true⟩, _) => true
  | _ => false
end Go.Fu

