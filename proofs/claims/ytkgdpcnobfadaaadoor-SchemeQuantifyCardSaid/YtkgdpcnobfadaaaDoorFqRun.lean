/-
  The table of the functions that the machine runs, and their fit.
-/
import Derived.Test.YtkgdpcnobfadaaaDoorFqOk
import Derived.Test.YtkgdpcnobfadaaaDoorFqExt
set_option linter.unusedSimpArgs false
set_option linter.unusedVariables false
namespace Go.Fu
open Go Go.Mx
def Γa : FuncId → Option AFun := fun f => match f with
  | 3 => some a_l13_SchemeQuantify
  | 4 => some a_r13_Made
  | 5 => some a_r01_Around
  | 6 => some a_scheme_Quantify
  | 7 => some a_scheme_Mono
  | 8 => some a_r13_Equal
  | 9 => some a_r13_Quantify
  | 10 => some a_l13_lives
  | 11 => some a_r12_Type
  | 12 => some a_r12_Preds
  | 13 => some a_r04_Plain
  | 14 => some a_r03_Kind
  | 16 => some a_scheme_Quantify_1
  | 17 => some a_scheme_variables
  | 18 => some a_types_Subst
  | 19 => some a_r01_SameTexts
  | 20 => some a_r04_Equal
  | 21 => some a_r12_Same
  | 22 => some a_r03_Same
  | 23 => some a_r13_variables
  | 24 => some a_r01_Decimal
  | 25 => some a_types_Var
  | 26 => some a_types_Fun
  | 27 => some a_types_App
  | 28 => some a_types_Con
  | 29 => some a_scheme_Print
  | 30 => some a_r12_typ
  | 31 => some a_r01_Ints
  | 32 => some a_r11_Names
  | 33 => some a_r12_pick
  | 34 => some a_r04_build
  | 35 => some a_r03_Made
  | 37 => some a_slices_Index_int
  | 38 => some a_slices_Clone_Type
  | 39 => some a_slices_Index_string
  | 40 => some a_types_own
  | 41 => some a_types_apply
  | 42 => some a_types_under
  | 43 => some a_r12_same
  | 44 => some a_scheme_Canon
  | 45 => some a_types_Print
  | 46 => some a_strings_Join
  | 47 => some a_r04_Name
  | 48 => some a_r04_Con
  | 49 => some a_r04_Fun
  | 50 => some a_r04_app
  | 52 => some a_types_Free
  | 53 => some a_slices_Contains_string
  | 54 => some a_types_letter
  | 55 => some a_types_All
  | 56 => some a_scheme_others
  | 57 => some a_scheme_lettered_meet
  | 58 => some a_scheme_lettered_letters
  | 59 => some a_scheme_copied
  | 60 => some a_scheme_put
  | 61 => some a_slices_SortStableFunc_Pred
  | 62 => some a_scheme_byClass
  | 63 => some a_slices_CompactFunc_Pred
  | 64 => some a_scheme_Canon_1
  | 65 => some a_types_print
  | 67 => some a_strings_Builder_WriteString
  | 73 => some a_chars_Letters
  | 74 => some a_slices_DeleteFunc_string
  | 75 => some a_scheme_others_1
  | 76 => some a_scheme_lettered_letters_1
  | 77 => some a_slices_Clone_Kind
  | 78 => some a_slices_stableCmpFunc_Pred
  | 79 => some a_cmp_Or_int
  | 80 => some a_cmp_Compare_string
  | 81 => some a_types_parts
  | 82 => some a_types_boolean
  | 90 => some a_slices_IndexFunc_string
  | 91 => some a_slices_insertionSortCmpFunc_Pred
  | 92 => some a_slices_symMergeCmpFunc_Pred
  | 93 => some a_cmp_isNaN_string
  | 98 => some a_slices_rotateCmpFunc_Pred
  | 99 => some a_slices_swapRangeCmpFunc_Pred
  | _ => none
theorem Γa_holds : Holds Go.Proofs.Tryd.prog Γa := by
  intro f af h
  unfold Γa at h
  split at h
  · cases h; exact ⟨_, Go.Proofs.Tryd.func3, ok_l13_SchemeQuantify⟩
  · cases h; exact ⟨_, Go.Proofs.Tryd.func4, ok_r13_Made⟩
  · cases h; exact ⟨_, Go.Proofs.Tryd.func5, ok_r01_Around⟩
  · cases h; exact ⟨_, Go.Proofs.Tryd.func6, ok_scheme_Quantify⟩
  · cases h; exact ⟨_, Go.Proofs.Tryd.func7, ok_scheme_Mono⟩
  · cases h; exact ⟨_, Go.Proofs.Tryd.func8, ok_r13_Equal⟩
  · cases h; exact ⟨_, Go.Proofs.Tryd.func9, ok_r13_Quantify⟩
  · cases h; exact ⟨_, Go.Proofs.Tryd.func10, ok_l13_lives⟩
  · cases h; exact ⟨_, Go.Proofs.Tryd.func11, ok_r12_Type⟩
  · cases h; exact ⟨_, Go.Proofs.Tryd.func12, ok_r12_Preds⟩
  · cases h; exact ⟨_, Go.Proofs.Tryd.func13, ok_r04_Plain⟩
  · cases h; exact ⟨_, Go.Proofs.Tryd.func14, ok_r03_Kind⟩
  · cases h; exact ⟨_, Go.Proofs.Tryd.func16, ok_scheme_Quantify_1⟩
  · cases h; exact ⟨_, Go.Proofs.Tryd.func17, ok_scheme_variables⟩
  · cases h; exact ⟨_, Go.Proofs.Tryd.func18, ok_types_Subst⟩
  · cases h; exact ⟨_, Go.Proofs.Tryd.func19, ok_r01_SameTexts⟩
  · cases h; exact ⟨_, Go.Proofs.Tryd.func20, ok_r04_Equal⟩
  · cases h; exact ⟨_, Go.Proofs.Tryd.func21, ok_r12_Same⟩
  · cases h; exact ⟨_, Go.Proofs.Tryd.func22, ok_r03_Same⟩
  · cases h; exact ⟨_, Go.Proofs.Tryd.func23, ok_r13_variables⟩
  · cases h; exact ⟨_, Go.Proofs.Tryd.func24, ok_r01_Decimal⟩
  · cases h; exact ⟨_, Go.Proofs.Tryd.func25, ok_types_Var⟩
  · cases h; exact ⟨_, Go.Proofs.Tryd.func26, ok_types_Fun⟩
  · cases h; exact ⟨_, Go.Proofs.Tryd.func27, ok_types_App⟩
  · cases h; exact ⟨_, Go.Proofs.Tryd.func28, ok_types_Con⟩
  · cases h; exact ⟨_, Go.Proofs.Tryd.func29, ok_scheme_Print⟩
  · cases h; exact ⟨_, Go.Proofs.Tryd.func30, ok_r12_typ⟩
  · cases h; exact ⟨_, Go.Proofs.Tryd.func31, ok_r01_Ints⟩
  · cases h; exact ⟨_, Go.Proofs.Tryd.func32, ok_r11_Names⟩
  · cases h; exact ⟨_, Go.Proofs.Tryd.func33, ok_r12_pick⟩
  · cases h; exact ⟨_, Go.Proofs.Tryd.func34, ok_r04_build⟩
  · cases h; exact ⟨_, Go.Proofs.Tryd.func35, ok_r03_Made⟩
  · cases h; exact ⟨_, Go.Proofs.Tryd.func37, ok_slices_Index_int⟩
  · cases h; exact ⟨_, Go.Proofs.Tryd.func38, ok_slices_Clone_Type⟩
  · cases h; exact ⟨_, Go.Proofs.Tryd.func39, ok_slices_Index_string⟩
  · cases h; exact ⟨_, Go.Proofs.Tryd.func40, ok_types_own⟩
  · cases h; exact ⟨_, Go.Proofs.Tryd.func41, ok_types_apply⟩
  · cases h; exact ⟨_, Go.Proofs.Tryd.func42, ok_types_under⟩
  · cases h; exact ⟨_, Go.Proofs.Tryd.func43, ok_r12_same⟩
  · cases h; exact ⟨_, Go.Proofs.Tryd.func44, ok_scheme_Canon⟩
  · cases h; exact ⟨_, Go.Proofs.Tryd.func45, ok_types_Print⟩
  · cases h; exact ⟨_, Go.Proofs.Tryd.func46, ok_strings_Join⟩
  · cases h; exact ⟨_, Go.Proofs.Tryd.func47, ok_r04_Name⟩
  · cases h; exact ⟨_, Go.Proofs.Tryd.func48, ok_r04_Con⟩
  · cases h; exact ⟨_, Go.Proofs.Tryd.func49, ok_r04_Fun⟩
  · cases h; exact ⟨_, Go.Proofs.Tryd.func50, ok_r04_app⟩
  · cases h; exact ⟨_, Go.Proofs.Tryd.func52, ok_types_Free⟩
  · cases h; exact ⟨_, Go.Proofs.Tryd.func53, ok_slices_Contains_string⟩
  · cases h; exact ⟨_, Go.Proofs.Tryd.func54, ok_types_letter⟩
  · cases h; exact ⟨_, Go.Proofs.Tryd.func55, ok_types_All⟩
  · cases h; exact ⟨_, Go.Proofs.Tryd.func56, ok_scheme_others⟩
  · cases h; exact ⟨_, Go.Proofs.Tryd.func57, ok_scheme_lettered_meet⟩
  · cases h; exact ⟨_, Go.Proofs.Tryd.func58, ok_scheme_lettered_letters⟩
  · cases h; exact ⟨_, Go.Proofs.Tryd.func59, ok_scheme_copied⟩
  · cases h; exact ⟨_, Go.Proofs.Tryd.func60, ok_scheme_put⟩
  · cases h; exact ⟨_, Go.Proofs.Tryd.func61, ok_slices_SortStableFunc_Pred⟩
  · cases h; exact ⟨_, Go.Proofs.Tryd.func62, ok_scheme_byClass⟩
  · cases h; exact ⟨_, Go.Proofs.Tryd.func63, ok_slices_CompactFunc_Pred⟩
  · cases h; exact ⟨_, Go.Proofs.Tryd.func64, ok_scheme_Canon_1⟩
  · cases h; exact ⟨_, Go.Proofs.Tryd.func65, ok_types_print⟩
  · cases h; exact ⟨_, Go.Proofs.Tryd.func67, ok_strings_Builder_WriteString⟩
  · cases h; exact ⟨_, Go.Proofs.Tryd.func73, ok_chars_Letters⟩
  · cases h; exact ⟨_, Go.Proofs.Tryd.func74, ok_slices_DeleteFunc_string⟩
  · cases h; exact ⟨_, Go.Proofs.Tryd.func75, ok_scheme_others_1⟩
  · cases h; exact ⟨_, Go.Proofs.Tryd.func76, ok_scheme_lettered_letters_1⟩
  · cases h; exact ⟨_, Go.Proofs.Tryd.func77, ok_slices_Clone_Kind⟩
  · cases h; exact ⟨_, Go.Proofs.Tryd.func78, ok_slices_stableCmpFunc_Pred⟩
  · cases h; exact ⟨_, Go.Proofs.Tryd.func79, ok_cmp_Or_int⟩
  · cases h; exact ⟨_, Go.Proofs.Tryd.func80, ok_cmp_Compare_string⟩
  · cases h; exact ⟨_, Go.Proofs.Tryd.func81, ok_types_parts⟩
  · cases h; exact ⟨_, Go.Proofs.Tryd.func82, ok_types_boolean⟩
  · cases h; exact ⟨_, Go.Proofs.Tryd.func90, ok_slices_IndexFunc_string⟩
  · cases h; exact ⟨_, Go.Proofs.Tryd.func91, ok_slices_insertionSortCmpFunc_Pred⟩
  · cases h; exact ⟨_, Go.Proofs.Tryd.func92, ok_slices_symMergeCmpFunc_Pred⟩
  · cases h; exact ⟨_, Go.Proofs.Tryd.func93, ok_cmp_isNaN_string⟩
  · cases h; exact ⟨_, Go.Proofs.Tryd.func98, ok_slices_rotateCmpFunc_Pred⟩
  · cases h; exact ⟨_, Go.Proofs.Tryd.func99, ok_slices_swapRangeCmpFunc_Pred⟩
  · cases h
theorem Γ_l13_SchemeQuantify : Γa n_l13_SchemeQuantify = some a_l13_SchemeQuantify := rfl
theorem Γ_r13_Made : Γa n_r13_Made = some a_r13_Made := rfl
theorem Γ_r01_Around : Γa n_r01_Around = some a_r01_Around := rfl
theorem Γ_scheme_Quantify : Γa n_scheme_Quantify = some a_scheme_Quantify := rfl
theorem Γ_scheme_Mono : Γa n_scheme_Mono = some a_scheme_Mono := rfl
theorem Γ_r13_Equal : Γa n_r13_Equal = some a_r13_Equal := rfl
theorem Γ_r13_Quantify : Γa n_r13_Quantify = some a_r13_Quantify := rfl
theorem Γ_l13_lives : Γa n_l13_lives = some a_l13_lives := rfl
theorem Γ_r12_Type : Γa n_r12_Type = some a_r12_Type := rfl
theorem Γ_r12_Preds : Γa n_r12_Preds = some a_r12_Preds := rfl
theorem Γ_r04_Plain : Γa n_r04_Plain = some a_r04_Plain := rfl
theorem Γ_r03_Kind : Γa n_r03_Kind = some a_r03_Kind := rfl
theorem Γ_scheme_Quantify_1 : Γa n_scheme_Quantify_1 = some a_scheme_Quantify_1 := rfl
theorem Γ_scheme_variables : Γa n_scheme_variables = some a_scheme_variables := rfl
theorem Γ_types_Subst : Γa n_types_Subst = some a_types_Subst := rfl
theorem Γ_r01_SameTexts : Γa n_r01_SameTexts = some a_r01_SameTexts := rfl
theorem Γ_r04_Equal : Γa n_r04_Equal = some a_r04_Equal := rfl
theorem Γ_r12_Same : Γa n_r12_Same = some a_r12_Same := rfl
theorem Γ_r03_Same : Γa n_r03_Same = some a_r03_Same := rfl
theorem Γ_r13_variables : Γa n_r13_variables = some a_r13_variables := rfl
theorem Γ_r01_Decimal : Γa n_r01_Decimal = some a_r01_Decimal := rfl
theorem Γ_types_Var : Γa n_types_Var = some a_types_Var := rfl
theorem Γ_types_Fun : Γa n_types_Fun = some a_types_Fun := rfl
theorem Γ_types_App : Γa n_types_App = some a_types_App := rfl
theorem Γ_types_Con : Γa n_types_Con = some a_types_Con := rfl
theorem Γ_scheme_Print : Γa n_scheme_Print = some a_scheme_Print := rfl
theorem Γ_r12_typ : Γa n_r12_typ = some a_r12_typ := rfl
theorem Γ_r01_Ints : Γa n_r01_Ints = some a_r01_Ints := rfl
theorem Γ_r11_Names : Γa n_r11_Names = some a_r11_Names := rfl
theorem Γ_r12_pick : Γa n_r12_pick = some a_r12_pick := rfl
theorem Γ_r04_build : Γa n_r04_build = some a_r04_build := rfl
theorem Γ_r03_Made : Γa n_r03_Made = some a_r03_Made := rfl
theorem Γ_slices_Index_int : Γa n_slices_Index_int = some a_slices_Index_int := rfl
theorem Γ_slices_Clone_Type : Γa n_slices_Clone_Type = some a_slices_Clone_Type := rfl
theorem Γ_slices_Index_string : Γa n_slices_Index_string = some a_slices_Index_string := rfl
theorem Γ_types_own : Γa n_types_own = some a_types_own := rfl
theorem Γ_types_apply : Γa n_types_apply = some a_types_apply := rfl
theorem Γ_types_under : Γa n_types_under = some a_types_under := rfl
theorem Γ_r12_same : Γa n_r12_same = some a_r12_same := rfl
theorem Γ_scheme_Canon : Γa n_scheme_Canon = some a_scheme_Canon := rfl
theorem Γ_types_Print : Γa n_types_Print = some a_types_Print := rfl
theorem Γ_strings_Join : Γa n_strings_Join = some a_strings_Join := rfl
theorem Γ_r04_Name : Γa n_r04_Name = some a_r04_Name := rfl
theorem Γ_r04_Con : Γa n_r04_Con = some a_r04_Con := rfl
theorem Γ_r04_Fun : Γa n_r04_Fun = some a_r04_Fun := rfl
theorem Γ_r04_app : Γa n_r04_app = some a_r04_app := rfl
theorem Γ_types_Free : Γa n_types_Free = some a_types_Free := rfl
theorem Γ_slices_Contains_string : Γa n_slices_Contains_string = some a_slices_Contains_string := rfl
theorem Γ_types_letter : Γa n_types_letter = some a_types_letter := rfl
theorem Γ_types_All : Γa n_types_All = some a_types_All := rfl
theorem Γ_scheme_others : Γa n_scheme_others = some a_scheme_others := rfl
theorem Γ_scheme_lettered_meet : Γa n_scheme_lettered_meet = some a_scheme_lettered_meet := rfl
theorem Γ_scheme_lettered_letters : Γa n_scheme_lettered_letters = some a_scheme_lettered_letters := rfl
theorem Γ_scheme_copied : Γa n_scheme_copied = some a_scheme_copied := rfl
theorem Γ_scheme_put : Γa n_scheme_put = some a_scheme_put := rfl
theorem Γ_slices_SortStableFunc_Pred : Γa n_slices_SortStableFunc_Pred = some a_slices_SortStableFunc_Pred := rfl
theorem Γ_scheme_byClass : Γa n_scheme_byClass = some a_scheme_byClass := rfl
theorem Γ_slices_CompactFunc_Pred : Γa n_slices_CompactFunc_Pred = some a_slices_CompactFunc_Pred := rfl
theorem Γ_scheme_Canon_1 : Γa n_scheme_Canon_1 = some a_scheme_Canon_1 := rfl
theorem Γ_types_print : Γa n_types_print = some a_types_print := rfl
theorem Γ_strings_Builder_WriteString : Γa n_strings_Builder_WriteString = some a_strings_Builder_WriteString := rfl
theorem Γ_chars_Letters : Γa n_chars_Letters = some a_chars_Letters := rfl
theorem Γ_slices_DeleteFunc_string : Γa n_slices_DeleteFunc_string = some a_slices_DeleteFunc_string := rfl
theorem Γ_scheme_others_1 : Γa n_scheme_others_1 = some a_scheme_others_1 := rfl
theorem Γ_scheme_lettered_letters_1 : Γa n_scheme_lettered_letters_1 = some a_scheme_lettered_letters_1 := rfl
theorem Γ_slices_Clone_Kind : Γa n_slices_Clone_Kind = some a_slices_Clone_Kind := rfl
theorem Γ_slices_stableCmpFunc_Pred : Γa n_slices_stableCmpFunc_Pred = some a_slices_stableCmpFunc_Pred := rfl
theorem Γ_cmp_Or_int : Γa n_cmp_Or_int = some a_cmp_Or_int := rfl
theorem Γ_cmp_Compare_string : Γa n_cmp_Compare_string = some a_cmp_Compare_string := rfl
theorem Γ_types_parts : Γa n_types_parts = some a_types_parts := rfl
theorem Γ_types_boolean : Γa n_types_boolean = some a_types_boolean := rfl
theorem Γ_slices_IndexFunc_string : Γa n_slices_IndexFunc_string = some a_slices_IndexFunc_string := rfl
theorem Γ_slices_insertionSortCmpFunc_Pred : Γa n_slices_insertionSortCmpFunc_Pred = some a_slices_insertionSortCmpFunc_Pred := rfl
theorem Γ_slices_symMergeCmpFunc_Pred : Γa n_slices_symMergeCmpFunc_Pred = some a_slices_symMergeCmpFunc_Pred := rfl
theorem Γ_cmp_isNaN_string : Γa n_cmp_isNaN_string = some a_cmp_isNaN_string := rfl
theorem Γ_slices_rotateCmpFunc_Pred : Γa n_slices_rotateCmpFunc_Pred = some a_slices_rotateCmpFunc_Pred := rfl
theorem Γ_slices_swapRangeCmpFunc_Pred : Γa n_slices_swapRangeCmpFunc_Pred = some a_slices_swapRangeCmpFunc_Pred := rfl
def Xa : CallF := fun f ds σ => ifB (f == n_strconv_Itoa) (bindO (xItoa ds) fun d => some (.ret ⟨false, d⟩, σ)) (ifB (f == n_strings_Builder_copyCheck) (xCopy ds σ) (ifB (f == n_strings_Builder_String) (xString ds σ) (ifB (f == n_strings_Builder_Grow) (xGrow ds σ) none)))
def Ra : RecF := fun _ _ _ _ => none
def livesA (n : Nat) (f : FuncId) : Bool := match runQ Γa Ra Xa n false f [] { objs := [], tys := [], oth := [], next := 0 } with
  | some (.ret ⟨false, .bool true⟩, _) => true
  | _ => false
end Go.Fu

