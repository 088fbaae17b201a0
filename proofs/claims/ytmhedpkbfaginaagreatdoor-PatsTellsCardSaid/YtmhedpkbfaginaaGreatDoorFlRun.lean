/-
  The program's functions as the machine's code (printed by gen2.py).
-/
import Derived.Test.YtmhedpkbfaginaaGreatDoorFlCode2
import Derived.Test.YtmhedpkbfaginaaGreatDoorProg
import Derived.Recover
import Derived.Test.YtmhedpkbfaginaaGreatDoorMyFrame
set_option maxHeartbeats 4000000
set_option linter.unusedSimpArgs false
set_option linter.unusedVariables false
set_option linter.unusedSectionVars false
namespace Go.Fu
open Go Go.Mx
def a_169 : AFun := { nargs := 1, ntmps := 47, res := [.cell 2 (some 4), .cell 3 (some 4), .tmp 4], gc := false, body := (.seq (.region [ mo 1 (.box (.tmp 0)), mo 2 (.alloc [.int .i64 0, .int .i64 0, .str [], .nils]), mo 3 (.alloc [.int .i64 0, .int .i64 0, .str [], .nils]),
 mo 4 (.mov (.const (.bool false)))] none [0, 4]) (.seq (.seq (.region [ mo 6 (.fieldAddr 0 none (.tmp 1)), mo 7 (.load none false (.tmp 6)), mo 8 (.bin .neq (.tmp 7) (.const (.int .i64 4))), mw 9 8, ⟨some 10, .fieldAddr 3 none (.tmp 1), (some (9, false))⟩,
 ⟨some 11, .load none false (.tmp 10), (some (9, false))⟩, ⟨some 12, .indexAddr 4 (.tmp 11) (.const (.int .i64 0)), (some (9, false))⟩, ⟨some 13, .fieldAddr 0 none (.tmp 12), (some (9, false))⟩, ⟨some 14, .load none false (.tmp 13), (some (9, false))⟩,
 ⟨some 15, .bin .neq (.tmp 14) (.const (.int .i64 4)), (some (9, false))⟩, mo 16 (.pick (.tmp 9) (.const (.bool true)) (.tmp 15))] none [6, 7, 8, 9, 10, 11, 12, 13, 14, 15]) (.cond (.tmp 16) (.seq (.region [ mo 17 (.build [.int .i64 0, .int .i64 0, .str [], .nils] []),
 mo 18 (.build [.int .i64 0, .int .i64 0, .str [], .nils] []), ⟨none, .store 4 (.tmp 2) (.mv 17), none⟩, ⟨none, .store 4 (.tmp 3) (.mv 18), none⟩, mo 4 (.mov (.const (.bool false)))] none [1, 16, 17, 18]) .ret) .skip)) (.seq (.region [ mo 19 (.fieldAddr 3 none (.tmp 1)),
 mo 20 (.load none false (.tmp 19)), mo 21 (.indexAddr 4 (.tmp 20) (.const (.int .i64 0))), mo 22 (.fieldAddr 3 none (.tmp 21)), mo 23 (.load none false (.tmp 22)), mo 24 (.indexAddr 4 (.tmp 23) (.const (.int .i64 0))), mo 25 (.load (some 4) false (.tmp 24)),
 mo 5 (.alloc [.int .i64 0, .int .i64 0, .str [], .nils]), ⟨none, .store 4 (.tmp 5) (.mv 25), none⟩] none [16, 19, 20, 21, 22, 23, 24, 25]) (.seq (.seq (.region [ mo 26 (.fieldAddr 0 none (.tmp 5)), mo 27 (.load none false (.tmp 26)), mo 28 (.bin .neq (.tmp 27) (.const (.int .i64 3))), mw 29 28,
 ⟨some 30, .fieldAddr 2 none (.tmp 5), (some (29, false))⟩, ⟨some 31, .load none false (.tmp 30), (some (29, false))⟩, ⟨some 32, .bin .neq (.tmp 31) (.const (.str [45, 62])), (some (29, false))⟩, mo 33 (.pick (.tmp 29) (.const (.bool true)) (.tmp 32))] none [5, 26, 27, 28, 29, 30, 31, 32])
 (.cond (.tmp 33) (.seq (.region [ mo 34 (.build [.int .i64 0, .int .i64 0, .str [], .nils] []), mo 35 (.build [.int .i64 0, .int .i64 0, .str [], .nils] []), ⟨none, .store 4 (.tmp 2) (.mv 34), none⟩, ⟨none, .store 4 (.tmp 3) (.mv 35), none⟩, mo 4 (.mov (.const (.bool false)))] none [1, 33, 34, 35])
 .ret) .skip)) (.seq (.region [ mo 36 (.fieldAddr 3 none (.tmp 1)), mo 37 (.loadB 1 none (.tmp 36)), mo 38 (.indexAddr 4 (.tmp 37) (.const (.int .i64 0))), mo 39 (.fieldAddr 3 none (.tmp 38)), mo 40 (.loadE none (.tmp 39)), mo 41 (.indexAddr 4 (.tmp 40) (.const (.int .i64 1))),
 mo 42 (.loadE (some 4) (.tmp 41)), mo 43 (.fieldAddr 3 none (.tmp 1)), mo 44 (.loadB 1 none (.tmp 43)), mo 45 (.indexAddr 4 (.tmp 44) (.const (.int .i64 1))), mo 46 (.loadE (some 4) (.tmp 45)), ⟨none, .storeB 2 4 (.tmp 2) (.mv 42), none⟩, ⟨none, .storeB 3 4 (.tmp 3) (.mv 46), none⟩,
 mo 4 (.mov (.const (.bool true)))] (some [0, 1, 2, 3, 4, 5, 6, 7, 8, 9, 10, 11, 12, 13]) [1, 33, 36, 37, 38, 39, 40, 41, 42, 43, 44, 45, 46]) .ret))))) }
def a_168 : AFun := { nargs := 1, ntmps := 4, res := [.tmp 2], gc := false, body := (.seq (.region [ mo 2 (.mov (.const (.int .i64 0)))] none [2]) (.seq (.seq (.region [ mt 3 0] none [0]) (.cond (.tmp 3) (.seq (.region [ mo 2 (.mov (.const (.int .i64 1)))] none [3]) .ret) .skip)) (.seq
 (.region [ mo 2 (.mov (.const (.int .i64 0)))] none [3]) .ret))) }
def a_155 : AFun := { nargs := 2, ntmps := 9, res := [.tmp 4], gc := false, body := (.seq (.region [ mo 4 (.mov (.const (.bool false)))] none [4]) (.seq (.region [ mw 5 0, mw 6 1, mo 7 (.call n_287 [.tmp 5, .tmp 6]),
 mo 8 (.bin .geq (.tmp 7) (.const (.int .i64 0))), mw 4 8] none [0, 1, 5, 6, 7, 8]) .ret)) }
def a_181 : AFun := { nargs := 3, ntmps := 9, res := [.tmp 4], gc := false, body := (.seq (.region [ mo 3 (.box (.tmp 0)), mo 4 (.mov (.const (.bool false)))] none [0, 4]) (.seq (.region [ mo 5 (.load none false (.tmp 1)), mo 6 (.load none false (.tmp 2)),
 mo 7 (.load (some 4) false (.tmp 3)), mo 8 (.call n_193 [.tmp 5, .tmp 6, .tmp 7]), mw 4 8] none [1, 2, 3, 5, 6, 7, 8]) .ret)) }
def a_222 : ACode := (.seq (.region [ mo 57 (.bin .lss (.tmp 56) (.tmp 55))] none []) (.seq (.cond (.tmp 57) .skip (.exit 0)) (.seq (.block 1 (.seq (.region [ mo 58 (.indexAddr 4 (.tmp 54) (.tmp 56)), mo 59 (.load (some 4) false (.tmp 58)),
 mo 13 (.alloc [.int .i64 0, .int .i64 0, .str [], .nils]), ⟨none, .store 4 (.tmp 13) (.mv 59), none⟩] none [57, 58, 59]) (.region [ mt 60 11, mt 61 0, mo 62 (.load (some 4) false (.tmp 13)), mt 63 2, mo 64 (.call n_132 [.tmp 61, .tmp 62, .tmp 63]), mo 65 (.bin .add (.tmp 60) (.tmp 64)),
 mo 66 (.mm false (.tmp 65) (.const (.int .i64 501))), mw 11 66] none [13, 60, 61, 62, 63, 64, 65, 66]))) (.region [ mo 67 (.bin .add (.tmp 56) (.const (.int .i64 1))), mw 56 67] none [67]))))
def a_179 : AFun := { nargs := 3, ntmps := 69, res := [.tmp 6], gc := false, body := (.seq (.region [ mo 4 (.box (.tmp 1)), mo 6 (.mov (.const (.int .i64 0)))] none [1, 6]) (.seq (.seq (.region [ mo 7 (.allocN 7 [.int .i64 0, .int .i64 0, .str [], .nils]), mt 15 0,
 mo 16 (.nilCheck (.tmp 15)), mo 17 (.fieldAddr 1 none (.tmp 16)), mo 18 (.loadP none (.tmp 17)), mo 19 (.fieldAddr 1 none (.tmp 4)), mo 20 (.loadB 4 none (.tmp 19)), mo 21 (.lookup false (.agg [.int .i64 0, .int .i64 0, .str [], .nils]) true (.tmp 18) (.tmp 20)), mw 14 21,
 mo 22 (.extract (.tmp 14) 0), mo 23 (.extract (.tmp 14) 1), ⟨none, .storeB 7 4 (.tmp 7) (.mv 22), none⟩, mw 8 23] (some [10, 0, 1, 2, 3, 4, 5, 6, 7, 8, 9, 11, 12]) [14, 15, 16, 17, 18, 19, 20, 21, 22, 23]) (.seq (.region [ mt 24 8, mw 25 24, ⟨some 26, .fieldAddr 0 none (.tmp 4), (some (25, true))⟩,
 ⟨some 27, .load none false (.tmp 26), (some (25, true))⟩, ⟨some 28, .bin .eql (.tmp 27) (.const (.int .i64 1)), (some (25, true))⟩, mo 29 (.pick (.tmp 25) (.tmp 28) (.const (.bool false)))] none [8, 24, 25, 26, 27, 28]) (.cond (.tmp 29) (.seq (.seq (.region [ mt 31 2,
 mo 32 (.fieldAddr 1 none (.tmp 4)), mo 33 (.load none false (.tmp 32)), mo 34 (.lookup false (.int .i64 0) true (.tmp 31) (.tmp 33)), mw 30 34, mo 35 (.extract (.tmp 30) 0), mo 36 (.extract (.tmp 30) 1), mw 9 35, mw 10 36] none [9, 29, 30, 31, 32, 33, 34, 35, 36]) (.seq (.region [ mt 37 10,
 mo 38 (.un .not (.tmp 37))] none [10, 37]) (.cond (.tmp 38) (.region [ mt 39 2, mo 40 (.fieldAddr 1 none (.tmp 4)), mo 41 (.loadB 4 none (.tmp 40)), mt 42 0, mo 43 (.loadB 7 (some 4) (.tmp 7)), mt 44 2, mo 45 (.call n_132 [.tmp 42, .tmp 43, .tmp 44]),
 ⟨none, .update false (.tmp 39) (.tmp 41) (.tmp 45), none⟩] (some [0, 1, 2, 3, 4, 5, 6, 7]) [0, 7, 38, 39, 40, 41, 42, 43, 44, 45]) .skip))) (.seq (.region [ mw 46 2, mo 47 (.fieldAddr 1 none (.tmp 4)), mo 48 (.load none false (.tmp 47)), mo 49 (.lookup false (.int .i64 0) false (.tmp 46) (.tmp 48)),
 mw 6 49] none [0, 2, 4, 7, 38, 46, 47, 48, 49]) .ret)) .skip))) (.seq (.region [ mo 11 (.mov (.const (.int .i64 1)))] none [7, 29]) (.seq (.seq (.region [ mo 50 (.fieldAddr 0 none (.tmp 4)), mo 51 (.load none false (.tmp 50)), mo 52 (.bin .eql (.tmp 51) (.const (.int .i64 4)))] none [50, 51])
 (.cond (.tmp 52) (.region [ mo 11 (.mov (.const (.int .i64 0)))] none [52]) .skip)) (.seq (.seq (.region [ mo 53 (.fieldAddr 3 none (.tmp 4)), mo 54 (.load none false (.tmp 53)), mo 55 (.len (.tmp 54)), mo 56 (.mov (.const (.int .i64 0)))] none [4, 52, 53]) (.block 0 (.loop a_222)))
 (.seq (.region [ mw 68 11, mw 6 68] none [0, 2, 11, 54, 55, 56, 57, 68]) .ret)))))) }
def a_210 : ACode := (.seq (.region [ mo 9 (.bin .lss (.tmp 8) (.tmp 7))] none []) (.seq (.cond (.tmp 9) .skip (.exit 0)) (.seq (.block 1 (.seq (.region [ mt 10 8, mw 5 10] none [9, 10]) (.seq (.region [ mt 11 1, mt 12 0, mt 13 5, mo 14 (.indexAddr 1 (.tmp 12) (.tmp 13)),
 mo 15 (.load none false (.tmp 14)), mo 16 (.callv (.tmp 11) [.tmp 15])] none [11, 12, 13, 14, 15]) (.cond (.tmp 16) (.seq (.region [ mw 17 5, mw 4 17] none [0, 1, 5, 7, 8, 16, 17]) .ret) .skip)))) (.region [ mo 18 (.bin .add (.tmp 8) (.const (.int .i64 1))), mw 8 18] none [5, 16, 18]))))
def a_159 : AFun := { nargs := 2, ntmps := 19, res := [.tmp 4], gc := false, body := (.seq (.region [ mo 4 (.mov (.const (.int .i64 0)))] none [4]) (.seq (.seq (.region [ mt 6 0, mo 7 (.len (.tmp 6)), mo 8 (.mov (.const (.int .i64 0)))] none [6]) (.block 0
 (.loop a_210))) (.seq (.region [ mo 4 (.mov (.const (.int .i64 (-1))))] none [0, 1, 7, 8, 9]) .ret))) }
def a_212 : ACode := (.seq (.seq (.region [ mt 18 9, mt 19 1, mo 20 (.bin .gtr (.tmp 18) (.tmp 19)), mw 21 20, ⟨some 22, .mov (.tmp 3), (some (21, true))⟩, ⟨some 23, .mov (.tmp 0), (some (21, true))⟩, ⟨some 24, .mov (.tmp 9), (some (21, true))⟩,
 ⟨some 25, .indexAddr 5 (.tmp 23) (.tmp 24), (some (21, true))⟩, ⟨some 26, .loadG (some 5) (.tmp 25), (some (21, true))⟩, ⟨some 27, .mov (.tmp 0), (some (21, true))⟩, ⟨some 28, .mov (.tmp 9), (some (21, true))⟩, ⟨some 29, .bin .sub (.tmp 28) (.const (.int .i64 1)), (some (21, true))⟩,
 ⟨some 30, .indexAddr 5 (.tmp 27) (.tmp 29), (some (21, true))⟩, ⟨some 31, .loadG (some 5) (.tmp 30), (some (21, true))⟩, ⟨some 32, .callv (.tmp 22) [.tmp 26, .tmp 31], (some (21, true))⟩, ⟨some 33, .bin .lss (.tmp 32) (.const (.int .i64 0)), (some (21, true))⟩,
 mo 34 (.pick (.tmp 21) (.tmp 33) (.const (.bool false)))] (some [0, 1, 2, 3, 4, 5, 6, 7, 8, 9, 10, 11, 12, 13, 14, 15, 16]) [18, 19, 20, 21, 22, 23, 24, 25, 26, 27, 28, 29, 30, 31, 32, 33]) (.cond (.tmp 34) .skip (.exit 2))) (.seq (.block 3 (.region [ mt 37 0, mt 38 9, mt 39 0, mt 40 9,
 mo 41 (.bin .sub (.tmp 40) (.const (.int .i64 1))), mt 42 0, mt 43 9, mo 44 (.bin .sub (.tmp 43) (.const (.int .i64 1))), mo 45 (.indexAddr 5 (.tmp 42) (.tmp 44)), mo 46 (.loadG (some 5) (.tmp 45)), mt 47 0, mt 48 9, mo 49 (.indexAddr 5 (.tmp 47) (.tmp 48)), mo 50 (.loadG (some 5) (.tmp 49)),
 mo 51 (.indexAddr 5 (.tmp 37) (.tmp 38)), ⟨none, .storeP 5 (.tmp 51) (.tmp 46), none⟩, mo 52 (.indexAddr 5 (.tmp 39) (.tmp 41)),
 ⟨none, .storeP 5 (.tmp 52) (.tmp 50), none⟩] (some [0, 1, 2, 3, 4, 5, 6, 7, 8, 9, 10, 11, 12, 13, 14, 15, 16, 17]) [34, 37, 38, 39, 40, 41, 42, 43, 44, 45, 46, 47, 48, 49, 50, 51, 52])) (.region [ mt 35 9, mo 36 (.bin .sub (.tmp 35) (.const (.int .i64 1))), mw 9 36] none [35, 36])))
def a_213 : ACode := (.seq (.seq (.region [ mt 12 8, mt 13 2, mo 14 (.bin .lss (.tmp 12) (.tmp 13))] none [12, 13]) (.cond (.tmp 14) .skip (.exit 0))) (.seq (.block 1 (.seq (.region [ mt 17 8, mw 9 17] none [14, 17]) (.block 2
 (.loop a_212)))) (.region [ mt 15 8, mo 16 (.bin .add (.tmp 15) (.const (.int .i64 1))), mw 8 16] none [9, 15, 16, 34])))
def a_162 : AFun := { nargs := 4, ntmps := 53, res := [], gc := false, body := (.seq (.region [ mt 10 1, mo 11 (.bin .add (.tmp 10) (.const (.int .i64 1))), mw 8 11] none [10, 11]) (.block 0 (.loop a_213))) }
def a_209 : ACode := (.seq (.region [ mo 9 (.bin .lss (.tmp 8) (.tmp 7))] none []) (.seq (.cond (.tmp 9) .skip (.exit 0)) (.seq (.block 1 (.seq (.region [ mt 10 8, mw 5 10] none [9, 10]) (.seq (.region [ mt 11 1, mt 12 0, mt 13 5, mo 14 (.indexAddr 4 (.tmp 12) (.tmp 13)),
 mo 15 (.load (some 4) false (.tmp 14)), mo 16 (.callv (.tmp 11) [.tmp 15])] none [11, 12, 13, 14, 15]) (.cond (.tmp 16) (.seq (.region [ mw 17 5, mw 4 17] none [0, 1, 5, 7, 8, 16, 17]) .ret) .skip)))) (.region [ mo 18 (.bin .add (.tmp 8) (.const (.int .i64 1))), mw 8 18] none [5, 16, 18]))))
def a_158 : AFun := { nargs := 2, ntmps := 19, res := [.tmp 4], gc := false, body := (.seq (.region [ mo 4 (.mov (.const (.int .i64 0)))] none [4]) (.seq (.seq (.region [ mt 6 0, mo 7 (.len (.tmp 6)), mo 8 (.mov (.const (.int .i64 0)))] none [6]) (.block 0
 (.loop a_209))) (.seq (.region [ mo 4 (.mov (.const (.int .i64 (-1))))] none [0, 1, 7, 8, 9]) .ret))) }
end Go.Fu
namespace Go.Fu
open Go Go.Mx
theorem ok_l14_PatsTells : okFun Go.Proofs.Tryz.prog Go.Proofs.Tryz.f6 a_68 = true := by kernel_rfl
theorem ok_r14_World : okFun Go.Proofs.Tryz.prog Go.Proofs.Tryz.f9 a_142 = true := by kernel_rfl
theorem ok_unify_New : okFun Go.Proofs.Tryz.prog Go.Proofs.Tryz.f10 a_171 = true := by kernel_rfl
theorem ok_unify_Subst_Fresh : okFun Go.Proofs.Tryz.prog Go.Proofs.Tryz.f11 a_173 = true := by kernel_rfl
theorem ok_pats_New : okFun Go.Proofs.Tryz.prog Go.Proofs.Tryz.f12 a_86 = true := by kernel_rfl
theorem ok_pats_Cons_Pat : okFun Go.Proofs.Tryz.prog Go.Proofs.Tryz.f13 a_137 = true := by kernel_rfl
theorem ok_l14_lives : okFun Go.Proofs.Tryz.prog Go.Proofs.Tryz.f14 a_135 = true := by kernel_rfl
theorem ok_r14_WorldType : okFun Go.Proofs.Tryz.prog Go.Proofs.Tryz.f16 a_143 = true := by kernel_rfl
theorem ok_unify_Subst_Unify : okFun Go.Proofs.Tryz.prog Go.Proofs.Tryz.f17 a_174 = true := by kernel_rfl
theorem ok_r14_Made : okFun Go.Proofs.Tryz.prog Go.Proofs.Tryz.f20 a_94 = true := by kernel_rfl
theorem ok_pats_Cons_Con : okFun Go.Proofs.Tryz.prog Go.Proofs.Tryz.f21 a_69 = true := by kernel_rfl
theorem ok_r14_Con : okFun Go.Proofs.Tryz.prog Go.Proofs.Tryz.f22 a_72 = true := by kernel_rfl
theorem ok_pats_Cons_Data : okFun Go.Proofs.Tryz.prog Go.Proofs.Tryz.f23 a_70 = true := by kernel_rfl
theorem ok_r14_Data : okFun Go.Proofs.Tryz.prog Go.Proofs.Tryz.f24 a_73 = true := by kernel_rfl
theorem ok_pats_Cons_Scheme : okFun Go.Proofs.Tryz.prog Go.Proofs.Tryz.f25 a_71 = true := by kernel_rfl
theorem ok_r14_SameFields : okFun Go.Proofs.Tryz.prog Go.Proofs.Tryz.f26 a_95 = true := by kernel_rfl
theorem ok_pats_Cons_Fields : okFun Go.Proofs.Tryz.prog Go.Proofs.Tryz.f27 a_85 = true := by kernel_rfl
theorem ok_r14_Fields : okFun Go.Proofs.Tryz.prog Go.Proofs.Tryz.f28 a_93 = true := by kernel_rfl
theorem ok_r04_Equal : okFun Go.Proofs.Tryz.prog Go.Proofs.Tryz.f29 a_90 = true := by kernel_rfl
theorem ok_r14_Type : okFun Go.Proofs.Tryz.prog Go.Proofs.Tryz.f30 a_96 = true := by kernel_rfl
theorem ok_kinds_Star : okFun Go.Proofs.Tryz.prog Go.Proofs.Tryz.f33 a_83 = true := by kernel_rfl
theorem ok_r14_given : okFun Go.Proofs.Tryz.prog Go.Proofs.Tryz.f36 a_98 = true := by kernel_rfl
theorem ok_types_Meta : okFun Go.Proofs.Tryz.prog Go.Proofs.Tryz.f37 a_165 = true := by kernel_rfl
theorem ok_slices_Concat_Data : okFun Go.Proofs.Tryz.prog Go.Proofs.Tryz.f38 a_101 = true := by kernel_rfl
theorem ok_kindof_Prelude : okFun Go.Proofs.Tryz.prog Go.Proofs.Tryz.f39 a_82 = true := by kernel_rfl
theorem ok_pats_maker_make : okFun Go.Proofs.Tryz.prog Go.Proofs.Tryz.f40 a_139 = true := by kernel_rfl
theorem ok_scheme_Print : okFun Go.Proofs.Tryz.prog Go.Proofs.Tryz.f41 a_145 = true := by kernel_rfl
theorem ok_unify_Subst_Apply : okFun Go.Proofs.Tryz.prog Go.Proofs.Tryz.f42 a_172 = true := by kernel_rfl
theorem ok_maps_Clone_Type : okFun Go.Proofs.Tryz.prog Go.Proofs.Tryz.f45 a_136 = true := by kernel_rfl
theorem ok_unify_Subst_one : okFun Go.Proofs.Tryz.prog Go.Proofs.Tryz.f46 a_178 = true := by kernel_rfl
theorem ok_r14_pick : okFun Go.Proofs.Tryz.prog Go.Proofs.Tryz.f47 a_50 = true := by kernel_rfl
theorem ok_r14_field : okFun Go.Proofs.Tryz.prog Go.Proofs.Tryz.f48 a_6 = true := by kernel_rfl
theorem ok_r14_datas : okFun Go.Proofs.Tryz.prog Go.Proofs.Tryz.f49 a_97 = true := by kernel_rfl
theorem ok_slices_IndexFunc_Data : okFun Go.Proofs.Tryz.prog Go.Proofs.Tryz.f50 a_74 = true := by kernel_rfl
theorem ok_pats_Cons_Data_1 : okFun Go.Proofs.Tryz.prog Go.Proofs.Tryz.f51 a_84 = true := by kernel_rfl
theorem ok_slices_Clone_string : okFun Go.Proofs.Tryz.prog Go.Proofs.Tryz.f52 a_53 = true := by kernel_rfl
theorem ok_slices_Clone_Kind : okFun Go.Proofs.Tryz.prog Go.Proofs.Tryz.f53 a_52 = true := by kernel_rfl
theorem ok_pats_typeOf : okFun Go.Proofs.Tryz.prog Go.Proofs.Tryz.f54 a_88 = true := by kernel_rfl
theorem ok_slices_Backward_string : okFun Go.Proofs.Tryz.prog Go.Proofs.Tryz.f55 a_99 = true := by kernel_rfl
theorem ok_types_All : okFun Go.Proofs.Tryz.prog Go.Proofs.Tryz.f56 a_103 = true := by kernel_rfl
theorem ok_r04_Fun : okFun Go.Proofs.Tryz.prog Go.Proofs.Tryz.f57 a_91 = true := by kernel_rfl
theorem ok_slices_Grow_Data : okFun Go.Proofs.Tryz.prog Go.Proofs.Tryz.f68 a_102 = true := by kernel_rfl
theorem ok_pats_maker_wild : okFun Go.Proofs.Tryz.prog Go.Proofs.Tryz.f69 a_141 = true := by kernel_rfl
theorem ok_pats_maker_name : okFun Go.Proofs.Tryz.prog Go.Proofs.Tryz.f70 a_140 = true := by kernel_rfl
theorem ok_pats_maker_con : okFun Go.Proofs.Tryz.prog Go.Proofs.Tryz.f72 a_138 = true := by kernel_rfl
theorem ok_slices_Clone_Pat : okFun Go.Proofs.Tryz.prog Go.Proofs.Tryz.f73 a_153 = true := by kernel_rfl
theorem ok_types_Subst : okFun Go.Proofs.Tryz.prog Go.Proofs.Tryz.f74 a_167 = true := by kernel_rfl
theorem ok_scheme_Canon : okFun Go.Proofs.Tryz.prog Go.Proofs.Tryz.f75 a_144 = true := by kernel_rfl
theorem ok_types_Print : okFun Go.Proofs.Tryz.prog Go.Proofs.Tryz.f76 a_166 = true := by kernel_rfl
theorem ok_unify_Subst_look : okFun Go.Proofs.Tryz.prog Go.Proofs.Tryz.f78 a_177 = true := by kernel_rfl
theorem ok_unify_each : okFun Go.Proofs.Tryz.prog Go.Proofs.Tryz.f79 a_182 = true := by kernel_rfl
theorem ok_r04_app : okFun Go.Proofs.Tryz.prog Go.Proofs.Tryz.f81 a_92 = true := by kernel_rfl
theorem ok_unify_Subst_bind : okFun Go.Proofs.Tryz.prog Go.Proofs.Tryz.f86 a_175 = true := by kernel_rfl
theorem ok_types_Fun : okFun Go.Proofs.Tryz.prog Go.Proofs.Tryz.f88 a_106 = true := by kernel_rfl
theorem ok_pats_own : okFun Go.Proofs.Tryz.prog Go.Proofs.Tryz.f89 a_87 = true := by kernel_rfl
theorem ok_pats_vars : okFun Go.Proofs.Tryz.prog Go.Proofs.Tryz.f90 a_89 = true := by kernel_rfl
theorem ok_slices_Backward_string_1 : okFun Go.Proofs.Tryz.prog Go.Proofs.Tryz.f91 a_100 = true := by kernel_rfl
theorem ok_types_own : okFun Go.Proofs.Tryz.prog Go.Proofs.Tryz.f92 a_109 = true := by kernel_rfl
theorem ok_types_Con : okFun Go.Proofs.Tryz.prog Go.Proofs.Tryz.f103 a_105 = true := by kernel_rfl
theorem ok_slices_Index_string : okFun Go.Proofs.Tryz.prog Go.Proofs.Tryz.f104 a_160 = true := by kernel_rfl
theorem ok_types_apply : okFun Go.Proofs.Tryz.prog Go.Proofs.Tryz.f105 a_108 = true := by kernel_rfl
theorem ok_scheme_others : okFun Go.Proofs.Tryz.prog Go.Proofs.Tryz.f107 a_150 = true := by kernel_rfl
theorem ok_scheme_lettered_meet : okFun Go.Proofs.Tryz.prog Go.Proofs.Tryz.f108 a_149 = true := by kernel_rfl
theorem ok_scheme_lettered_letters : okFun Go.Proofs.Tryz.prog Go.Proofs.Tryz.f109 a_147 = true := by kernel_rfl
theorem ok_types_Var : okFun Go.Proofs.Tryz.prog Go.Proofs.Tryz.f110 a_107 = true := by kernel_rfl
theorem ok_scheme_copied : okFun Go.Proofs.Tryz.prog Go.Proofs.Tryz.f111 a_146 = true := by kernel_rfl
theorem ok_scheme_put : okFun Go.Proofs.Tryz.prog Go.Proofs.Tryz.f112 a_152 = true := by kernel_rfl
theorem ok_slices_SortStableFunc_Pred : okFun Go.Proofs.Tryz.prog Go.Proofs.Tryz.f113 a_161 = true := by kernel_rfl
theorem ok_slices_CompactFunc_Pred : okFun Go.Proofs.Tryz.prog Go.Proofs.Tryz.f115 a_154 = true := by kernel_rfl
theorem ok_types_print : okFun Go.Proofs.Tryz.prog Go.Proofs.Tryz.f117 a_170 = true := by kernel_rfl
theorem ok_unify_Subst_within : okFun Go.Proofs.Tryz.prog Go.Proofs.Tryz.f123 a_180 = true := by kernel_rfl
theorem ok_types_App : okFun Go.Proofs.Tryz.prog Go.Proofs.Tryz.f124 a_104 = true := by kernel_rfl
theorem ok_unify_Subst_great : okFun Go.Proofs.Tryz.prog Go.Proofs.Tryz.f125 a_176 = true := by kernel_rfl
theorem ok_types_Free : okFun Go.Proofs.Tryz.prog Go.Proofs.Tryz.f132 a_164 = true := by kernel_rfl
theorem ok_slices_Contains_string : okFun Go.Proofs.Tryz.prog Go.Proofs.Tryz.f133 a_156 = true := by kernel_rfl
theorem ok_slices_DeleteFunc_string : okFun Go.Proofs.Tryz.prog Go.Proofs.Tryz.f135 a_157 = true := by kernel_rfl
theorem ok_scheme_others_1 : okFun Go.Proofs.Tryz.prog Go.Proofs.Tryz.f136 a_151 = true := by kernel_rfl
theorem ok_scheme_lettered_letters_1 : okFun Go.Proofs.Tryz.prog Go.Proofs.Tryz.f137 a_148 = true := by kernel_rfl
theorem ok_chars_Letters : okFun Go.Proofs.Tryz.prog Go.Proofs.Tryz.f138 a_134 = true := by kernel_rfl
theorem ok_slices_stableCmpFunc_Pred : okFun Go.Proofs.Tryz.prog Go.Proofs.Tryz.f139 a_163 = true := by kernel_rfl
theorem ok_types_parts : okFun Go.Proofs.Tryz.prog Go.Proofs.Tryz.f142 a_169 = true := by kernel_rfl
theorem ok_types_boolean : okFun Go.Proofs.Tryz.prog Go.Proofs.Tryz.f143 a_168 = true := by kernel_rfl
theorem ok_slices_ContainsFunc_Type : okFun Go.Proofs.Tryz.prog Go.Proofs.Tryz.f147 a_155 = true := by kernel_rfl
theorem ok_unify_Subst_within_1 : okFun Go.Proofs.Tryz.prog Go.Proofs.Tryz.f148 a_181 = true := by kernel_rfl
theorem ok_unify_Subst_size : okFun Go.Proofs.Tryz.prog Go.Proofs.Tryz.f149 a_179 = true := by kernel_rfl
theorem ok_slices_IndexFunc_string : okFun Go.Proofs.Tryz.prog Go.Proofs.Tryz.f154 a_159 = true := by kernel_rfl
theorem ok_slices_insertionSortCmpFunc_Pred : okFun Go.Proofs.Tryz.prog Go.Proofs.Tryz.f155 a_162 = true := by kernel_rfl
theorem ok_slices_IndexFunc_Type : okFun Go.Proofs.Tryz.prog Go.Proofs.Tryz.f161 a_158 = true := by kernel_rfl
end Go.Fu
namespace Go.Mx
open Go
theorem Evo.toShared {ι0 ι : Imm} {j0 j : Lay} {own0 own : Own} {w0 w : World} (hE : Evo ι0 j0 own0 w0 ι j own w (fun _ => True)) : Evo ι0 j0 own0 w0 ι j (shared own) w (fun _ => True) := by
  refine ⟨hE.os, hE.tape, hE.output, hE.size, hE.imm, hE.lay, fun b hb ht => ?_⟩
  have hn : own0 b = none := by
    cases h : own0 b with
    | none => rfl
    | some t => exact absurd trivial (ht t h)
  obtain ⟨k1, k2, k3⟩ := hE.block b hb ht
  refine ⟨k1, ?_, k3⟩
  unfold shared
  rw [k2, hn]
end Go.Mx
namespace Go.Fu
open Go Go.Mx
set_option maxRecDepth 100000
instance : LoopKit := ⟨fun N c c2 => okCode Go.Proofs.Tryz.prog N true c c2 = true⟩
instance : KitOf Go.Proofs.Tryz.prog inferInstance := ⟨fun _ _ _ => Iff.rfl⟩
def Γa : FuncId → Option AFun := fun f => match f with
  | 6 => some a_68
  | 9 => some a_142
  | 10 => some a_171
  | 11 => some a_173
  | 12 => some a_86
  | 13 => some a_137
  | 14 => some a_135
  | 16 => some a_143
  | 17 => some a_174
  | 20 => some a_94
  | 21 => some a_69
  | 22 => some a_72
  | 23 => some a_70
  | 24 => some a_73
  | 25 => some a_71
  | 26 => some a_95
  | 27 => some a_85
  | 28 => some a_93
  | 29 => some a_90
  | 30 => some a_96
  | 33 => some a_83
  | 36 => some a_98
  | 37 => some a_165
  | 38 => some a_101
  | 39 => some a_82
  | 40 => some a_139
  | 41 => some a_145
  | 42 => some a_172
  | 45 => some a_136
  | 46 => some a_178
  | 47 => some a_50
  | 48 => some a_6
  | 49 => some a_97
  | 50 => some a_74
  | 51 => some a_84
  | 52 => some a_53
  | 53 => some a_52
  | 54 => some a_88
  | 55 => some a_99
  | 56 => some a_103
  | 57 => some a_91
  | 68 => some a_102
  | 69 => some a_141
  | 70 => some a_140
  | 72 => some a_138
  | 73 => some a_153
  | 74 => some a_167
  | 75 => some a_144
  | 76 => some a_166
  | 78 => some a_177
  | 79 => some a_182
  | 81 => some a_92
  | 86 => some a_175
  | 88 => some a_106
  | 89 => some a_87
  | 90 => some a_89
  | 91 => some a_100
  | 92 => some a_109
  | 103 => some a_105
  | 104 => some a_160
  | 105 => some a_108
  | 107 => some a_150
  | 108 => some a_149
  | 109 => some a_147
  | 110 => some a_107
  | 111 => some a_146
  | 112 => some a_152
  | 113 => some a_161
  | 115 => some a_154
  | 117 => some a_170
  | 123 => some a_180
  | 124 => some a_104
  | 125 => some a_176
  | 132 => some a_164
  | 133 => some a_156
  | 135 => some a_157
  | 136 => some a_151
  | 137 => some a_148
  | 138 => some a_134
  | 139 => some a_163
  | 142 => some a_169
  | 143 => some a_168
  | 147 => some a_155
  | 148 => some a_181
  | 149 => some a_179
  | 154 => some a_159
  | 155 => some a_162
  | 161 => some a_158
  | _ => none
theorem Γa_holds : Holds Go.Proofs.Tryz.prog Γa := by
  intro f af h
  unfold Γa at h
  split at h
  · cases h; exact ⟨rfl, _, Go.Proofs.Tryz.func6, ok_l14_PatsTells⟩
  · cases h; exact ⟨rfl, _, Go.Proofs.Tryz.func9, ok_r14_World⟩
  · cases h; exact ⟨rfl, _, Go.Proofs.Tryz.func10, ok_unify_New⟩
  · cases h; exact ⟨rfl, _, Go.Proofs.Tryz.func11, ok_unify_Subst_Fresh⟩
  · cases h; exact ⟨rfl, _, Go.Proofs.Tryz.func12, ok_pats_New⟩
  · cases h; exact ⟨rfl, _, Go.Proofs.Tryz.func13, ok_pats_Cons_Pat⟩
  · cases h; exact ⟨rfl, _, Go.Proofs.Tryz.func14, ok_l14_lives⟩
  · cases h; exact ⟨rfl, _, Go.Proofs.Tryz.func16, ok_r14_WorldType⟩
  · cases h; exact ⟨rfl, _, Go.Proofs.Tryz.func17, ok_unify_Subst_Unify⟩
  · cases h; exact ⟨rfl, _, Go.Proofs.Tryz.func20, ok_r14_Made⟩
  · cases h; exact ⟨rfl, _, Go.Proofs.Tryz.func21, ok_pats_Cons_Con⟩
  · cases h; exact ⟨rfl, _, Go.Proofs.Tryz.func22, ok_r14_Con⟩
  · cases h; exact ⟨rfl, _, Go.Proofs.Tryz.func23, ok_pats_Cons_Data⟩
  · cases h; exact ⟨rfl, _, Go.Proofs.Tryz.func24, ok_r14_Data⟩
  · cases h; exact ⟨rfl, _, Go.Proofs.Tryz.func25, ok_pats_Cons_Scheme⟩
  · cases h; exact ⟨rfl, _, Go.Proofs.Tryz.func26, ok_r14_SameFields⟩
  · cases h; exact ⟨rfl, _, Go.Proofs.Tryz.func27, ok_pats_Cons_Fields⟩
  · cases h; exact ⟨rfl, _, Go.Proofs.Tryz.func28, ok_r14_Fields⟩
  · cases h; exact ⟨rfl, _, Go.Proofs.Tryz.func29, ok_r04_Equal⟩
  · cases h; exact ⟨rfl, _, Go.Proofs.Tryz.func30, ok_r14_Type⟩
  · cases h; exact ⟨rfl, _, Go.Proofs.Tryz.func33, ok_kinds_Star⟩
  · cases h; exact ⟨rfl, _, Go.Proofs.Tryz.func36, ok_r14_given⟩
  · cases h; exact ⟨rfl, _, Go.Proofs.Tryz.func37, ok_types_Meta⟩
  · cases h; exact ⟨rfl, _, Go.Proofs.Tryz.func38, ok_slices_Concat_Data⟩
  · cases h; exact ⟨rfl, _, Go.Proofs.Tryz.func39, ok_kindof_Prelude⟩
  · cases h; exact ⟨rfl, _, Go.Proofs.Tryz.func40, ok_pats_maker_make⟩
  · cases h; exact ⟨rfl, _, Go.Proofs.Tryz.func41, ok_scheme_Print⟩
  · cases h; exact ⟨rfl, _, Go.Proofs.Tryz.func42, ok_unify_Subst_Apply⟩
  · cases h; exact ⟨rfl, _, Go.Proofs.Tryz.func45, ok_maps_Clone_Type⟩
  · cases h; exact ⟨rfl, _, Go.Proofs.Tryz.func46, ok_unify_Subst_one⟩
  · cases h; exact ⟨rfl, _, Go.Proofs.Tryz.func47, ok_r14_pick⟩
  · cases h; exact ⟨rfl, _, Go.Proofs.Tryz.func48, ok_r14_field⟩
  · cases h; exact ⟨rfl, _, Go.Proofs.Tryz.func49, ok_r14_datas⟩
  · cases h; exact ⟨rfl, _, Go.Proofs.Tryz.func50, ok_slices_IndexFunc_Data⟩
  · cases h; exact ⟨rfl, _, Go.Proofs.Tryz.func51, ok_pats_Cons_Data_1⟩
  · cases h; exact ⟨rfl, _, Go.Proofs.Tryz.func52, ok_slices_Clone_string⟩
  · cases h; exact ⟨rfl, _, Go.Proofs.Tryz.func53, ok_slices_Clone_Kind⟩
  · cases h; exact ⟨rfl, _, Go.Proofs.Tryz.func54, ok_pats_typeOf⟩
  · cases h; exact ⟨rfl, _, Go.Proofs.Tryz.func55, ok_slices_Backward_string⟩
  · cases h; exact ⟨rfl, _, Go.Proofs.Tryz.func56, ok_types_All⟩
  · cases h; exact ⟨rfl, _, Go.Proofs.Tryz.func57, ok_r04_Fun⟩
  · cases h; exact ⟨rfl, _, Go.Proofs.Tryz.func68, ok_slices_Grow_Data⟩
  · cases h; exact ⟨rfl, _, Go.Proofs.Tryz.func69, ok_pats_maker_wild⟩
  · cases h; exact ⟨rfl, _, Go.Proofs.Tryz.func70, ok_pats_maker_name⟩
  · cases h; exact ⟨rfl, _, Go.Proofs.Tryz.func72, ok_pats_maker_con⟩
  · cases h; exact ⟨rfl, _, Go.Proofs.Tryz.func73, ok_slices_Clone_Pat⟩
  · cases h; exact ⟨rfl, _, Go.Proofs.Tryz.func74, ok_types_Subst⟩
  · cases h; exact ⟨rfl, _, Go.Proofs.Tryz.func75, ok_scheme_Canon⟩
  · cases h; exact ⟨rfl, _, Go.Proofs.Tryz.func76, ok_types_Print⟩
  · cases h; exact ⟨rfl, _, Go.Proofs.Tryz.func78, ok_unify_Subst_look⟩
  · cases h; exact ⟨rfl, _, Go.Proofs.Tryz.func79, ok_unify_each⟩
  · cases h; exact ⟨rfl, _, Go.Proofs.Tryz.func81, ok_r04_app⟩
  · cases h; exact ⟨rfl, _, Go.Proofs.Tryz.func86, ok_unify_Subst_bind⟩
  · cases h; exact ⟨rfl, _, Go.Proofs.Tryz.func88, ok_types_Fun⟩
  · cases h; exact ⟨rfl, _, Go.Proofs.Tryz.func89, ok_pats_own⟩
  · cases h; exact ⟨rfl, _, Go.Proofs.Tryz.func90, ok_pats_vars⟩
  · cases h; exact ⟨rfl, _, Go.Proofs.Tryz.func91, ok_slices_Backward_string_1⟩
  · cases h; exact ⟨rfl, _, Go.Proofs.Tryz.func92, ok_types_own⟩
  · cases h; exact ⟨rfl, _, Go.Proofs.Tryz.func103, ok_types_Con⟩
  · cases h; exact ⟨rfl, _, Go.Proofs.Tryz.func104, ok_slices_Index_string⟩
  · cases h; exact ⟨rfl, _, Go.Proofs.Tryz.func105, ok_types_apply⟩
  · cases h; exact ⟨rfl, _, Go.Proofs.Tryz.func107, ok_scheme_others⟩
  · cases h; exact ⟨rfl, _, Go.Proofs.Tryz.func108, ok_scheme_lettered_meet⟩
  · cases h; exact ⟨rfl, _, Go.Proofs.Tryz.func109, ok_scheme_lettered_letters⟩
  · cases h; exact ⟨rfl, _, Go.Proofs.Tryz.func110, ok_types_Var⟩
  · cases h; exact ⟨rfl, _, Go.Proofs.Tryz.func111, ok_scheme_copied⟩
  · cases h; exact ⟨rfl, _, Go.Proofs.Tryz.func112, ok_scheme_put⟩
  · cases h; exact ⟨rfl, _, Go.Proofs.Tryz.func113, ok_slices_SortStableFunc_Pred⟩
  · cases h; exact ⟨rfl, _, Go.Proofs.Tryz.func115, ok_slices_CompactFunc_Pred⟩
  · cases h; exact ⟨rfl, _, Go.Proofs.Tryz.func117, ok_types_print⟩
  · cases h; exact ⟨rfl, _, Go.Proofs.Tryz.func123, ok_unify_Subst_within⟩
  · cases h; exact ⟨rfl, _, Go.Proofs.Tryz.func124, ok_types_App⟩
  · cases h; exact ⟨rfl, _, Go.Proofs.Tryz.func125, ok_unify_Subst_great⟩
  · cases h; exact ⟨rfl, _, Go.Proofs.Tryz.func132, ok_types_Free⟩
  · cases h; exact ⟨rfl, _, Go.Proofs.Tryz.func133, ok_slices_Contains_string⟩
  · cases h; exact ⟨rfl, _, Go.Proofs.Tryz.func135, ok_slices_DeleteFunc_string⟩
  · cases h; exact ⟨rfl, _, Go.Proofs.Tryz.func136, ok_scheme_others_1⟩
  · cases h; exact ⟨rfl, _, Go.Proofs.Tryz.func137, ok_scheme_lettered_letters_1⟩
  · cases h; exact ⟨rfl, _, Go.Proofs.Tryz.func138, ok_chars_Letters⟩
  · cases h; exact ⟨rfl, _, Go.Proofs.Tryz.func139, ok_slices_stableCmpFunc_Pred⟩
  · cases h; exact ⟨rfl, _, Go.Proofs.Tryz.func142, ok_types_parts⟩
  · cases h; exact ⟨rfl, _, Go.Proofs.Tryz.func143, ok_types_boolean⟩
  · cases h; exact ⟨rfl, _, Go.Proofs.Tryz.func147, ok_slices_ContainsFunc_Type⟩
  · cases h; exact ⟨rfl, _, Go.Proofs.Tryz.func148, ok_unify_Subst_within_1⟩
  · cases h; exact ⟨rfl, _, Go.Proofs.Tryz.func149, ok_unify_Subst_size⟩
  · cases h; exact ⟨rfl, _, Go.Proofs.Tryz.func154, ok_slices_IndexFunc_string⟩
  · cases h; exact ⟨rfl, _, Go.Proofs.Tryz.func155, ok_slices_insertionSortCmpFunc_Pred⟩
  · cases h; exact ⟨rfl, _, Go.Proofs.Tryz.func161, ok_slices_IndexFunc_Type⟩
  · cases h
theorem none_sound {κ2 : Ctx} : CSound Go.Proofs.Tryz.prog κ2 (fun _ _ _ => none) := fun _ _ _ _ _ h => by cases h
def Ra : RecF := fun _ _ _ _ => none
theorem Ra_sound {κ2 : Ctx} : RSound Go.Proofs.Tryz.prog κ2 Ra := fun _ _ _ _ _ _ h => by cases h
def Xa : CallF := fun _ _ _ => none
theorem Xa_sound {κ2 : Ctx} : CSound Go.Proofs.Tryz.prog κ2 Xa := none_sound
noncomputable def livesA (n : Nat) (f : FuncId) : Bool := match runQ Γa Ra Xa n false f [] { objs := [], tys := [], oth := [], next := 0 } with
  | some (.ret ⟨false, .bool true⟩, _) => true
  | _ => false
end Go.Fu
