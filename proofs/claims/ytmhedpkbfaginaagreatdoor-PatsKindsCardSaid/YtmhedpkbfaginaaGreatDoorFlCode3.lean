/-
  The program's functions as the machine's code (printed by gen2.py).
-/
import Derived.Test.YtmhedpkbfaginaaGreatDoorFlCode2
set_option linter.unusedSimpArgs false
set_option linter.unusedVariables false
set_option linter.unusedSectionVars false
namespace Go.Fu
open Go Go.Mx
def a_266 : ACode := (.seq (.region [ mo 57 (.bin .lss (.tmp 56) (.tmp 55))] none []) (.seq (.cond (.tmp 57) .skip (.exit 0)) (.seq (.block 1 (.seq (.region [ mo 58 (.indexAddr 4 (.tmp 54) (.tmp 56)), mo 59 (.load (some 4) false (.tmp 58)),
 mo 13 (.alloc [.int .i64 0, .int .i64 0, .str [], .nils]), ⟨none, .store 4 (.tmp 13) (.mv 59), none⟩] none [57, 58, 59]) (.region [ mt 60 11, mt 61 0, mo 62 (.load (some 4) false (.tmp 13)), mt 63 2, mo 64 (.call n_162 [.tmp 61, .tmp 62, .tmp 63]), mo 65 (.bin .add (.tmp 60) (.tmp 64)),
 mo 66 (.mm false (.tmp 65) (.const (.int .i64 501))), mw 11 66] none [13, 60, 61, 62, 63, 64, 65, 66]))) (.region [ mo 67 (.bin .add (.tmp 56) (.const (.int .i64 1))), mw 56 67] none [67]))))
def a_215 : AFun := { nargs := 3, ntmps := 69, res := [.tmp 6], gc := false, body := (.seq (.region [ mo 4 (.box (.tmp 1)), mo 6 (.mov (.const (.int .i64 0)))] none [1, 6]) (.seq (.seq (.region [ mo 7 (.allocN 7 [.int .i64 0, .int .i64 0, .str [], .nils]), mt 15 0,
 mo 16 (.nilCheck (.tmp 15)), mo 17 (.fieldAddr 1 none (.tmp 16)), mo 18 (.loadP none (.tmp 17)), mo 19 (.fieldAddr 1 none (.tmp 4)), mo 20 (.loadB 4 none (.tmp 19)), mo 21 (.lookup false (.agg [.int .i64 0, .int .i64 0, .str [], .nils]) true (.tmp 18) (.tmp 20)), mw 14 21,
 mo 22 (.extract (.tmp 14) 0), mo 23 (.extract (.tmp 14) 1), ⟨none, .storeB 7 4 (.tmp 7) (.mv 22), none⟩, mw 8 23] (some [10, 0, 1, 2, 3, 4, 5, 6, 7, 8, 9, 11, 12]) [14, 15, 16, 17, 18, 19, 20, 21, 22, 23]) (.seq (.region [ mt 24 8, mw 25 24, ⟨some 26, .fieldAddr 0 none (.tmp 4), (some (25, true))⟩,
 ⟨some 27, .load none false (.tmp 26), (some (25, true))⟩, ⟨some 28, .bin .eql (.tmp 27) (.const (.int .i64 1)), (some (25, true))⟩, mo 29 (.pick (.tmp 25) (.tmp 28) (.const (.bool false)))] none [8, 24, 25, 26, 27, 28]) (.cond (.tmp 29) (.seq (.seq (.region [ mt 31 2,
 mo 32 (.fieldAddr 1 none (.tmp 4)), mo 33 (.load none false (.tmp 32)), mo 34 (.lookup false (.int .i64 0) true (.tmp 31) (.tmp 33)), mw 30 34, mo 35 (.extract (.tmp 30) 0), mo 36 (.extract (.tmp 30) 1), mw 9 35, mw 10 36] none [9, 29, 30, 31, 32, 33, 34, 35, 36]) (.seq (.region [ mt 37 10,
 mo 38 (.un .not (.tmp 37))] none [10, 37]) (.cond (.tmp 38) (.region [ mt 39 2, mo 40 (.fieldAddr 1 none (.tmp 4)), mo 41 (.loadB 4 none (.tmp 40)), mt 42 0, mo 43 (.loadB 7 (some 4) (.tmp 7)), mt 44 2, mo 45 (.call n_162 [.tmp 42, .tmp 43, .tmp 44]),
 ⟨none, .update false (.tmp 39) (.tmp 41) (.tmp 45), none⟩] (some [0, 1, 2, 3, 4, 5, 6, 7]) [0, 7, 38, 39, 40, 41, 42, 43, 44, 45]) .skip))) (.seq (.region [ mw 46 2, mo 47 (.fieldAddr 1 none (.tmp 4)), mo 48 (.load none false (.tmp 47)), mo 49 (.lookup false (.int .i64 0) false (.tmp 46) (.tmp 48)),
 mw 6 49] none [0, 2, 4, 7, 38, 46, 47, 48, 49]) .ret)) .skip))) (.seq (.region [ mo 11 (.mov (.const (.int .i64 1)))] none [7, 29]) (.seq (.seq (.region [ mo 50 (.fieldAddr 0 none (.tmp 4)), mo 51 (.load none false (.tmp 50)), mo 52 (.bin .eql (.tmp 51) (.const (.int .i64 4)))] none [50, 51])
 (.cond (.tmp 52) (.region [ mo 11 (.mov (.const (.int .i64 0)))] none [52]) .skip)) (.seq (.seq (.region [ mo 53 (.fieldAddr 3 none (.tmp 4)), mo 54 (.load none false (.tmp 53)), mo 55 (.len (.tmp 54)), mo 56 (.mov (.const (.int .i64 0)))] none [4, 52, 53]) (.block 0 (.loop a_266)))
 (.seq (.region [ mw 68 11, mw 6 68] none [0, 2, 11, 54, 55, 56, 57, 68]) .ret)))))) }
def a_101 : AFun := { nargs := 1, ntmps := 9, res := [.tmp 2], gc := false, body := (.seq (.region [ mo 2 (.mov (.const (.nilmap)))] none [2]) (.seq (.seq (.region [ mt 3 0, mo 4 (.isNilM .eql (.tmp 3))] none [3]) (.cond (.tmp 4) (.seq (.region [
 mo 2 (.mov (.const (.nilmap)))] none [0, 4]) .ret) .skip)) (.seq (.region [ mw 5 0, mo 6 (.mkIface t_233 (.tmp 5)), mo 7 (.cloneM (.tmp 6)), mo 8 (.assertP t_233 (.tmp 7)), mw 2 8] none [0, 4, 5, 6, 7, 8]) .ret))) }
def a_68 : ACode := (.seq (.region [ mo 43 (.bin .lss (.tmp 42) (.tmp 41))] none []) (.seq (.cond (.tmp 43) .skip (.exit 1)) (.seq (.block 2 (.seq (.region [ mt 44 42, mw 7 44] none [43, 44]) (.seq (.region [ mt 45 0, mo 46 (.fieldAddr 2 none (.tmp 4)),
 mo 47 (.loadB 4 none (.tmp 46)), mt 48 7, mo 49 (.indexAddr 3 (.tmp 47) (.tmp 48)), mo 50 (.loadE (some 3) (.tmp 49)), mo 51 (.fieldAddr 2 none (.tmp 5)), mo 52 (.loadB 5 none (.tmp 51)), mt 53 7, mo 54 (.indexAddr 3 (.tmp 52) (.tmp 53)), mo 55 (.loadE (some 3) (.tmp 54)),
 mo 56 (.call n_31 [.tmp 45, .tmp 50, .tmp 55]), mw 8 56] (some [0, 1, 2, 3, 4, 5, 6, 7, 8, 9, 10, 11, 12]) [7, 45, 46, 47, 48, 49, 50, 51, 52, 53, 54, 55, 56]) (.seq (.region [ mt 57 8, mo 58 (.bin .neq (.tmp 57) (.const (.int .i64 0)))] none [57]) (.cond (.tmp 58) (.seq (.region [
 mw 59 8, mw 6 59] none [0, 4, 5, 8, 41, 42, 58, 59]) .ret) .skip))))) (.region [ mo 60 (.bin .add (.tmp 42) (.const (.int .i64 1))), mw 42 60] none [8, 58, 60]))))
def a_20 : AFun := { nargs := 3, ntmps := 61, res := [.tmp 6], gc := false, body := (.seq (.region [ mo 4 (.box (.tmp 1)), mo 5 (.box (.tmp 2)), mo 6 (.mov (.const (.int .i64 0)))] none [1, 2, 6]) (.seq (.region [ mt 9 0, mo 10 (.loadB 4 (some 3) (.tmp 4)), mt 12 0,
 mo 13 (.loadB 5 (some 3) (.tmp 5)), mo 11 (.call n_14 [.tmp 9, .tmp 10]), mo 14 (.call n_14 [.tmp 12, .tmp 13]), ⟨none, .storeB 4 3 (.tmp 4) (.mv 11), none⟩, ⟨none, .storeB 5 3 (.tmp 5) (.mv 14), none⟩] (some [0, 1, 3, 4, 2, 5, 6, 7]) [9, 10, 11, 12, 13, 14]) (.seq
 (.block 0 (.seq (.region [ mo 16 (.fieldAddr 0 none (.tmp 4)), mo 17 (.load none false (.tmp 16)), mo 18 (.bin .eql (.tmp 17) (.const (.int .i64 1))), mw 15 18] none [16, 17, 18]) (.cond (.tmp 15) (.seq (.region [ mw 19 0, mo 20 (.fieldAddr 1 none (.tmp 4)), mo 21 (.load none false (.tmp 20)),
 mo 22 (.load (some 3) false (.tmp 5)), mo 23 (.call n_132 [.tmp 19, .tmp 21, .tmp 22]), mw 6 23] none [0, 4, 5, 15, 19, 20, 21, 22, 23]) .ret) (.seq (.region [ mo 25 (.fieldAddr 0 none (.tmp 5)), mo 26 (.load none false (.tmp 25)), mo 27 (.bin .eql (.tmp 26) (.const (.int .i64 1))),
 mw 24 27] none [15, 25, 26, 27]) (.cond (.tmp 24) (.seq (.region [ mw 28 0, mo 29 (.fieldAddr 1 none (.tmp 5)), mo 30 (.load none false (.tmp 29)), mo 31 (.load (some 3) false (.tmp 4)), mo 32 (.call n_132 [.tmp 28, .tmp 30, .tmp 31]), mw 6 32] none [0, 4, 5, 24, 28, 29, 30, 31, 32])
 .ret) (.seq (.region [ mo 34 (.fieldAddr 0 none (.tmp 4)), mo 35 (.load none false (.tmp 34)), mo 36 (.fieldAddr 0 none (.tmp 5)), mo 37 (.load none false (.tmp 36)), mo 38 (.bin .neq (.tmp 35) (.tmp 37)), mw 33 38] none [24, 34, 35, 36, 37, 38]) (.cond (.tmp 33) (.seq (.region [
 mo 6 (.mov (.const (.int .i64 30)))] none [0, 4, 5, 33]) .ret) .skip))))))) (.seq (.seq (.region [ mo 39 (.fieldAddr 2 none (.tmp 4)), mo 40 (.load none false (.tmp 39)), mo 41 (.len (.tmp 40)), mo 42 (.mov (.const (.int .i64 0)))] none [33, 39, 40]) (.block 1 (.loop a_68))) (.seq
 (.region [ mo 6 (.mov (.const (.int .i64 0)))] none [0, 4, 5, 41, 42, 43]) .ret))))) }
def a_254 : ACode := (.seq (.region [ mo 9 (.bin .lss (.tmp 8) (.tmp 7))] none []) (.seq (.cond (.tmp 9) .skip (.exit 0)) (.seq (.block 1 (.seq (.region [ mt 10 8, mw 5 10] none [9, 10]) (.seq (.region [ mt 11 1, mt 12 0, mt 13 5, mo 14 (.indexAddr 1 (.tmp 12) (.tmp 13)),
 mo 15 (.load none false (.tmp 14)), mo 16 (.callv (.tmp 11) [.tmp 15])] none [11, 12, 13, 14, 15]) (.cond (.tmp 16) (.seq (.region [ mw 17 5, mw 4 17] none [0, 1, 5, 7, 8, 16, 17]) .ret) .skip)))) (.region [ mo 18 (.bin .add (.tmp 8) (.const (.int .i64 1))), mw 8 18] none [5, 16, 18]))))
def a_195 : AFun := { nargs := 2, ntmps := 19, res := [.tmp 4], gc := false, body := (.seq (.region [ mo 4 (.mov (.const (.int .i64 0)))] none [4]) (.seq (.seq (.region [ mt 6 0, mo 7 (.len (.tmp 6)), mo 8 (.mov (.const (.int .i64 0)))] none [6]) (.block 0
 (.loop a_254))) (.seq (.region [ mo 4 (.mov (.const (.int .i64 (-1))))] none [0, 1, 7, 8, 9]) .ret))) }
def a_256 : ACode := (.seq (.seq (.region [ mt 18 9, mt 19 1, mo 20 (.bin .gtr (.tmp 18) (.tmp 19)), mw 21 20, ⟨some 22, .mov (.tmp 3), (some (21, true))⟩, ⟨some 23, .mov (.tmp 0), (some (21, true))⟩, ⟨some 24, .mov (.tmp 9), (some (21, true))⟩,
 ⟨some 25, .indexAddr 5 (.tmp 23) (.tmp 24), (some (21, true))⟩, ⟨some 26, .loadG (some 5) (.tmp 25), (some (21, true))⟩, ⟨some 27, .mov (.tmp 0), (some (21, true))⟩, ⟨some 28, .mov (.tmp 9), (some (21, true))⟩, ⟨some 29, .bin .sub (.tmp 28) (.const (.int .i64 1)), (some (21, true))⟩,
 ⟨some 30, .indexAddr 5 (.tmp 27) (.tmp 29), (some (21, true))⟩, ⟨some 31, .loadG (some 5) (.tmp 30), (some (21, true))⟩, ⟨some 32, .callv (.tmp 22) [.tmp 26, .tmp 31], (some (21, true))⟩, ⟨some 33, .bin .lss (.tmp 32) (.const (.int .i64 0)), (some (21, true))⟩,
 mo 34 (.pick (.tmp 21) (.tmp 33) (.const (.bool false)))] (some [0, 1, 2, 3, 4, 5, 6, 7, 8, 9, 10, 11, 12, 13, 14, 15, 16]) [18, 19, 20, 21, 22, 23, 24, 25, 26, 27, 28, 29, 30, 31, 32, 33]) (.cond (.tmp 34) .skip (.exit 2))) (.seq (.block 3 (.region [ mt 37 0, mt 38 9, mt 39 0, mt 40 9,
 mo 41 (.bin .sub (.tmp 40) (.const (.int .i64 1))), mt 42 0, mt 43 9, mo 44 (.bin .sub (.tmp 43) (.const (.int .i64 1))), mo 45 (.indexAddr 5 (.tmp 42) (.tmp 44)), mo 46 (.loadG (some 5) (.tmp 45)), mt 47 0, mt 48 9, mo 49 (.indexAddr 5 (.tmp 47) (.tmp 48)), mo 50 (.loadG (some 5) (.tmp 49)),
 mo 51 (.indexAddr 5 (.tmp 37) (.tmp 38)), ⟨none, .storeP 5 (.tmp 51) (.tmp 46), none⟩, mo 52 (.indexAddr 5 (.tmp 39) (.tmp 41)),
 ⟨none, .storeP 5 (.tmp 52) (.tmp 50), none⟩] (some [0, 1, 2, 3, 4, 5, 6, 7, 8, 9, 10, 11, 12, 13, 14, 15, 16, 17]) [34, 37, 38, 39, 40, 41, 42, 43, 44, 45, 46, 47, 48, 49, 50, 51, 52])) (.region [ mt 35 9, mo 36 (.bin .sub (.tmp 35) (.const (.int .i64 1))), mw 9 36] none [35, 36])))
def a_257 : ACode := (.seq (.seq (.region [ mt 12 8, mt 13 2, mo 14 (.bin .lss (.tmp 12) (.tmp 13))] none [12, 13]) (.cond (.tmp 14) .skip (.exit 0))) (.seq (.block 1 (.seq (.region [ mt 17 8, mw 9 17] none [14, 17]) (.block 2
 (.loop a_256)))) (.region [ mt 15 8, mo 16 (.bin .add (.tmp 15) (.const (.int .i64 1))), mw 8 16] none [9, 15, 16, 34])))
def a_198 : AFun := { nargs := 4, ntmps := 53, res := [], gc := false, body := (.seq (.region [ mt 10 1, mo 11 (.bin .add (.tmp 10) (.const (.int .i64 1))), mw 8 11] none [10, 11]) (.block 0 (.loop a_257))) }
def a_253 : ACode := (.seq (.region [ mo 9 (.bin .lss (.tmp 8) (.tmp 7))] none []) (.seq (.cond (.tmp 9) .skip (.exit 0)) (.seq (.block 1 (.seq (.region [ mt 10 8, mw 5 10] none [9, 10]) (.seq (.region [ mt 11 1, mt 12 0, mt 13 5, mo 14 (.indexAddr 4 (.tmp 12) (.tmp 13)),
 mo 15 (.load (some 4) false (.tmp 14)), mo 16 (.callv (.tmp 11) [.tmp 15])] none [11, 12, 13, 14, 15]) (.cond (.tmp 16) (.seq (.region [ mw 17 5, mw 4 17] none [0, 1, 5, 7, 8, 16, 17]) .ret) .skip)))) (.region [ mo 18 (.bin .add (.tmp 8) (.const (.int .i64 1))), mw 8 18] none [5, 16, 18]))))
def a_194 : AFun := { nargs := 2, ntmps := 19, res := [.tmp 4], gc := false, body := (.seq (.region [ mo 4 (.mov (.const (.int .i64 0)))] none [4]) (.seq (.seq (.region [ mt 6 0, mo 7 (.len (.tmp 6)), mo 8 (.mov (.const (.int .i64 0)))] none [6]) (.block 0
 (.loop a_253))) (.seq (.region [ mo 4 (.mov (.const (.int .i64 (-1))))] none [0, 1, 7, 8, 9]) .ret))) }
def a_97 : AFun := { nargs := 3, ntmps := 40, res := [.tmp 6], gc := false, body := (.seq (.region [ mo 5 (.box (.tmp 2)), mo 6 (.mov (.const (.int .i64 0)))] none [2, 6]) (.seq (.seq (.region [ mo 7 (.fieldAddr 0 none (.tmp 5)), mo 8 (.load none false (.tmp 7)),
 mo 9 (.bin .eql (.tmp 8) (.const (.int .i64 1))), mw 10 9, ⟨some 11, .fieldAddr 1 none (.tmp 5), (some (10, true))⟩, ⟨some 12, .load none false (.tmp 11), (some (10, true))⟩, ⟨some 13, .mov (.tmp 1), (some (10, true))⟩, ⟨some 14, .bin .eql (.tmp 12) (.tmp 13), (some (10, true))⟩,
 mo 15 (.pick (.tmp 10) (.tmp 14) (.const (.bool false)))] none [7, 8, 9, 10, 11, 12, 13, 14]) (.cond (.tmp 15) (.seq (.region [ mo 6 (.mov (.const (.int .i64 0)))] none [0, 1, 5, 15]) .ret) .skip)) (.seq (.seq (.region [ mo 16 (.fieldAddr 0 none (.tmp 5)), mo 17 (.load none false (.tmp 16)),
 mo 18 (.bin .eql (.tmp 17) (.const (.int .i64 1))), mw 19 18, ⟨some 20, .fieldAddr 1 none (.tmp 5), (some (19, true))⟩, ⟨some 21, .load none false (.tmp 20), (some (19, true))⟩, ⟨some 22, .mov (.tmp 1), (some (19, true))⟩, ⟨some 23, .bin .gtr (.tmp 21) (.tmp 22), (some (19, true))⟩,
 mo 24 (.pick (.tmp 19) (.tmp 23) (.const (.bool false)))] none [15, 16, 17, 18, 19, 20, 21, 22, 23]) (.cond (.tmp 24) (.region [ mo 25 (.fieldAddr 1 none (.tmp 5)), mo 26 (.load none false (.tmp 25)), mt 27 1,
 mo 28 (.build [.int .i64 0, .int .i64 0, .nils] [(0, 1, (.const (.int .i64 1))), (1, 1, (.tmp 27))]), mw 1 26, ⟨none, .store 3 (.tmp 5) (.mv 28), none⟩] none [24, 25, 26, 27, 28]) .skip)) (.seq (.seq (.region [ mt 29 0, mt 30 1, mo 31 (.load (some 3) false (.tmp 5)),
 mo 32 (.call n_133 [.tmp 29, .tmp 30, .tmp 31])] none [24, 29, 30, 31]) (.cond (.tmp 32) (.seq (.region [ mo 6 (.mov (.const (.int .i64 32)))] none [0, 1, 5, 32]) .ret) .skip)) (.seq (.region [ mt 33 0, mo 34 (.nilCheck (.tmp 33)), mo 35 (.fieldAddr 1 none (.tmp 34)),
 mo 36 (.loadP none (.tmp 35)), mt 37 1, mo 38 (.loadB 5 (some 3) (.tmp 5)), mo 39 (.callW [35] n_9 [.tmp 38]), ⟨none, .update false (.tmp 36) (.tmp 37) (.tmp 39), none⟩] (some [0, 1, 2, 3, 4, 5, 6, 7]) [0, 1, 5, 32, 33, 34, 35, 36, 37, 38, 39]) (.seq (.region [
 mo 6 (.mov (.const (.int .i64 0)))] none []) .ret)))))) }
def a_98 : AFun := { nargs := 3, ntmps := 21, res := [.tmp 6], gc := false, body := (.seq (.region [ mo 3 (.gbox t_81 (.tmp 0)), mo 4 (.gbox t_int (.tmp 1)), mo 5 (.box (.tmp 2)), mo 6 (.mov (.const (.bool false)))] none [0, 1, 2, 6]) (.seq (.region [
 mo 7 (.load none false (.tmp 3)), mo 8 (.load (some 3) false (.tmp 5)), mo 9 (.call n_14 [.tmp 7, .tmp 8]), ⟨none, .store 3 (.tmp 5) (.mv 9), none⟩] none [7, 8, 9]) (.seq (.seq (.region [ mo 10 (.fieldAddr 0 none (.tmp 5)), mo 11 (.load none false (.tmp 10)),
 mo 12 (.bin .eql (.tmp 11) (.const (.int .i64 1)))] none [10, 11]) (.cond (.tmp 12) (.seq (.region [ mo 13 (.fieldAddr 1 none (.tmp 5)), mo 14 (.load none false (.tmp 13)), mo 15 (.load none false (.tmp 4)), mo 16 (.bin .eql (.tmp 14) (.tmp 15)), mw 6 16] none [3, 4, 5, 12, 13, 14, 15, 16]) .ret)
 .skip)) (.seq (.region [ mo 17 (.fieldAddr 2 none (.tmp 5)), mo 18 (.load none false (.tmp 17)), mo 19 (.mkFunc (.func n_134) [] [.tmp 3, .tmp 4]), mo 20 (.call n_158 [.tmp 18, .tmp 19]), mw 6 20] none [3, 4, 5, 12, 17, 18, 19, 20]) .ret)))) }
def a_236 : ACode := (.seq (.region [ mo 15 (.bin .lss (.tmp 14) (.tmp 13))] none []) (.seq (.cond (.tmp 15) .skip (.exit 0)) (.seq (.block 1 (.seq (.region [ mo 16 (.indexAddr 3 (.tmp 12) (.tmp 14)), mo 17 (.load (some 3) false (.tmp 16)), mo 5 (.alloc [.int .i64 0, .int .i64 0, .nils]),
 ⟨none, .store 3 (.tmp 5) (.mv 17), none⟩] none [15, 16, 17]) (.region [ mo 18 (.fieldAddr 2 none (.tmp 3)), mo 19 (.loadL none true (.tmp 18)), mo 20 (.loadB 5 (some 3) (.tmp 5)), mo 21 (.call n_9 [.tmp 20]), mo 22 (.buildSlice k_3 [.tmp 21]),
 mo 23 (.append k_3 40 (.mv 19) (.tmp 22)), mo 24 (.fieldAddr 2 none (.tmp 3)), ⟨none, .storeB 3 1 (.tmp 24) (.mv 23), none⟩] (some [0, 1, 2, 3, 4, 5, 6, 7]) [5, 18, 19, 20, 21, 22, 23, 24]))) (.region [ mo 25 (.bin .add (.tmp 14) (.const (.int .i64 1))), mw 14 25] none [25]))))
def a_168 : AFun := { nargs := 1, ntmps := 27, res := [.cell 2 (some 3)], gc := false, body := (.seq (.region [ mo 1 (.box (.tmp 0)), mo 2 (.alloc [.int .i64 0, .int .i64 0, .nils])] none [0]) (.seq (.region [ mo 6 (.fieldAddr 0 none (.tmp 1)), mo 7 (.load none false (.tmp 6)),
 mo 8 (.fieldAddr 1 none (.tmp 1)), mo 9 (.load none false (.tmp 8)), mo 10 (.build [.int .i64 0, .int .i64 0, .nils] [(0, 1, (.tmp 7)), (1, 1, (.tmp 9))]), mo 3 (.alloc [.int .i64 0, .int .i64 0, .nils]), ⟨none, .store 3 (.tmp 3) (.mv 10), none⟩] none [6, 7, 8, 9, 10]) (.seq (.seq (.region [
 mo 11 (.fieldAddr 2 none (.tmp 1)), mo 12 (.load none false (.tmp 11)), mo 13 (.len (.tmp 12)), mo 14 (.mov (.const (.int .i64 0)))] none [1, 11]) (.block 0 (.loop a_236))) (.seq (.region [ mo 26 (.load (some 3) true (.tmp 3)),
 ⟨none, .store 3 (.tmp 2) (.mv 26), none⟩] none [3, 12, 13, 14, 15, 26]) .ret)))) }
def a_114 : AFun := { nargs := 2, ntmps := 9, res := [.tmp 4], gc := false, body := (.seq (.region [ mo 4 (.mov (.const (.bool false)))] none [4]) (.seq (.region [ mw 5 0, mw 6 1, mo 7 (.call n_159 [.tmp 5, .tmp 6]),
 mo 8 (.bin .geq (.tmp 7) (.const (.int .i64 0))), mw 4 8] none [0, 1, 5, 6, 7, 8]) .ret)) }
def a_99 : AFun := { nargs := 3, ntmps := 9, res := [.tmp 4], gc := false, body := (.seq (.region [ mo 3 (.box (.tmp 0)), mo 4 (.mov (.const (.bool false)))] none [0, 4]) (.seq (.region [ mo 5 (.load none false (.tmp 1)), mo 6 (.load none false (.tmp 2)),
 mo 7 (.load (some 3) false (.tmp 3)), mo 8 (.call n_133 [.tmp 5, .tmp 6, .tmp 7]), mw 4 8] none [1, 2, 3, 5, 6, 7, 8]) .ret)) }
def a_55 : ACode := (.seq (.region [ mo 9 (.bin .lss (.tmp 8) (.tmp 7))] none []) (.seq (.cond (.tmp 9) .skip (.exit 0)) (.seq (.block 1 (.seq (.region [ mt 10 8, mw 5 10] none [9, 10]) (.seq (.region [ mt 11 1, mt 12 0, mt 13 5, mo 14 (.indexAddr 3 (.tmp 12) (.tmp 13)),
 mo 15 (.load (some 3) false (.tmp 14)), mo 16 (.callv (.tmp 11) [.tmp 15])] none [11, 12, 13, 14, 15]) (.cond (.tmp 16) (.seq (.region [ mw 17 5, mw 4 17] none [0, 1, 5, 7, 8, 16, 17]) .ret) .skip)))) (.region [ mo 18 (.bin .add (.tmp 8) (.const (.int .i64 1))), mw 8 18] none [5, 16, 18]))))
def a_116 : AFun := { nargs := 2, ntmps := 19, res := [.tmp 4], gc := false, body := (.seq (.region [ mo 4 (.mov (.const (.int .i64 0)))] none [4]) (.seq (.seq (.region [ mt 6 0, mo 7 (.len (.tmp 6)), mo 8 (.mov (.const (.int .i64 0)))] none [6]) (.block 0
 (.loop a_55))) (.seq (.region [ mo 4 (.mov (.const (.int .i64 (-1))))] none [0, 1, 7, 8, 9]) .ret))) }
def a_zbo_l0 : ACode :=
  (.seq
   (.seq
    (.region [
      ⟨(some 7), .mov (.tmp 3), none⟩,
      ⟨(some 8), .bin .geq (.tmp 7) (.const (.int .i64 0)), none⟩] none [7])
    (.cond (.tmp 8)
     .skip
     (.exit 0)))
   (.seq
    (.block 1
     (.seq
      (.region [
        ⟨(some 11), .mov (.tmp 0), none⟩,
        ⟨(some 12), .mov (.tmp 3), none⟩,
        ⟨(some 13), .load none false (.tmp 1), none⟩,
        ⟨(some 14), .mov (.tmp 3), none⟩,
        ⟨(some 15), .indexAddr 3 (.tmp 13) (.tmp 14), none⟩,
        ⟨(some 16), .load (some 3) false (.tmp 15), none⟩,
        ⟨(some 17), .callv (.tmp 11) [(.tmp 12), (.tmp 16)], none⟩,
        ⟨(some 18), .un .not (.tmp 17), none⟩] none [8, 11, 12, 13, 14, 15, 16, 17])
      (.cond (.tmp 18)
       .ret
       .skip)))
    (.region [
      ⟨(some 9), .mov (.tmp 3), none⟩,
      ⟨(some 10), .bin .sub (.tmp 9) (.const (.int .i64 1)), none⟩,
      ⟨(some 3), .mov (.mv 10), none⟩] none [9, 10, 18])))
def a_zbo : AFun :=
  { nargs := 2, ntmps := 19, res := [], gc := false, body :=
  (.seq
   (.region [
     ⟨(some 4), .load none false (.tmp 1), none⟩,
     ⟨(some 5), .len (.tmp 4), none⟩,
     ⟨(some 6), .bin .sub (.tmp 5) (.const (.int .i64 1)), none⟩,
     ⟨(some 3), .mov (.mv 6), none⟩] none [4, 5, 6])
   (.block 0
    (.loop a_zbo_l0))) }
def a_zb : AFun :=
  { nargs := 1, ntmps := 4, res := [.tmp 2], gc := false, body :=
  (.seq
   (.region [
     ⟨(some 1), .gbox 138 (.tmp 0), none⟩,
     ⟨(some 2), .mov (.const (.nilfn)), none⟩] none [0, 2])
   (.seq
    (.region [
      ⟨(some 3), .mkFunc (.func 151) [] [(.tmp 1)], none⟩,
      ⟨(some 2), .mov (.mv 3), none⟩] none [1, 3])
    .ret)) }
def a_zs : AFun :=
  { nargs := 0, ntmps := 3, res := [.cell 0 (some 3)], gc := false, body :=
  (.seq
   (.region [
     ⟨(some 0), .alloc [.int .i64 0, .int .i64 0, .nils], none⟩] none [])
   (.seq
    (.region [
      ⟨(some 1), .call 33 [], none⟩,
      ⟨(some 2), .call 95 [(.tmp 1)], none⟩,
      ⟨none, .store 3 (.tmp 0) (.mv 2), none⟩] none [1, 2])
    .ret)) }
def a_zc_r0 : ACode :=
  (.block 1
   (.region [
     ⟨(some 11), .load (some 3) false (.tmp 5), none⟩,
     ⟨(some 12), .load (some 3) false (.tmp 3), none⟩,
     ⟨(some 13), .call 102 [(.tmp 11), (.tmp 12)], none⟩,
     ⟨none, .store 3 (.tmp 3) (.mv 13), none⟩] none [3, 5, 11, 12, 13]))
def a_zc : AFun :=
  { nargs := 1, ntmps := 15, res := [.cell 2 (some 3)], gc := false, body :=
  (.seq
   (.region [
     ⟨(some 2), .alloc [.int .i64 0, .int .i64 0, .nils], none⟩] none [])
   (.seq
    (.region [
      ⟨(some 6), .call 127 [], none⟩,
      ⟨(some 3), .galloc 140 [.int .i64 0, .int .i64 0, .nils], none⟩,
      ⟨none, .store 3 (.tmp 3) (.mv 6), none⟩] none [6])
    (.seq
     (.seq
      (.region [
        ⟨(some 7), .mov (.tmp 0), none⟩,
        ⟨(some 8), .call 128 [(.tmp 7)], none⟩] none [0, 7])
      (.block 0
       (.rangeF (.tmp 8) [9, 10]
  (.region [
    ⟨(some 5), .alloc [.int .i64 0, .int .i64 0, .nils], none⟩,
    ⟨none, .store 3 (.tmp 5) (.tmp 10), none⟩] none [2, 8, 9, 10])
        a_zc_r0)))
     (.seq
      (.region [
        ⟨(some 14), .load (some 3) true (.tmp 3), none⟩,
        ⟨none, .store 3 (.tmp 2) (.mv 14), none⟩] none [3, 8, 14])
      .ret)))) }
end Go.Fu
