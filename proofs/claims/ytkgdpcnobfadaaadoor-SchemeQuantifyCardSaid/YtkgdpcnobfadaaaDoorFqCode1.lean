/-
  The program's functions as the machine's code (printed by gen2.py).
-/
import Derived.Test.YtkgdpcnobfadaaaDoorFqCode0
set_option linter.unusedSimpArgs false
set_option linter.unusedVariables false
namespace Go.Fu
open Go Go.Mx
/-- fugue/fugueref12.typ -/
def a_r12_typ : AFun :=
  { nargs := 2, ntmps := 114, res := [.cell 4 (some 4), .tmp 5], gc := false, body :=
  (.seq
  (.region [
  ⟨(some 4), .alloc [.int .i64 0, .int .i64 0, .str [], .nils], none⟩,
  ⟨(some 5), .mov (.const (.nils)), none⟩] none [5])
  (.seq
  (.region [
  ⟨(some 17), .mov (.tmp 0), none⟩,
  ⟨(some 18), .call n_r12_pick [(.tmp 17), (.const (.int .i64 0))], none⟩,
  ⟨(some 6), .mov (.mv 18), none⟩] none [17, 18])
  (.seq
  (.seq
  (.region [
  ⟨(some 19), .mov (.tmp 0), none⟩,
  ⟨(some 20), .len (.tmp 19), none⟩,
  ⟨(some 21), .bin .gtr (.tmp 20) (.const (.int .i64 0)), none⟩] none [19, 20])
  (.cond (.tmp 21)
  (.region [
  ⟨(some 22), .mov (.tmp 0), none⟩,
  ⟨(some 23), .slice 1 (.tmp 22) (some (.const (.int .i64 1))) none, none⟩,
  ⟨(some 0), .mov (.mv 23), none⟩] none [21, 22, 23])
  .skip))
  (.seq
  (.region [
  ⟨(some 24), .mov (.tmp 6), none⟩,
  ⟨(some 25), .bin .rem (.tmp 24) (.const (.int .i64 9)), none⟩,
  ⟨(some 7), .mov (.mv 25), none⟩] none [21, 24, 25])
  (.seq
  (.seq
  (.region [
  ⟨(some 26), .mov (.tmp 1), none⟩,
  ⟨(some 27), .bin .gtr (.tmp 26) (.const (.int .i64 3)), none⟩] none [26])
  (.cond (.tmp 27)
  (.region [
  ⟨(some 28), .mov (.tmp 6), none⟩,
  ⟨(some 29), .bin .rem (.tmp 28) (.const (.int .i64 4)), none⟩,
  ⟨(some 7), .mov (.mv 29), none⟩] none [27, 28, 29])
  .skip))
  (.seq
  (.region [
  ⟨(some 30), .build [.int .i64 0, .int .i64 0, .str [], .nils] [(0, 1, (.const (.int .i64 3))), (2, 1, (.const (.str [73, 110, 116])))], none⟩,
  ⟨(some 8), .alloc [.int .i64 0, .int .i64 0, .str [], .nils], none⟩,
  ⟨none, .store 4 (.tmp 8) (.mv 30), none⟩] none [27, 30])
  (.seq
  (.seq
  (.region [
  ⟨(some 31), .mov (.tmp 7), none⟩] none [7])
  (.block 0
  (.seq
  (.seq
  (.region [
  ⟨(some 33), .bin .eql (.tmp 31) (.const (.int .i64 0)), none⟩,
  ⟨(some 32), .mov (.mv 33), none⟩] none [33])
  (.cond (.tmp 32)
  .skip
  (.region [
  ⟨(some 34), .bin .eql (.tmp 31) (.const (.int .i64 4)), none⟩,
  ⟨(some 32), .mov (.mv 34), none⟩] none [34])))
  (.cond (.tmp 32)
  (.seq
  (.region [
  ⟨(some 35), .mov (.mv 6), none⟩,
  ⟨(some 36), .bin .quo (.tmp 35) (.const (.int .i64 9)), none⟩,
  ⟨(some 37), .bin .rem (.tmp 36) (.const (.int .i64 3)), none⟩,
  ⟨(some 38), .call n_r04_Name [(.tmp 37)], none⟩,
  ⟨(some 39), .build [.int .i64 0, .int .i64 0, .str [], .nils] [(0, 1, (.const (.int .i64 2))), (2, 1, (.tmp 38))], none⟩,
  ⟨(some 40), .mov (.mv 0), none⟩,
  ⟨none, .store 4 (.tmp 4) (.mv 39), none⟩,
  ⟨(some 5), .mov (.mv 40), none⟩] none [0, 1, 6, 8, 31, 32, 35, 36, 37, 38, 39, 40])
  .ret)
  (.seq
  (.region [
  ⟨(some 42), .bin .eql (.tmp 31) (.const (.int .i64 1)), none⟩,
  ⟨(some 41), .mov (.mv 42), none⟩] none [32, 42])
  (.cond (.tmp 41)
  (.seq
  (.region [
  ⟨(some 43), .load (some 4) true (.tmp 8), none⟩,
  ⟨(some 44), .mov (.mv 0), none⟩,
  ⟨none, .store 4 (.tmp 4) (.mv 43), none⟩,
  ⟨(some 5), .mov (.mv 44), none⟩] none [0, 1, 6, 8, 31, 41, 43, 44])
  .ret)
  (.seq
  (.region [
  ⟨(some 46), .bin .eql (.tmp 31) (.const (.int .i64 2)), none⟩,
  ⟨(some 45), .mov (.mv 46), none⟩] none [41, 46])
  (.cond (.tmp 45)
  (.seq
  (.region [
  ⟨(some 47), .build [.int .i64 0, .int .i64 0, .str [], .nils] [(0, 1, (.const (.int .i64 3))), (2, 1, (.const (.str [66, 111, 111, 108])))], none⟩,
  ⟨(some 48), .mov (.mv 0), none⟩,
  ⟨none, .store 4 (.tmp 4) (.mv 47), none⟩,
  ⟨(some 5), .mov (.mv 48), none⟩] none [0, 1, 6, 8, 31, 45, 47, 48])
  .ret)
  (.seq
  (.region [
  ⟨(some 50), .bin .eql (.tmp 31) (.const (.int .i64 3)), none⟩,
  ⟨(some 49), .mov (.mv 50), none⟩] none [45, 50])
  (.cond (.tmp 49)
  (.seq
  (.region [
  ⟨(some 51), .mov (.mv 6), none⟩,
  ⟨(some 52), .bin .quo (.tmp 51) (.const (.int .i64 9)), none⟩,
  ⟨(some 53), .bin .rem (.tmp 52) (.const (.int .i64 2)), none⟩,
  ⟨(some 54), .bin .add (.const (.int .i64 1)) (.tmp 53), none⟩,
  ⟨(some 55), .build [.int .i64 0, .int .i64 0, .str [], .nils] [(0, 1, (.const (.int .i64 1))), (1, 1, (.tmp 54))], none⟩,
  ⟨(some 56), .mov (.mv 0), none⟩,
  ⟨none, .store 4 (.tmp 4) (.mv 55), none⟩,
  ⟨(some 5), .mov (.mv 56), none⟩] none [0, 1, 6, 8, 31, 49, 51, 52, 53, 54, 55, 56])
  .ret)
  (.seq
  (.seq
  (.region [
  ⟨(some 58), .bin .eql (.tmp 31) (.const (.int .i64 5)), none⟩,
  ⟨(some 57), .mov (.mv 58), none⟩] none [49, 58])
  (.cond (.tmp 57)
  .skip
  (.region [
  ⟨(some 59), .bin .eql (.tmp 31) (.const (.int .i64 6)), none⟩,
  ⟨(some 57), .mov (.mv 59), none⟩] none [59])))
  (.cond (.tmp 57)
  (.seq
  (.region [
  ⟨(some 61), .mov (.tmp 0), none⟩,
  ⟨(some 62), .mov (.tmp 1), none⟩,
  ⟨(some 63), .bin .add (.tmp 62) (.const (.int .i64 1)), none⟩,
  ⟨(some 64), .call n_r12_typ [(.tmp 61), (.tmp 63)], none⟩,
  ⟨(some 60), .mov (.mv 64), none⟩,
  ⟨(some 65), .extract (.tmp 60) 0, none⟩,
  ⟨(some 66), .extract (.tmp 60) 1, none⟩,
  ⟨(some 9), .alloc [.int .i64 0, .int .i64 0, .str [], .nils], none⟩,
  ⟨none, .store 4 (.tmp 9) (.mv 65), none⟩,
  ⟨(some 10), .mov (.mv 66), none⟩] none [0, 1, 6, 8, 31, 57, 60, 61, 62, 63, 64, 65, 66])
  (.seq
  (.region [
  ⟨(some 67), .build [.int .i64 0, .int .i64 0, .str [], .nils] [(0, 1, (.const (.int .i64 3))), (2, 1, (.const (.str [76])))], none⟩,
  ⟨(some 68), .load (some 4) false (.tmp 9), none⟩,
  ⟨(some 69), .buildSlice k_api_Type [(.tmp 67), (.tmp 68)], none⟩,
  ⟨(some 70), .build [.int .i64 0, .int .i64 0, .str [], .nils] [(0, 1, (.const (.int .i64 4))), (3, 1, (.tmp 69))], none⟩,
  ⟨(some 71), .mov (.mv 10), none⟩,
  ⟨none, .store 4 (.tmp 4) (.mv 70), none⟩,
  ⟨(some 5), .mov (.mv 71), none⟩] none [9, 10, 67, 68, 69, 70, 71])
  .ret))
  (.seq
  (.region [
  ⟨(some 73), .bin .eql (.tmp 31) (.const (.int .i64 7)), none⟩,
  ⟨(some 72), .mov (.mv 73), none⟩] none [31, 57, 73])
  (.cond (.tmp 72)
  (.seq
  (.region [
  ⟨(some 75), .mov (.tmp 0), none⟩,
  ⟨(some 76), .mov (.tmp 1), none⟩,
  ⟨(some 77), .bin .add (.tmp 76) (.const (.int .i64 1)), none⟩,
  ⟨(some 78), .call n_r12_typ [(.tmp 75), (.tmp 77)], none⟩,
  ⟨(some 74), .mov (.mv 78), none⟩,
  ⟨(some 79), .extract (.tmp 74) 0, none⟩,
  ⟨(some 80), .extract (.tmp 74) 1, none⟩,
  ⟨(some 11), .alloc [.int .i64 0, .int .i64 0, .str [], .nils], none⟩,
  ⟨none, .store 4 (.tmp 11) (.mv 79), none⟩,
  ⟨(some 12), .mov (.mv 80), none⟩] none [0, 6, 8, 72, 74, 75, 76, 77, 78, 79, 80])
  (.seq
  (.region [
  ⟨(some 82), .mov (.tmp 12), none⟩,
  ⟨(some 83), .mov (.tmp 1), none⟩,
  ⟨(some 84), .bin .add (.tmp 83) (.const (.int .i64 1)), none⟩,
  ⟨(some 85), .call n_r12_typ [(.tmp 82), (.tmp 84)], none⟩,
  ⟨(some 81), .mov (.mv 85), none⟩,
  ⟨(some 86), .extract (.tmp 81) 0, none⟩,
  ⟨(some 87), .extract (.tmp 81) 1, none⟩,
  ⟨(some 13), .alloc [.int .i64 0, .int .i64 0, .str [], .nils], none⟩,
  ⟨none, .store 4 (.tmp 13) (.mv 86), none⟩,
  ⟨(some 14), .mov (.mv 87), none⟩] none [1, 12, 81, 82, 83, 84, 85, 86, 87])
  (.seq
  (.region [
  ⟨(some 88), .build [.int .i64 0, .int .i64 0, .str [], .nils] [(0, 1, (.const (.int .i64 3))), (2, 1, (.const (.str [80])))], none⟩,
  ⟨(some 89), .load (some 4) false (.tmp 11), none⟩,
  ⟨(some 90), .buildSlice k_api_Type [(.tmp 88), (.tmp 89)], none⟩,
  ⟨(some 91), .build [.int .i64 0, .int .i64 0, .str [], .nils] [(0, 1, (.const (.int .i64 4))), (3, 1, (.tmp 90))], none⟩,
  ⟨(some 92), .load (some 4) false (.tmp 13), none⟩,
  ⟨(some 93), .buildSlice k_api_Type [(.tmp 91), (.tmp 92)], none⟩,
  ⟨(some 94), .build [.int .i64 0, .int .i64 0, .str [], .nils] [(0, 1, (.const (.int .i64 4))), (3, 1, (.tmp 93))], none⟩,
  ⟨(some 95), .mov (.mv 14), none⟩,
  ⟨none, .store 4 (.tmp 4) (.mv 94), none⟩,
  ⟨(some 5), .mov (.mv 95), none⟩] none [11, 13, 14, 88, 89, 90, 91, 92, 93, 94, 95])
  .ret)))
  .skip))))))))))))))
  (.seq
  (.region [
  ⟨(some 96), .build [.int .i64 0, .int .i64 0, .str [], .nils] [(0, 1, (.const (.int .i64 2))), (2, 1, (.const (.str [102])))], none⟩,
  ⟨none, .store 4 (.tmp 8) (.mv 96), none⟩] none [72, 96])
  (.seq
  (.seq
  (.region [
  ⟨(some 97), .mov (.tmp 6), none⟩,
  ⟨(some 98), .bin .quo (.tmp 97) (.const (.int .i64 9)), none⟩,
  ⟨(some 99), .bin .rem (.tmp 98) (.const (.int .i64 3)), none⟩,
  ⟨(some 100), .bin .eql (.tmp 99) (.const (.int .i64 0)), none⟩] none [6, 97, 98, 99])
  (.cond (.tmp 100)
  (.region [
  ⟨(some 101), .build [.int .i64 0, .int .i64 0, .str [], .nils] [(0, 1, (.const (.int .i64 3))), (2, 1, (.const (.str [73, 110, 116])))], none⟩,
  ⟨none, .store 4 (.tmp 8) (.mv 101), none⟩] none [100, 101])
  .skip))
  (.seq
  (.region [
  ⟨(some 103), .mov (.tmp 0), none⟩,
  ⟨(some 104), .mov (.tmp 1), none⟩,
  ⟨(some 105), .bin .add (.tmp 104) (.const (.int .i64 1)), none⟩,
  ⟨(some 106), .call n_r12_typ [(.tmp 103), (.tmp 105)], none⟩,
  ⟨(some 102), .mov (.mv 106), none⟩,
  ⟨(some 107), .extract (.tmp 102) 0, none⟩,
  ⟨(some 108), .extract (.tmp 102) 1, none⟩,
  ⟨(some 15), .alloc [.int .i64 0, .int .i64 0, .str [], .nils], none⟩,
  ⟨none, .store 4 (.tmp 15) (.mv 107), none⟩,
  ⟨(some 16), .mov (.mv 108), none⟩] none [0, 1, 100, 102, 103, 104, 105, 106, 107, 108])
  (.seq
  (.region [
  ⟨(some 109), .load (some 4) false (.tmp 8), none⟩,
  ⟨(some 110), .load (some 4) false (.tmp 15), none⟩,
  ⟨(some 111), .buildSlice k_api_Type [(.tmp 109), (.tmp 110)], none⟩,
  ⟨(some 112), .build [.int .i64 0, .int .i64 0, .str [], .nils] [(0, 1, (.const (.int .i64 4))), (3, 1, (.tmp 111))], none⟩,
  ⟨(some 113), .mov (.mv 16), none⟩,
  ⟨none, .store 4 (.tmp 4) (.mv 112), none⟩,
  ⟨(some 5), .mov (.mv 113), none⟩] none [8, 15, 16, 109, 110, 111, 112, 113])
  .ret))))))))))) }
/-- fugue/fugueref01.Ints -/
def a_r01_Ints : AFun :=
  { nargs := 2, ntmps := 14, res := [.tmp 4], gc := false, body :=
  (.seq
  (.region [
  ⟨(some 4), .mov (.const (.nils)), none⟩] none [4])
  (.seq
  (.region [
  ⟨(some 5), .mov (.const (.nils)), none⟩] none [])
  (.seq
  (.region [
  ⟨(some 6), .mov (.mv 5), none⟩,
  ⟨(some 7), .mov (.tmp 0), none⟩,
  ⟨(some 8), .mov (.tmp 0), none⟩,
  ⟨(some 9), .len (.tmp 8), none⟩,
  ⟨(some 10), .mov (.mv 1), none⟩,
  ⟨(some 11), .mm false (.tmp 9) (.tmp 10), none⟩,
  ⟨(some 12), .slice 1 (.tmp 7) none (some (.tmp 11)), none⟩,
  ⟨(some 13), .append k_int 8 (.mv 6) (.tmp 12), none⟩,
  ⟨(some 4), .mov (.mv 13), none⟩] none [0, 1, 5, 6, 7, 8, 9, 10, 11, 12, 13])
  .ret))) }
/-- fugue/fugueref11.Names -/
def a_r11_Names : AFun :=
  { nargs := 0, ntmps := 4, res := [.tmp 0, .tmp 1], gc := false, body :=
  (.seq
  (.region [
  ⟨(some 0), .mov (.const (.nils)), none⟩,
  ⟨(some 1), .mov (.const (.nils)), none⟩] none [0, 1])
  (.seq
  (.region [
  ⟨(some 2), .buildSlice k_string [(.const (.str [65])), (.const (.str [66])), (.const (.str [67])), (.const (.str [68])), (.const (.str [69]))], none⟩,
  ⟨(some 3), .buildSlice k_string [(.const (.str [73, 110, 116])), (.const (.str [66, 111, 111, 108])), (.const (.str [76]))], none⟩,
  ⟨(some 0), .mov (.mv 2), none⟩,
  ⟨(some 1), .mov (.mv 3), none⟩] none [2, 3])
  .ret)) }
/-- fugue/fugueref12.pick -/
def a_r12_pick : AFun :=
  { nargs := 2, ntmps := 14, res := [.tmp 4], gc := false, body :=
  (.seq
  (.region [
  ⟨(some 4), .mov (.const (.int .i64 0)), none⟩] none [4])
  (.seq
  (.seq
  (.region [
  ⟨(some 5), .mov (.tmp 1), none⟩,
  ⟨(some 6), .mov (.tmp 0), none⟩,
  ⟨(some 7), .len (.tmp 6), none⟩,
  ⟨(some 8), .bin .geq (.tmp 5) (.tmp 7), none⟩] none [5, 6, 7])
  (.cond (.tmp 8)
  (.seq
  (.region [
  ⟨(some 4), .mov (.const (.int .i64 0)), none⟩] none [0, 1, 8])
  .ret)
  .skip))
  (.seq
  (.region [
  ⟨(some 9), .mov (.mv 0), none⟩,
  ⟨(some 10), .mov (.mv 1), none⟩,
  ⟨(some 11), .indexAddr 1 (.tmp 9) (.tmp 10), none⟩,
  ⟨(some 12), .load none false (.tmp 11), none⟩,
  ⟨(some 13), .call n_r01_Around [(.tmp 12), (.const (.int .i64 100000))], none⟩,
  ⟨(some 4), .mov (.mv 13), none⟩] none [0, 1, 8, 9, 10, 11, 12, 13])
  .ret))) }
/-- fugue/fugueref04.build -/
def a_r04_build : AFun :=
  { nargs := 3, ntmps := 90, res := [.cell 6 (some 4), .tmp 7], gc := false, body :=
  (.seq
  (.region [
  ⟨(some 6), .alloc [.int .i64 0, .int .i64 0, .str [], .nils], none⟩,
  ⟨(some 7), .mov (.const (.nils)), none⟩] none [7])
  (.seq
  (.seq
  (.region [
  ⟨(some 14), .mov (.tmp 0), none⟩,
  ⟨(some 15), .len (.tmp 14), none⟩,
  ⟨(some 16), .bin .eql (.tmp 15) (.const (.int .i64 0)), none⟩] none [14, 15])
  (.cond (.tmp 16)
  (.seq
  (.region [
  ⟨(some 17), .build [.int .i64 0, .int .i64 0, .str [], .nils] [(0, 1, (.const (.int .i64 3))), (2, 1, (.const (.str [73, 110, 116])))], none⟩,
  ⟨(some 18), .mov (.mv 0), none⟩,
  ⟨none, .store 4 (.tmp 6) (.mv 17), none⟩,
  ⟨(some 7), .mov (.mv 18), none⟩] none [0, 1, 2, 16, 17, 18])
  .ret)
  .skip))
  (.seq
  (.region [
  ⟨(some 19), .mov (.tmp 0), none⟩,
  ⟨(some 20), .indexAddr 1 (.tmp 19) (.const (.int .i64 0)), none⟩,
  ⟨(some 21), .load none false (.tmp 20), none⟩,
  ⟨(some 22), .call n_r01_Around [(.tmp 21), (.const (.int .i64 40))], none⟩,
  ⟨(some 8), .mov (.mv 22), none⟩] none [16, 19, 20, 21, 22])
  (.seq
  (.region [
  ⟨(some 23), .mov (.tmp 0), none⟩,
  ⟨(some 24), .slice 1 (.tmp 23) (some (.const (.int .i64 1))) none, none⟩,
  ⟨(some 0), .mov (.mv 24), none⟩] none [23, 24])
  (.seq
  (.region [
  ⟨(some 25), .mov (.tmp 8), none⟩,
  ⟨(some 26), .bin .rem (.tmp 25) (.const (.int .i64 10)), none⟩,
  ⟨(some 9), .mov (.mv 26), none⟩] none [25, 26])
  (.seq
  (.seq
  (.region [
  ⟨(some 27), .mov (.tmp 1), none⟩,
  ⟨(some 28), .bin .gtr (.tmp 27) (.const (.int .i64 4)), none⟩] none [27])
  (.cond (.tmp 28)
  (.region [
  ⟨(some 29), .mov (.tmp 8), none⟩,
  ⟨(some 30), .bin .rem (.tmp 29) (.const (.int .i64 5)), none⟩,
  ⟨(some 9), .mov (.mv 30), none⟩] none [28, 29, 30])
  .skip))
  (.seq
  (.seq
  (.region [
  ⟨(some 31), .mov (.tmp 9), none⟩,
  ⟨(some 32), .bin .lss (.tmp 31) (.const (.int .i64 2)), none⟩] none [28, 31])
  (.cond (.tmp 32)
  (.seq
  (.region [
  ⟨(some 33), .mov (.mv 8), none⟩,
  ⟨(some 34), .bin .quo (.tmp 33) (.const (.int .i64 10)), none⟩,
  ⟨(some 35), .call n_r04_Name [(.tmp 34)], none⟩,
  ⟨(some 36), .build [.int .i64 0, .int .i64 0, .str [], .nils] [(0, 1, (.const (.int .i64 2))), (2, 1, (.tmp 35))], none⟩,
  ⟨(some 37), .mov (.mv 0), none⟩,
  ⟨none, .store 4 (.tmp 6) (.mv 36), none⟩,
  ⟨(some 7), .mov (.mv 37), none⟩] none [0, 1, 2, 8, 9, 32, 33, 34, 35, 36, 37])
  .ret)
  .skip))
  (.seq
  (.seq
  (.region [
  ⟨(some 38), .mov (.tmp 9), none⟩,
  ⟨(some 39), .bin .lss (.tmp 38) (.const (.int .i64 3)), none⟩] none [32, 38])
  (.cond (.tmp 39)
  (.seq
  (.region [
  ⟨(some 40), .mov (.mv 8), none⟩,
  ⟨(some 41), .bin .quo (.tmp 40) (.const (.int .i64 10)), none⟩,
  ⟨(some 42), .bin .add (.const (.int .i64 1)) (.tmp 41), none⟩,
  ⟨(some 43), .build [.int .i64 0, .int .i64 0, .str [], .nils] [(0, 1, (.const (.int .i64 1))), (1, 1, (.tmp 42))], none⟩,
  ⟨(some 44), .mov (.mv 0), none⟩,
  ⟨none, .store 4 (.tmp 6) (.mv 43), none⟩,
  ⟨(some 7), .mov (.mv 44), none⟩] none [0, 1, 2, 8, 9, 39, 40, 41, 42, 43, 44])
  .ret)
  .skip))
  (.seq
  (.seq
  (.region [
  ⟨(some 45), .mov (.tmp 9), none⟩,
  ⟨(some 46), .bin .lss (.tmp 45) (.const (.int .i64 5)), none⟩] none [39, 45])
  (.cond (.tmp 46)
  (.seq
  (.region [
  ⟨(some 47), .mov (.mv 8), none⟩,
  ⟨(some 48), .bin .quo (.tmp 47) (.const (.int .i64 5)), none⟩,
  ⟨(some 49), .call n_r04_Con [(.tmp 48)], none⟩,
  ⟨(some 50), .build [.int .i64 0, .int .i64 0, .str [], .nils] [(0, 1, (.const (.int .i64 3))), (2, 1, (.tmp 49))], none⟩,
  ⟨(some 51), .mov (.mv 0), none⟩,
  ⟨none, .store 4 (.tmp 6) (.mv 50), none⟩,
  ⟨(some 7), .mov (.mv 51), none⟩] none [0, 1, 2, 8, 9, 46, 47, 48, 49, 50, 51])
  .ret)
  .skip))
  (.seq
  (.region [
  ⟨(some 53), .mov (.tmp 0), none⟩,
  ⟨(some 54), .mov (.tmp 1), none⟩,
  ⟨(some 55), .bin .add (.tmp 54) (.const (.int .i64 1)), none⟩,
  ⟨(some 56), .mov (.tmp 2), none⟩,
  ⟨(some 57), .call n_r04_build [(.tmp 53), (.tmp 55), (.tmp 56)], none⟩,
  ⟨(some 52), .mov (.mv 57), none⟩,
  ⟨(some 58), .extract (.tmp 52) 0, none⟩,
  ⟨(some 59), .extract (.tmp 52) 1, none⟩,
  ⟨(some 10), .alloc [.int .i64 0, .int .i64 0, .str [], .nils], none⟩,
  ⟨none, .store 4 (.tmp 10) (.mv 58), none⟩,
  ⟨(some 11), .mov (.mv 59), none⟩] none [0, 46, 52, 53, 54, 55, 56, 57, 58, 59])
  (.seq
  (.seq
  (.region [
  ⟨(some 60), .mov (.tmp 9), none⟩,
  ⟨(some 61), .bin .eql (.tmp 60) (.const (.int .i64 9)), none⟩,
  ⟨(some 62), .mov (.mv 61), none⟩,
  ⟨(some 63), .mov (.tmp 2), (some (62, true))⟩,
  ⟨(some 64), .pick (.tmp 62) (.tmp 63) (.const (.bool false)), none⟩] none [60, 61, 62, 63])
  (.cond (.tmp 64)
  (.seq
  (.region [
  ⟨(some 65), .mov (.mv 8), none⟩,
  ⟨(some 66), .bin .quo (.tmp 65) (.const (.int .i64 10)), none⟩,
  ⟨(some 68), .loadB 10 (some 4) (.tmp 10), none⟩,
  ⟨(some 69), .buildSlice k_api_Type [(.tmp 68)], none⟩,
  ⟨(some 71), .mov (.mv 11), none⟩,
  ⟨(some 67), .call n_r04_Name [(.tmp 66)], none⟩,
  ⟨(some 70), .build [.int .i64 0, .int .i64 0, .str [], .nils] [(0, 1, (.const (.int .i64 5))), (2, 1, (.tmp 67)), (3, 1, (.tmp 69))], none⟩,
  ⟨none, .storeB 6 4 (.tmp 6) (.mv 70), none⟩,
  ⟨(some 7), .mov (.mv 71), none⟩] (some [0, 1, 3, 4, 6, 2, 5, 7, 8]) [1, 2, 8, 9, 10, 11, 64, 65, 66, 67, 68, 69, 70, 71])
  .ret)
  .skip))
  (.seq
  (.region [
  ⟨(some 73), .mov (.tmp 11), none⟩,
  ⟨(some 74), .mov (.tmp 1), none⟩,
  ⟨(some 75), .bin .add (.tmp 74) (.const (.int .i64 1)), none⟩,
  ⟨(some 76), .mov (.tmp 2), none⟩,
  ⟨(some 77), .call n_r04_build [(.tmp 73), (.tmp 75), (.tmp 76)], none⟩,
  ⟨(some 72), .mov (.mv 77), none⟩,
  ⟨(some 78), .extract (.tmp 72) 0, none⟩,
  ⟨(some 79), .extract (.tmp 72) 1, none⟩,
  ⟨(some 12), .alloc [.int .i64 0, .int .i64 0, .str [], .nils], none⟩,
  ⟨none, .store 4 (.tmp 12) (.mv 78), none⟩,
  ⟨(some 13), .mov (.mv 79), none⟩] none [1, 2, 8, 11, 64, 72, 73, 74, 75, 76, 77, 78, 79])
  (.seq
  (.seq
  (.region [
  ⟨(some 80), .mov (.tmp 9), none⟩,
  ⟨(some 81), .bin .lss (.tmp 80) (.const (.int .i64 8)), none⟩] none [9, 80])
  (.cond (.tmp 81)
  (.seq
  (.region [
  ⟨(some 82), .load (some 4) false (.tmp 10), none⟩,
  ⟨(some 83), .load (some 4) false (.tmp 12), none⟩,
  ⟨(some 84), .call n_r04_Fun [(.tmp 82), (.tmp 83)], none⟩,
  ⟨(some 85), .mov (.mv 13), none⟩,
  ⟨none, .store 4 (.tmp 6) (.mv 84), none⟩,
  ⟨(some 7), .mov (.mv 85), none⟩] none [10, 12, 13, 81, 82, 83, 84, 85])
  .ret)
  .skip))
  (.seq
  (.region [
  ⟨(some 86), .load (some 4) false (.tmp 10), none⟩,
  ⟨(some 87), .load (some 4) false (.tmp 12), none⟩,
  ⟨(some 88), .call n_r04_app [(.tmp 86), (.tmp 87)], none⟩,
  ⟨(some 89), .mov (.mv 13), none⟩,
  ⟨none, .store 4 (.tmp 6) (.mv 88), none⟩,
  ⟨(some 7), .mov (.mv 89), none⟩] none [10, 12, 13, 81, 86, 87, 88, 89])
  .ret)))))))))))))) }
def a_r03_Made_l0 : ACode :=
  (.seq
  (.seq
  (.region [
  ⟨(some 28), .mov (.tmp 8), none⟩,
  ⟨(some 29), .mov (.tmp 7), none⟩,
  ⟨(some 30), .bin .lss (.tmp 28) (.tmp 29), none⟩] none [28, 29])
  (.cond (.tmp 30)
  .skip
  (.exit 0)))
  (.seq
  (.block 1
  (.seq
  (.region [
  ⟨(some 34), .mov (.tmp 0), none⟩,
  ⟨(some 35), .mov (.tmp 1), none⟩,
  ⟨(some 36), .bin .add (.tmp 35) (.const (.int .i64 1)), none⟩,
  ⟨(some 37), .call n_r03_Made [(.tmp 34), (.tmp 36)], none⟩,
  ⟨(some 33), .mov (.mv 37), none⟩,
  ⟨(some 38), .extract (.tmp 33) 0, none⟩,
  ⟨(some 39), .extract (.tmp 33) 1, none⟩,
  ⟨(some 9), .alloc [.nils], none⟩,
  ⟨none, .store 1 (.tmp 9) (.mv 38), none⟩,
  ⟨(some 10), .mov (.mv 39), none⟩] none [0, 30, 33, 34, 35, 36, 37, 38, 39])
  (.seq
  (.region [
  ⟨(some 40), .mov (.tmp 10), none⟩,
  ⟨(some 0), .mov (.mv 40), none⟩] none [10, 40])
  (.region [
  ⟨(some 41), .fieldAddr 0 none (.tmp 6), none⟩,
  ⟨(some 42), .load none true (.tmp 41), none⟩,
  ⟨(some 43), .load (some 1) false (.tmp 9), none⟩,
  ⟨(some 44), .buildSlice k_api_Kind [(.tmp 43)], none⟩,
  ⟨(some 45), .append k_api_Kind 24 (.mv 42) (.tmp 44), none⟩,
  ⟨(some 46), .fieldAddr 0 none (.tmp 6), none⟩,
  ⟨none, .store 1 (.tmp 46) (.mv 45), none⟩] none [9, 41, 42, 43, 44, 45, 46]))))
  (.region [
  ⟨(some 31), .mov (.tmp 8), none⟩,
  ⟨(some 32), .bin .add (.tmp 31) (.const (.int .i64 1)), none⟩,
  ⟨(some 8), .mov (.mv 32), none⟩] none [31, 32])))
/-- fugue/fugueref03.Made -/
def a_r03_Made : AFun :=
  { nargs := 2, ntmps := 49, res := [.cell 4 (some 1), .tmp 5], gc := false, body :=
  (.seq
  (.region [
  ⟨(some 4), .alloc [.nils], none⟩,
  ⟨(some 5), .mov (.const (.nils)), none⟩] none [5])
  (.seq
  (.region [
  ⟨(some 6), .alloc [.nils], none⟩] none [])
  (.seq
  (.seq
  (.region [
  ⟨(some 11), .mov (.tmp 0), none⟩,
  ⟨(some 12), .len (.tmp 11), none⟩,
  ⟨(some 13), .bin .eql (.tmp 12) (.const (.int .i64 0)), none⟩,
  ⟨(some 14), .mov (.mv 13), none⟩,
  ⟨(some 15), .mov (.tmp 1), (some (14, false))⟩,
  ⟨(some 16), .bin .gtr (.tmp 15) (.const (.int .i64 3)), (some (14, false))⟩,
  ⟨(some 17), .pick (.tmp 14) (.const (.bool true)) (.tmp 16), none⟩] none [11, 12, 13, 14, 15, 16])
  (.cond (.tmp 17)
  (.seq
  (.region [
  ⟨(some 18), .load (some 1) true (.tmp 6), none⟩,
  ⟨(some 19), .mov (.mv 0), none⟩,
  ⟨none, .store 1 (.tmp 4) (.mv 18), none⟩,
  ⟨(some 5), .mov (.mv 19), none⟩] none [0, 1, 6, 17, 18, 19])
  .ret)
  .skip))
  (.seq
  (.region [
  ⟨(some 20), .mov (.tmp 0), none⟩,
  ⟨(some 21), .indexAddr 1 (.tmp 20) (.const (.int .i64 0)), none⟩,
  ⟨(some 22), .load none false (.tmp 21), none⟩,
  ⟨(some 23), .call n_r01_Around [(.tmp 22), (.const (.int .i64 4))], none⟩,
  ⟨(some 7), .mov (.mv 23), none⟩] none [17, 20, 21, 22, 23])
  (.seq
  (.region [
  ⟨(some 24), .mov (.tmp 0), none⟩,
  ⟨(some 25), .slice 1 (.tmp 24) (some (.const (.int .i64 1))) none, none⟩,
  ⟨(some 0), .mov (.mv 25), none⟩] none [24, 25])
  (.seq
  (.seq
  (.region [
  ⟨(some 26), .mov (.tmp 7), none⟩,
  ⟨(some 27), .bin .gtr (.tmp 26) (.const (.int .i64 2)), none⟩] none [26])
  (.cond (.tmp 27)
  (.region [
  ⟨(some 7), .mov (.const (.int .i64 0)), none⟩] none [27])
  .skip))
  (.seq
  (.seq
  (.region [
  ⟨(some 8), .mov (.const (.int .i64 0)), none⟩] none [27])
  (.block 0
  (.loop a_r03_Made_l0)))
  (.seq
  (.region [
  ⟨(some 47), .load (some 1) true (.tmp 6), none⟩,
  ⟨(some 48), .mov (.mv 0), none⟩,
  ⟨none, .store 1 (.tmp 4) (.mv 47), none⟩,
  ⟨(some 5), .mov (.mv 48), none⟩] none [0, 1, 6, 7, 8, 30, 47, 48])
  .ret)))))))) }
def a_slices_Index_int_l0 : ACode :=
  (.seq
  (.region [
  ⟨(some 9), .bin .lss (.tmp 8) (.tmp 7), none⟩] none [])
  (.seq
  (.cond (.tmp 9)
  .skip
  (.exit 0))
  (.seq
  (.block 1
  (.seq
  (.region [
  ⟨(some 10), .mov (.tmp 8), none⟩,
  ⟨(some 5), .mov (.mv 10), none⟩] none [9, 10])
  (.seq
  (.region [
  ⟨(some 11), .mov (.tmp 1), none⟩,
  ⟨(some 12), .mov (.tmp 0), none⟩,
  ⟨(some 13), .mov (.tmp 5), none⟩,
  ⟨(some 14), .indexAddr 1 (.tmp 12) (.tmp 13), none⟩,
  ⟨(some 15), .load none false (.tmp 14), none⟩,
  ⟨(some 16), .bin .eql (.tmp 11) (.tmp 15), none⟩] none [11, 12, 13, 14, 15])
  (.cond (.tmp 16)
  (.seq
  (.region [
  ⟨(some 17), .mov (.mv 5), none⟩,
  ⟨(some 4), .mov (.mv 17), none⟩] none [0, 1, 5, 7, 8, 16, 17])
  .ret)
  .skip))))
  (.region [
  ⟨(some 18), .bin .add (.tmp 8) (.const (.int .i64 1)), none⟩,
  ⟨(some 8), .mov (.mv 18), none⟩] none [5, 16, 18]))))
/-- slices.Index[[]int,int] -/
def a_slices_Index_int : AFun :=
  { nargs := 2, ntmps := 19, res := [.tmp 4], gc := false, body :=
  (.seq
  (.region [
  ⟨(some 4), .mov (.const (.int .i64 0)), none⟩] none [4])
  (.seq
  (.seq
  (.region [
  ⟨(some 6), .mov (.tmp 0), none⟩,
  ⟨(some 7), .len (.tmp 6), none⟩,
  ⟨(some 8), .mov (.const (.int .i64 0)), none⟩] none [6])
  (.block 0
  (.loop a_slices_Index_int_l0)))
  (.seq
  (.region [
  ⟨(some 4), .mov (.const (.int .i64 (-1))), none⟩] none [0, 1, 7, 8, 9])
  .ret))) }
/-- slices.Clone[[]fugue/api.Type,fugue/api.Type] -/
def a_slices_Clone_Type : AFun :=
  { nargs := 1, ntmps := 8, res := [.tmp 2], gc := false, body :=
  (.seq
  (.region [
  ⟨(some 2), .mov (.const (.nils)), none⟩] none [2])
  (.seq
  (.seq
  (.region [
  ⟨(some 3), .mov (.tmp 0), none⟩,
  ⟨(some 4), .isNilS .eql (.tmp 3), none⟩] none [3])
  (.cond (.tmp 4)
  (.seq
  (.region [
  ⟨(some 2), .mov (.const (.nils)), none⟩] none [0, 4])
  .ret)
  .skip))
  (.seq
  (.region [
  ⟨(some 5), .buildA k_api_Type [], none⟩,
  ⟨(some 6), .mov (.mv 0), none⟩,
  ⟨(some 7), .appendA k_api_Type 56 (.mv 5) (.tmp 6), none⟩,
  ⟨(some 2), .mov (.mv 7), none⟩] none [0, 4, 5, 6, 7])
  .ret))) }
def a_slices_Index_string_l0 : ACode :=
  (.seq
  (.region [
  ⟨(some 9), .bin .lss (.tmp 8) (.tmp 7), none⟩] none [])
  (.seq
  (.cond (.tmp 9)
  .skip
  (.exit 0))
  (.seq
  (.block 1
  (.seq
  (.region [
  ⟨(some 10), .mov (.tmp 8), none⟩,
  ⟨(some 5), .mov (.mv 10), none⟩] none [9, 10])
  (.seq
  (.region [
  ⟨(some 11), .mov (.tmp 1), none⟩,
  ⟨(some 12), .mov (.tmp 0), none⟩,
  ⟨(some 13), .mov (.tmp 5), none⟩,
  ⟨(some 14), .indexAddr 1 (.tmp 12) (.tmp 13), none⟩,
  ⟨(some 15), .load none false (.tmp 14), none⟩,
  ⟨(some 16), .bin .eql (.tmp 11) (.tmp 15), none⟩] none [11, 12, 13, 14, 15])
  (.cond (.tmp 16)
  (.seq
  (.region [
  ⟨(some 17), .mov (.mv 5), none⟩,
  ⟨(some 4), .mov (.mv 17), none⟩] none [0, 1, 5, 7, 8, 16, 17])
  .ret)
  .skip))))
  (.region [
  ⟨(some 18), .bin .add (.tmp 8) (.const (.int .i64 1)), none⟩,
  ⟨(some 8), .mov (.mv 18), none⟩] none [5, 16, 18]))))
/-- slices.Index[[]string,string] -/
def a_slices_Index_string : AFun :=
  { nargs := 2, ntmps := 19, res := [.tmp 4], gc := false, body :=
  (.seq
  (.region [
  ⟨(some 4), .mov (.const (.int .i64 0)), none⟩] none [4])
  (.seq
  (.seq
  (.region [
  ⟨(some 6), .mov (.tmp 0), none⟩,
  ⟨(some 7), .len (.tmp 6), none⟩,
  ⟨(some 8), .mov (.const (.int .i64 0)), none⟩] none [6])
  (.block 0
  (.loop a_slices_Index_string_l0)))
  (.seq
  (.region [
  ⟨(some 4), .mov (.const (.int .i64 (-1))), none⟩] none [0, 1, 7, 8, 9])
  .ret))) }
def a_types_own_l0 : ACode :=
  (.seq
  (.region [
  ⟨(some 10), .bin .lss (.tmp 9) (.tmp 8), none⟩] none [])
  (.seq
  (.cond (.tmp 10)
  .skip
  (.exit 0))
  (.seq
  (.block 1
  (.seq
  (.region [
  ⟨(some 11), .indexAddr 4 (.tmp 7) (.tmp 9), none⟩,
  ⟨(some 12), .load (some 4) false (.tmp 11), none⟩,
  ⟨(some 5), .alloc [.int .i64 0, .int .i64 0, .str [], .nils], none⟩,
  ⟨none, .store 4 (.tmp 5) (.mv 12), none⟩] none [10, 11, 12])
  (.region [
  ⟨(some 13), .mov (.mv 3), none⟩,
  ⟨(some 14), .load (some 4) false (.tmp 5), none⟩,
  ⟨(some 15), .call n_types_own [(.tmp 14)], none⟩,
  ⟨(some 16), .buildSlice k_api_Type [(.tmp 15)], none⟩,
  ⟨(some 17), .append k_api_Type 56 (.mv 13) (.tmp 16), none⟩,
  ⟨(some 3), .mov (.mv 17), none⟩] none [5, 13, 14, 15, 16, 17])))
  (.region [
  ⟨(some 18), .bin .add (.tmp 9) (.const (.int .i64 1)), none⟩,
  ⟨(some 9), .mov (.mv 18), none⟩] none [18]))))
/-- fugue/types.own -/
def a_types_own : AFun :=
  { nargs := 1, ntmps := 22, res := [.cell 2 (some 4)], gc := false, body :=
  (.seq
  (.region [
  ⟨(some 1), .box (.tmp 0), none⟩,
  ⟨(some 2), .alloc [.int .i64 0, .int .i64 0, .str [], .nils], none⟩] none [0])
  (.seq
  (.region [
  ⟨(some 3), .mov (.const (.nils)), none⟩] none [])
  (.seq
  (.seq
  (.region [
  ⟨(some 6), .fieldAddr 3 none (.tmp 1), none⟩,
  ⟨(some 7), .load none false (.tmp 6), none⟩,
  ⟨(some 8), .len (.tmp 7), none⟩,
  ⟨(some 9), .mov (.const (.int .i64 0)), none⟩] none [6])
  (.block 0
  (.loop a_types_own_l0)))
  (.seq
  (.region [
  ⟨(some 19), .mov (.tmp 3), none⟩,
  ⟨(some 20), .fieldAddr 3 none (.tmp 1), none⟩,
  ⟨none, .store 1 (.tmp 20) (.mv 19), none⟩] none [3, 7, 8, 9, 10, 19, 20])
  (.seq
  (.region [
  ⟨(some 21), .load (some 4) true (.tmp 1), none⟩,
  ⟨none, .store 4 (.tmp 2) (.mv 21), none⟩] none [1, 21])
  .ret))))) }
/-- fugue/types.apply -/
def a_types_apply : AFun :=
  { nargs := 2, ntmps := 9, res := [.cell 4 (some 4)], gc := false, body :=
  (.seq
  (.region [
  ⟨(some 2), .box (.tmp 0), none⟩,
  ⟨(some 3), .box (.tmp 1), none⟩,
  ⟨(some 4), .alloc [.int .i64 0, .int .i64 0, .str [], .nils], none⟩] none [0, 1])
  (.seq
  (.region [
  ⟨(some 5), .load (some 4) false (.tmp 2), none⟩,
  ⟨(some 6), .load (some 4) false (.tmp 3), none⟩,
  ⟨(some 7), .buildSlice k_api_Type [(.tmp 5), (.tmp 6)], none⟩,
  ⟨(some 8), .build [.int .i64 0, .int .i64 0, .str [], .nils] [(0, 1, (.const (.int .i64 4))), (3, 1, (.tmp 7))], none⟩,
  ⟨none, .store 4 (.tmp 4) (.mv 8), none⟩] none [2, 3, 5, 6, 7, 8])
  .ret)) }
def a_types_under_l0 : ACode :=
  (.seq
  (.region [
  ⟨(some 24), .bin .lss (.tmp 23) (.tmp 22), none⟩] none [])
  (.seq
  (.cond (.tmp 24)
  .skip
  (.exit 0))
  (.seq
  (.block 1
  (.seq
  (.region [
  ⟨(some 25), .mov (.tmp 23), none⟩,
  ⟨(some 26), .indexAddr 1 (.tmp 21) (.tmp 23), none⟩,
  ⟨(some 27), .load none false (.tmp 26), none⟩,
  ⟨(some 12), .mov (.mv 25), none⟩,
  ⟨(some 13), .mov (.mv 27), none⟩] none [24, 25, 26, 27])
  (.seq
  (.region [
  ⟨(some 28), .mov (.tmp 13), none⟩,
  ⟨(some 29), .fieldAddr 2 none (.tmp 3), none⟩,
  ⟨(some 30), .load none false (.tmp 29), none⟩,
  ⟨(some 31), .bin .neq (.tmp 28) (.tmp 30), none⟩,
  ⟨(some 32), .mov (.mv 31), none⟩,
  ⟨(some 33), .mov (.tmp 8), (some (32, true))⟩,
  ⟨(some 34), .mov (.tmp 13), (some (32, true))⟩,
  ⟨(some 35), .call n_slices_Contains_string [(.tmp 33), (.tmp 34)], (some (32, true))⟩,
  ⟨(some 36), .pick (.tmp 32) (.tmp 35) (.const (.bool false)), none⟩] none [28, 29, 30, 31, 32, 33, 34, 35])
  (.cond (.tmp 36)
  (.seq
  (.region [
  ⟨(some 37), .mov (.mv 9), none⟩,
  ⟨(some 38), .mov (.tmp 13), none⟩,
  ⟨(some 39), .buildSlice k_string [(.tmp 38)], none⟩,
  ⟨(some 40), .append k_string 16 (.mv 37) (.tmp 39), none⟩,
  ⟨(some 41), .mov (.mv 10), none⟩,
  ⟨(some 42), .mov (.tmp 2), none⟩,
  ⟨(some 43), .mov (.tmp 12), none⟩,
  ⟨(some 44), .indexAddr 4 (.tmp 42) (.tmp 43), none⟩,
  ⟨(some 45), .load (some 4) false (.tmp 44), none⟩,
  ⟨(some 46), .buildSlice k_api_Type [(.tmp 45)], none⟩,
  ⟨(some 47), .append k_api_Type 56 (.mv 41) (.tmp 46), none⟩,
  ⟨(some 9), .mov (.mv 40), none⟩,
  ⟨(some 10), .mov (.mv 47), none⟩] (some [0, 1, 2, 3, 4, 5, 6, 7, 8, 9, 10, 11, 12]) [13, 36, 37, 38, 39, 40, 41, 42, 43, 44, 45, 46, 47])
  (.region [
  ⟨(some 48), .mov (.mv 11), none⟩,
  ⟨(some 49), .mov (.tmp 2), none⟩,
  ⟨(some 50), .mov (.tmp 12), none⟩,
  ⟨(some 51), .indexAddr 4 (.tmp 49) (.tmp 50), none⟩,
  ⟨(some 52), .load (some 4) false (.tmp 51), none⟩,
  ⟨(some 53), .call n_types_Free [(.tmp 52)], none⟩,
  ⟨(some 54), .append k_string 16 (.mv 48) (.tmp 53), none⟩,
  ⟨(some 11), .mov (.mv 54), none⟩] none [12, 48, 49, 50, 51, 52, 53, 54]))
  .skip))))
  (.region [
  ⟨(some 55), .bin .add (.tmp 23) (.const (.int .i64 1)), none⟩,
  ⟨(some 23), .mov (.mv 55), none⟩] none [12, 13, 36, 55]))))
/-- fugue/types.under -/
def a_types_under : AFun :=
  { nargs := 3, ntmps := 81, res := [.cell 6 (some 4)], gc := false, body :=
  (.seq
  (.region [
  ⟨(some 3), .box (.tmp 0), none⟩,
  ⟨(some 6), .alloc [.int .i64 0, .int .i64 0, .str [], .nils], none⟩] none [0])
  (.seq
  (.region [
  ⟨(some 15), .fieldAddr 3 none (.tmp 3), none⟩,
  ⟨(some 16), .load none false (.tmp 15), none⟩,
  ⟨(some 17), .indexAddr 4 (.tmp 16) (.const (.int .i64 0)), none⟩,
  ⟨(some 18), .load (some 4) false (.tmp 17), none⟩,
  ⟨(some 7), .alloc [.int .i64 0, .int .i64 0, .str [], .nils], none⟩,
  ⟨none, .store 4 (.tmp 7) (.mv 18), none⟩] none [15, 16, 17, 18])
  (.seq
  (.region [
  ⟨(some 19), .load (some 4) false (.tmp 7), none⟩,
  ⟨(some 20), .call n_types_Free [(.tmp 19)], none⟩,
  ⟨(some 8), .mov (.mv 20), none⟩] none [19, 20])
  (.seq
  (.region [
  ⟨(some 9), .mov (.const (.nils)), none⟩] none [])
  (.seq
  (.region [
  ⟨(some 10), .mov (.const (.nils)), none⟩] none [])
  (.seq
  (.region [
  ⟨(some 11), .mov (.const (.nils)), none⟩] none [])
  (.seq
  (.seq
  (.region [
  ⟨(some 21), .mov (.tmp 1), none⟩,
  ⟨(some 22), .len (.tmp 21), none⟩,
  ⟨(some 23), .mov (.const (.int .i64 0)), none⟩] none [1])
  (.block 0
  (.loop a_types_under_l0)))
  (.seq
  (.region [
  ⟨(some 56), .fieldAddr 2 none (.tmp 3), none⟩,
  ⟨(some 57), .load none false (.tmp 56), none⟩,
  ⟨(some 14), .mov (.mv 57), none⟩] none [2, 21, 22, 23, 24, 56, 57])
  (.seq
  (.seq
  (.region [
  ⟨(some 58), .mov (.tmp 11), none⟩,
  ⟨(some 59), .mov (.tmp 14), none⟩,
  ⟨(some 60), .call n_slices_Contains_string [(.tmp 58), (.tmp 59)], none⟩] none [58, 59])
  (.cond (.tmp 60)
  (.seq
  (.region [
  ⟨(some 61), .mov (.mv 11), none⟩,
  ⟨(some 62), .mov (.tmp 8), none⟩,
  ⟨(some 63), .append k_string 16 (.mv 61) (.tmp 62), none⟩,
  ⟨(some 64), .call n_types_letter [(.tmp 63)], none⟩,
  ⟨(some 14), .mov (.mv 64), none⟩] none [8, 11, 60, 61, 62, 63, 64])
  (.region [
  ⟨(some 65), .mov (.mv 9), none⟩,
  ⟨(some 66), .fieldAddr 2 none (.tmp 3), none⟩,
  ⟨(some 67), .load none false (.tmp 66), none⟩,
  ⟨(some 68), .buildSlice k_string [(.tmp 67)], none⟩,
  ⟨(some 69), .append k_string 16 (.mv 65) (.tmp 68), none⟩,
  ⟨(some 70), .mov (.mv 10), none⟩,
  ⟨(some 71), .mov (.tmp 14), none⟩,
  ⟨(some 72), .call n_types_Var [(.tmp 71)], none⟩,
  ⟨(some 73), .buildSlice k_api_Type [(.tmp 72)], none⟩,
  ⟨(some 74), .append k_api_Type 56 (.mv 70) (.tmp 73), none⟩,
  ⟨(some 9), .mov (.mv 69), none⟩,
  ⟨(some 10), .mov (.mv 74), none⟩] none [3, 65, 66, 67, 68, 69, 70, 71, 72, 73, 74]))
  .skip))
  (.seq
  (.region [
  ⟨(some 75), .mov (.mv 14), none⟩,
  ⟨(some 76), .load (some 4) false (.tmp 7), none⟩,
  ⟨(some 77), .mov (.mv 9), none⟩,
  ⟨(some 78), .mov (.mv 10), none⟩,
  ⟨(some 79), .call n_types_Subst [(.tmp 76), (.tmp 77), (.tmp 78)], none⟩,
  ⟨(some 80), .call n_types_All [(.tmp 75), (.tmp 79)], none⟩,
  ⟨none, .store 4 (.tmp 6) (.mv 80), none⟩] none [3, 7, 8, 9, 10, 11, 14, 60, 75, 76, 77, 78, 79, 80])
  .ret)))))))))) }
/-- fugue/fugueref12.same -/
def a_r12_same : AFun :=
  { nargs := 2, ntmps := 19, res := [.tmp 4], gc := false, body :=
  (.seq
  (.region [
  ⟨(some 2), .box (.tmp 0), none⟩,
  ⟨(some 3), .box (.tmp 1), none⟩,
  ⟨(some 4), .mov (.const (.bool false)), none⟩] none [0, 1, 4])
  (.seq
  (.region [
  ⟨(some 6), .fieldAddr 1 (some 4) (.tmp 2), none⟩,
  ⟨(some 7), .load (some 4) false (.tmp 6), none⟩,
  ⟨(some 8), .fieldAddr 1 (some 4) (.tmp 3), none⟩,
  ⟨(some 9), .load (some 4) false (.tmp 8), none⟩,
  ⟨(some 10), .call n_r04_Equal [(.tmp 7), (.tmp 9)], none⟩,
  ⟨(some 5), .mov (.mv 10), none⟩] none [6, 7, 8, 9, 10])
  (.seq
  (.region [
  ⟨(some 11), .fieldAddr 0 none (.tmp 2), none⟩,
  ⟨(some 12), .load none false (.tmp 11), none⟩,
  ⟨(some 13), .fieldAddr 0 none (.tmp 3), none⟩,
  ⟨(some 14), .load none false (.tmp 13), none⟩,
  ⟨(some 15), .bin .eql (.tmp 12) (.tmp 14), none⟩,
  ⟨(some 16), .mov (.mv 15), none⟩,
  ⟨(some 17), .mov (.mv 5), (some (16, true))⟩,
  ⟨(some 18), .pick (.tmp 16) (.tmp 17) (.const (.bool false)), none⟩,
  ⟨(some 4), .mov (.mv 18), none⟩] none [2, 3, 5, 11, 12, 13, 14, 15, 16, 17, 18])
  .ret))) }
def a_scheme_Canon_l0 : ACode :=
  (.seq
  (.region [
  ⟨(some 24), .bin .lss (.tmp 23) (.tmp 22), none⟩] none [])
  (.seq
  (.cond (.tmp 24)
  .skip
  (.exit 0))
  (.seq
  (.block 1
  (.seq
  (.region [
  ⟨(some 25), .indexAddr 5 (.tmp 21) (.tmp 23), none⟩,
  ⟨(some 26), .load (some 5) false (.tmp 25), none⟩,
  ⟨(some 5), .alloc [.str [], .int .i64 0, .int .i64 0, .str [], .nils], none⟩,
  ⟨none, .store 5 (.tmp 5) (.mv 26), none⟩] none [24, 25, 26])
  (.region [
  ⟨(some 27), .mov (.tmp 3), none⟩,
  ⟨(some 28), .fieldAddr 1 (some 4) (.tmp 5), none⟩,
  ⟨(some 29), .load (some 4) false (.tmp 28), none⟩,
  ⟨(some 30), .call n_scheme_lettered_meet [(.tmp 27), (.tmp 29)], none⟩] none [5, 27, 28, 29, 30])))
  (.region [
  ⟨(some 31), .bin .add (.tmp 23) (.const (.int .i64 1)), none⟩,
  ⟨(some 23), .mov (.mv 31), none⟩] none [31]))))
def a_scheme_Canon_l1 : ACode :=
  (.seq
  (.region [
  ⟨(some 41), .bin .lss (.tmp 40) (.tmp 39), none⟩] none [])
  (.seq
  (.cond (.tmp 41)
  .skip
  (.exit 2))
  (.seq
  (.block 3
  (.seq
  (.region [
  ⟨(some 42), .mov (.tmp 40), none⟩,
  ⟨(some 43), .indexAddr 1 (.tmp 38) (.tmp 40), none⟩,
  ⟨(some 44), .load none false (.tmp 43), none⟩,
  ⟨(some 8), .mov (.mv 42), none⟩,
  ⟨(some 9), .mov (.mv 44), none⟩] none [41, 42, 43, 44])
  (.seq
  (.region [
  ⟨(some 45), .mov (.mv 7), none⟩,
  ⟨(some 46), .fieldAddr 0 none (.tmp 6), none⟩,
  ⟨(some 47), .load none false (.tmp 46), none⟩,
  ⟨(some 48), .mov (.tmp 8), none⟩,
  ⟨(some 49), .indexAddr 1 (.tmp 47) (.tmp 48), none⟩,
  ⟨(some 50), .load none false (.tmp 49), none⟩,
  ⟨(some 51), .call n_types_Var [(.tmp 50)], none⟩,
  ⟨(some 52), .buildSlice k_api_Type [(.tmp 51)], none⟩,
  ⟨(some 53), .append k_api_Type 56 (.mv 45) (.tmp 52), none⟩,
  ⟨(some 7), .mov (.mv 53), none⟩] none [8, 45, 46, 47, 48, 49, 50, 51, 52, 53])
  (.seq
  (.region [
  ⟨(some 54), .fieldAddr 1 none (.tmp 1), none⟩,
  ⟨(some 55), .load none false (.tmp 54), none⟩,
  ⟨(some 56), .len (.tmp 55), none⟩,
  ⟨(some 57), .fieldAddr 0 none (.tmp 1), none⟩,
  ⟨(some 58), .load none false (.tmp 57), none⟩,
  ⟨(some 59), .len (.tmp 58), none⟩,
  ⟨(some 60), .bin .eql (.tmp 56) (.tmp 59), none⟩] none [54, 55, 56, 57, 58, 59])
  (.cond (.tmp 60)
  (.region [
  ⟨(some 61), .fieldAddr 1 none (.tmp 6), none⟩,
  ⟨(some 62), .loadL none true (.tmp 61), none⟩,
  ⟨(some 63), .fieldAddr 1 none (.tmp 1), none⟩,
  ⟨(some 64), .loadB 1 none (.tmp 63), none⟩,
  ⟨(some 65), .fieldAddr 0 none (.tmp 1), none⟩,
  ⟨(some 66), .loadB 1 none (.tmp 65), none⟩,
  ⟨(some 67), .mov (.tmp 9), none⟩,
  ⟨(some 68), .call n_slices_Index_string [(.tmp 66), (.tmp 67)], none⟩,
  ⟨(some 69), .indexAddr 1 (.tmp 64) (.tmp 68), none⟩,
  ⟨(some 70), .load (some 1) false (.tmp 69), none⟩,
  ⟨(some 71), .call n_scheme_copied [(.tmp 70)], none⟩,
  ⟨(some 72), .buildSlice k_api_Kind [(.tmp 71)], none⟩,
  ⟨(some 73), .append k_api_Kind 24 (.mv 62) (.tmp 72), none⟩,
  ⟨(some 74), .fieldAddr 1 none (.tmp 6), none⟩,
  ⟨none, .storeB 6 1 (.tmp 74) (.mv 73), none⟩] (some [0, 1, 2, 3, 4, 5, 6, 7, 8, 9, 10, 11, 12, 13, 14]) [9, 60, 61, 62, 63, 64, 65, 66, 67, 68, 69, 70, 71, 72, 73, 74])
  .skip)))))
  (.region [
  ⟨(some 75), .bin .add (.tmp 40) (.const (.int .i64 1)), none⟩,
  ⟨(some 40), .mov (.mv 75), none⟩] none [9, 60, 75]))))
/-- fugue/scheme.Canon -/
def a_scheme_Canon : AFun :=
  { nargs := 1, ntmps := 96, res := [.cell 2 (some 7)], gc := false, body :=
  (.seq
  (.region [
  ⟨(some 1), .box (.tmp 0), none⟩,
  ⟨(some 2), .alloc [.nils, .nils, .nils, .int .i64 0, .int .i64 0, .str [], .nils], none⟩] none [0])
  (.seq
  (.region [
  ⟨(some 10), .fieldAddr 0 none (.tmp 1), none⟩,
  ⟨(some 11), .loadB 1 none (.tmp 10), none⟩,
  ⟨(some 12), .loadB 1 (some 7) (.tmp 1), none⟩,
  ⟨(some 13), .call n_scheme_others [(.tmp 12)], none⟩,
  ⟨(some 14), .build [.nils, .nils, .nils, .int .i64 0] [(0, 1, (.tmp 11)), (1, 1, (.tmp 13))], none⟩,
  ⟨(some 15), .gbox t_scheme_lettered (.tmp 14), none⟩,
  ⟨(some 3), .mov (.mv 15), none⟩] (some [0, 1, 2, 3, 4, 5, 6]) [10, 11, 12, 13, 14, 15])
  (.seq
  (.region [
  ⟨(some 16), .mov (.tmp 3), none⟩,
  ⟨(some 17), .fieldAddr 3 (some 4) (.tmp 1), none⟩,
  ⟨(some 18), .load (some 4) false (.tmp 17), none⟩,
  ⟨(some 19), .call n_scheme_lettered_meet [(.tmp 16), (.tmp 18)], none⟩] none [16, 17, 18, 19])
  (.seq
  (.seq
  (.region [
  ⟨(some 20), .fieldAddr 2 none (.tmp 1), none⟩,
  ⟨(some 21), .load none false (.tmp 20), none⟩,
  ⟨(some 22), .len (.tmp 21), none⟩,
  ⟨(some 23), .mov (.const (.int .i64 0)), none⟩] none [20])
  (.block 0
  (.loop a_scheme_Canon_l0)))
  (.seq
  (.region [
  ⟨(some 32), .mov (.tmp 3), none⟩,
  ⟨(some 33), .call n_scheme_lettered_letters [(.tmp 32)], none⟩,
  ⟨(some 34), .build [.nils, .nils, .nils, .int .i64 0, .int .i64 0, .str [], .nils] [(0, 1, (.tmp 33))], none⟩,
  ⟨(some 6), .alloc [.nils, .nils, .nils, .int .i64 0, .int .i64 0, .str [], .nils], none⟩,
  ⟨none, .store 7 (.tmp 6) (.mv 34), none⟩] none [21, 22, 23, 24, 32, 33, 34])
  (.seq
  (.region [
  ⟨(some 7), .mov (.const (.nils)), none⟩] none [])
  (.seq
  (.seq
  (.region [
  ⟨(some 35), .mov (.tmp 3), none⟩,
  ⟨(some 36), .nilCheck (.tmp 35), none⟩,
  ⟨(some 37), .fieldAddr 2 none (.tmp 36), none⟩,
  ⟨(some 38), .load none false (.tmp 37), none⟩,
  ⟨(some 39), .len (.tmp 38), none⟩,
  ⟨(some 40), .mov (.const (.int .i64 0)), none⟩] none [35, 36, 37])
  (.block 2
  (.loop a_scheme_Canon_l1)))
  (.seq
  (.region [
  ⟨(some 77), .loadB 1 (some 7) (.tmp 1), none⟩,
  ⟨(some 78), .mov (.tmp 3), none⟩,
  ⟨(some 79), .nilCheck (.tmp 78), none⟩,
  ⟨(some 80), .fieldAddr 2 none (.tmp 79), none⟩,
  ⟨(some 81), .loadP none (.tmp 80), none⟩,
  ⟨(some 82), .mov (.tmp 7), none⟩,
  ⟨(some 83), .call n_scheme_put [(.tmp 77), (.tmp 81), (.tmp 82)], none⟩,
  ⟨(some 76), .mov (.mv 83), none⟩,
  ⟨(some 84), .extract (.tmp 76) 0, none⟩,
  ⟨(some 85), .extract (.tmp 76) 1, none⟩,
  ⟨(some 86), .fieldAddr 2 none (.tmp 6), none⟩,
  ⟨none, .storeB 6 1 (.tmp 86) (.mv 84), none⟩,
  ⟨(some 87), .fieldAddr 3 (some 4) (.tmp 6), none⟩,
  ⟨none, .storeB 6 4 (.tmp 87) (.mv 85), none⟩] (some [0, 1, 2, 3, 4, 5, 6, 7, 8, 9, 10, 11, 12, 13]) [1, 3, 7, 38, 39, 40, 41, 76, 77, 78, 79, 80, 81, 82, 83, 84, 85, 86, 87])
  (.seq
  (.region [
  ⟨(some 88), .fieldAddr 2 none (.tmp 6), none⟩,
  ⟨(some 89), .load none false (.tmp 88), none⟩,
  ⟨(some 90), .call n_slices_SortStableFunc_Pred [(.tmp 89), (.const (.fn (.func n_scheme_byClass) [] []))], none⟩] none [88, 89, 90])
  (.seq
  (.region [
  ⟨(some 91), .fieldAddr 2 none (.tmp 6), none⟩,
  ⟨(some 92), .load none false (.tmp 91), none⟩,
  ⟨(some 93), .call n_slices_CompactFunc_Pred [(.tmp 92), (.const (.fn (.func n_scheme_Canon_1) [] []))], none⟩,
  ⟨(some 94), .fieldAddr 2 none (.tmp 6), none⟩,
  ⟨none, .store 1 (.tmp 94) (.mv 93), none⟩] none [91, 92, 93, 94])
  (.seq
  (.region [
  ⟨(some 95), .load (some 7) true (.tmp 6), none⟩,
  ⟨none, .store 7 (.tmp 2) (.mv 95), none⟩] none [6, 95])
  .ret))))))))))) }
/-- fugue/types.Print -/
def a_types_Print : AFun :=
  { nargs := 1, ntmps := 5, res := [.tmp 2], gc := false, body :=
  (.seq
  (.region [
  ⟨(some 1), .box (.tmp 0), none⟩,
  ⟨(some 2), .mov (.const (.str [])), none⟩] none [0, 2])
  (.seq
  (.region [
  ⟨(some 3), .load (some 4) false (.tmp 1), none⟩,
  ⟨(some 4), .call n_types_print [(.tmp 3), (.const (.int .i64 0))], none⟩,
  ⟨(some 2), .mov (.mv 4), none⟩] none [1, 3, 4])
  .ret)) }
def a_strings_Join_l0 : ACode :=
  (.seq
  (.region [
  ⟨(some 42), .bin .lss (.tmp 41) (.tmp 40), none⟩] none [])
  (.seq
  (.cond (.tmp 42)
  .skip
  (.exit 1))
  (.seq
  (.block 2
  (.seq
  (.region [
  ⟨(some 43), .indexAddr 1 (.tmp 39) (.tmp 41), none⟩,
  ⟨(some 44), .load none false (.tmp 43), none⟩,
  ⟨(some 7), .mov (.mv 44), none⟩] none [42, 43, 44])
  (.seq
  (.seq
  (.region [
  ⟨(some 45), .mov (.tmp 7), none⟩,
  ⟨(some 46), .lenS (.tmp 45), none⟩,
  ⟨(some 47), .mov (.tmp 5), none⟩,
  ⟨(some 48), .bin .sub (.const (.int .i64 9223372036854775807)) (.tmp 47), none⟩,
  ⟨(some 49), .bin .gtr (.tmp 46) (.tmp 48), none⟩] none [45, 46, 47, 48])
  (.cond (.tmp 49)
  (.region [
  ⟨(some 50), .mkIface t_string (.const (.str [115, 116, 114, 105, 110, 103, 115, 58, 32, 74, 111, 105, 110, 32, 111, 117, 116, 112, 117, 116, 32, 108, 101, 110, 103, 116, 104, 32, 111, 118, 101, 114, 102, 108, 111, 119])), none⟩,
  ⟨none, .panic (.tmp 50), none⟩] none [49, 50])
  .skip))
  (.region [
  ⟨(some 51), .mov (.tmp 5), none⟩,
  ⟨(some 52), .mov (.tmp 7), none⟩,
  ⟨(some 53), .lenS (.tmp 52), none⟩,
  ⟨(some 54), .bin .add (.tmp 51) (.tmp 53), none⟩,
  ⟨(some 5), .mov (.mv 54), none⟩] none [7, 49, 51, 52, 53, 54]))))
  (.region [
  ⟨(some 55), .bin .add (.tmp 41) (.const (.int .i64 1)), none⟩,
  ⟨(some 41), .mov (.mv 55), none⟩] none [55]))))
def a_strings_Join_l1 : ACode :=
  (.seq
  (.region [
  ⟨(some 66), .bin .lss (.tmp 65) (.tmp 64), none⟩] none [])
  (.seq
  (.cond (.tmp 66)
  .skip
  (.exit 3))
  (.seq
  (.block 4
  (.seq
  (.region [
  ⟨(some 67), .indexAddr 1 (.tmp 63) (.tmp 65), none⟩,
  ⟨(some 68), .load none false (.tmp 67), none⟩,
  ⟨(some 10), .mov (.mv 68), none⟩] none [66, 67, 68])
  (.seq
  (.region [
  ⟨(some 69), .mov (.tmp 1), none⟩,
  ⟨(some 70), .call n_strings_Builder_WriteString [(.tmp 8), (.tmp 69)], none⟩] none [69, 70])
  (.region [
  ⟨(some 71), .mov (.tmp 10), none⟩,
  ⟨(some 72), .call n_strings_Builder_WriteString [(.tmp 8), (.tmp 71)], none⟩] none [10, 71, 72]))))
  (.region [
  ⟨(some 73), .bin .add (.tmp 65) (.const (.int .i64 1)), none⟩,
  ⟨(some 65), .mov (.mv 73), none⟩] none [73]))))
/-- strings.Join -/
def a_strings_Join : AFun :=
  { nargs := 2, ntmps := 75, res := [.tmp 4], gc := false, body :=
  (.seq
  (.region [
  ⟨(some 4), .mov (.const (.str [])), none⟩] none [4])
  (.seq
  (.seq
  (.region [
  ⟨(some 11), .mov (.tmp 0), none⟩,
  ⟨(some 12), .len (.tmp 11), none⟩] none [11])
  (.block 0
  (.seq
  (.region [
  ⟨(some 14), .bin .eql (.tmp 12) (.const (.int .i64 0)), none⟩,
  ⟨(some 13), .mov (.mv 14), none⟩] none [14])
  (.cond (.tmp 13)
  (.seq
  (.region [
  ⟨(some 4), .mov (.const (.str [])), none⟩] none [0, 1, 12, 13])
  .ret)
  (.seq
  (.region [
  ⟨(some 16), .bin .eql (.tmp 12) (.const (.int .i64 1)), none⟩,
  ⟨(some 15), .mov (.mv 16), none⟩] none [12, 13, 16])
  (.cond (.tmp 15)
  (.seq
  (.region [
  ⟨(some 17), .mov (.mv 0), none⟩,
  ⟨(some 18), .indexAddr 1 (.tmp 17) (.const (.int .i64 0)), none⟩,
  ⟨(some 19), .load none true (.tmp 18), none⟩,
  ⟨(some 4), .mov (.mv 19), none⟩] none [0, 1, 15, 17, 18, 19])
  .ret)
  .skip))))))
  (.seq
  (.region [
  ⟨(some 5), .mov (.const (.int .i64 0)), none⟩] none [15])
  (.seq
  (.seq
  (.region [
  ⟨(some 20), .mov (.tmp 1), none⟩,
  ⟨(some 21), .lenS (.tmp 20), none⟩,
  ⟨(some 22), .bin .gtr (.tmp 21) (.const (.int .i64 0)), none⟩] none [20, 21])
  (.cond (.tmp 22)
  (.seq
  (.seq
  (.region [
  ⟨(some 23), .mov (.tmp 1), none⟩,
  ⟨(some 24), .lenS (.tmp 23), none⟩,
  ⟨(some 25), .mov (.tmp 0), none⟩,
  ⟨(some 26), .len (.tmp 25), none⟩,
  ⟨(some 27), .bin .sub (.tmp 26) (.const (.int .i64 1)), none⟩,
  ⟨(some 28), .bin .quo (.const (.int .i64 9223372036854775807)) (.tmp 27), none⟩,
  ⟨(some 29), .bin .geq (.tmp 24) (.tmp 28), none⟩] none [22, 23, 24, 25, 26, 27, 28])
  (.cond (.tmp 29)
  (.region [
  ⟨(some 30), .mkIface t_string (.const (.str [115, 116, 114, 105, 110, 103, 115, 58, 32, 74, 111, 105, 110, 32, 111, 117, 116, 112, 117, 116, 32, 108, 101, 110, 103, 116, 104, 32, 111, 118, 101, 114, 102, 108, 111, 119])), none⟩,
  ⟨none, .panic (.tmp 30), none⟩] none [29, 30])
  .skip))
  (.region [
  ⟨(some 31), .mov (.tmp 5), none⟩,
  ⟨(some 32), .mov (.tmp 1), none⟩,
  ⟨(some 33), .lenS (.tmp 32), none⟩,
  ⟨(some 34), .mov (.tmp 0), none⟩,
  ⟨(some 35), .len (.tmp 34), none⟩,
  ⟨(some 36), .bin .sub (.tmp 35) (.const (.int .i64 1)), none⟩,
  ⟨(some 37), .bin .mul (.tmp 33) (.tmp 36), none⟩,
  ⟨(some 38), .bin .add (.tmp 31) (.tmp 37), none⟩,
  ⟨(some 5), .mov (.mv 38), none⟩] none [29, 31, 32, 33, 34, 35, 36, 37, 38]))
  .skip))
  (.seq
  (.seq
  (.region [
  ⟨(some 39), .mov (.tmp 0), none⟩,
  ⟨(some 40), .len (.tmp 39), none⟩,
  ⟨(some 41), .mov (.const (.int .i64 0)), none⟩] none [22])
  (.block 1
  (.loop a_strings_Join_l0)))
  (.seq
  (.region [
  ⟨(some 8), .galloc t_strings_Builder [.nilp, .nils], none⟩] none [39, 40, 41, 42])
  (.seq
  (.region [
  ⟨(some 56), .mov (.tmp 5), none⟩,
  ⟨(some 57), .call n_strings_Builder_Grow [(.tmp 8), (.tmp 56)], none⟩] none [5, 56, 57])
  (.seq
  (.region [
  ⟨(some 58), .mov (.tmp 0), none⟩,
  ⟨(some 59), .indexAddr 1 (.tmp 58) (.const (.int .i64 0)), none⟩,
  ⟨(some 60), .load none false (.tmp 59), none⟩,
  ⟨(some 61), .call n_strings_Builder_WriteString [(.tmp 8), (.tmp 60)], none⟩] none [58, 59, 60, 61])
  (.seq
  (.seq
  (.region [
  ⟨(some 62), .mov (.tmp 0), none⟩,
  ⟨(some 63), .slice 1 (.tmp 62) (some (.const (.int .i64 1))) none, none⟩,
  ⟨(some 64), .len (.tmp 63), none⟩,
  ⟨(some 65), .mov (.const (.int .i64 0)), none⟩] none [0, 62])
  (.block 3
  (.loop a_strings_Join_l1)))
  (.seq
  (.region [
  ⟨(some 74), .call n_strings_Builder_String [(.tmp 8)], none⟩,
  ⟨(some 4), .mov (.mv 74), none⟩] none [1, 8, 63, 64, 65, 66, 74])
  .ret)))))))))) }
/-- fugue/fugueref04.Name -/
def a_r04_Name : AFun :=
  { nargs := 1, ntmps := 8, res := [.tmp 2], gc := false, body :=
  (.seq
  (.region [
  ⟨(some 2), .mov (.const (.str [])), none⟩] none [2])
  (.seq
  (.region [
  ⟨(some 3), .buildSlice k_string [(.const (.str [97])), (.const (.str [98])), (.const (.str [99])), (.const (.str [120]))], none⟩,
  ⟨(some 4), .mov (.mv 0), none⟩,
  ⟨(some 5), .call n_r01_Around [(.tmp 4), (.const (.int .i64 4))], none⟩,
  ⟨(some 6), .indexAddr 1 (.tmp 3) (.tmp 5), none⟩,
  ⟨(some 7), .load none true (.tmp 6), none⟩,
  ⟨(some 2), .mov (.mv 7), none⟩] none [0, 3, 4, 5, 6, 7])
  .ret)) }
/-- fugue/fugueref04.Con -/
def a_r04_Con : AFun :=
  { nargs := 1, ntmps := 8, res := [.tmp 2], gc := false, body :=
  (.seq
  (.region [
  ⟨(some 2), .mov (.const (.str [])), none⟩] none [2])
  (.seq
  (.region [
  ⟨(some 3), .buildSlice k_string [(.const (.str [73, 110, 116])), (.const (.str [66, 111, 111, 108])), (.const (.str [76])), (.const (.str [80])), (.const (.str [70])), (.const (.str [45, 62]))], none⟩,
  ⟨(some 4), .mov (.mv 0), none⟩,
  ⟨(some 5), .call n_r01_Around [(.tmp 4), (.const (.int .i64 6))], none⟩,
  ⟨(some 6), .indexAddr 1 (.tmp 3) (.tmp 5), none⟩,
  ⟨(some 7), .load none true (.tmp 6), none⟩,
  ⟨(some 2), .mov (.mv 7), none⟩] none [0, 3, 4, 5, 6, 7])
  .ret)) }
/-- fugue/fugueref04.Fun -/
def a_r04_Fun : AFun :=
  { nargs := 2, ntmps := 10, res := [.cell 4 (some 4)], gc := false, body :=
  (.seq
  (.region [
  ⟨(some 2), .box (.tmp 0), none⟩,
  ⟨(some 3), .box (.tmp 1), none⟩,
  ⟨(some 4), .alloc [.int .i64 0, .int .i64 0, .str [], .nils], none⟩] none [0, 1])
  (.seq
  (.region [
  ⟨(some 5), .build [.int .i64 0, .int .i64 0, .str [], .nils] [(0, 1, (.const (.int .i64 3))), (2, 1, (.const (.str [45, 62])))], none⟩,
  ⟨(some 6), .loadB 2 (some 4) (.tmp 2), none⟩,
  ⟨(some 8), .loadB 3 (some 4) (.tmp 3), none⟩,
  ⟨(some 7), .call n_r04_app [(.tmp 5), (.tmp 6)], none⟩,
  ⟨(some 9), .call n_r04_app [(.tmp 7), (.tmp 8)], none⟩,
  ⟨none, .storeB 4 4 (.tmp 4) (.mv 9), none⟩] (some [0, 1, 3, 2, 4, 5]) [2, 3, 5, 6, 7, 8, 9])
  .ret)) }
/-- fugue/fugueref04.app -/
def a_r04_app : AFun :=
  { nargs := 2, ntmps := 9, res := [.cell 4 (some 4)], gc := false, body :=
  (.seq
  (.region [
  ⟨(some 2), .box (.tmp 0), none⟩,
  ⟨(some 3), .box (.tmp 1), none⟩,
  ⟨(some 4), .alloc [.int .i64 0, .int .i64 0, .str [], .nils], none⟩] none [0, 1])
  (.seq
  (.region [
  ⟨(some 5), .load (some 4) false (.tmp 2), none⟩,
  ⟨(some 6), .load (some 4) false (.tmp 3), none⟩,
  ⟨(some 7), .buildSlice k_api_Type [(.tmp 5), (.tmp 6)], none⟩,
  ⟨(some 8), .build [.int .i64 0, .int .i64 0, .str [], .nils] [(0, 1, (.const (.int .i64 4))), (3, 1, (.tmp 7))], none⟩,
  ⟨none, .store 4 (.tmp 4) (.mv 8), none⟩] none [2, 3, 5, 6, 7, 8])
  .ret)) }
def a_types_Free_l0 : ACode :=
  (.seq
  (.region [
  ⟨(some 25), .bin .lss (.tmp 24) (.tmp 23), none⟩] none [])
  (.seq
  (.cond (.tmp 25)
  .skip
  (.exit 2))
  (.seq
  (.block 3
  (.seq
  (.region [
  ⟨(some 26), .indexAddr 1 (.tmp 22) (.tmp 24), none⟩,
  ⟨(some 27), .load none false (.tmp 26), none⟩,
  ⟨(some 7), .mov (.mv 27), none⟩] none [25, 26, 27])
  (.seq
  (.region [
  ⟨(some 28), .mov (.tmp 3), none⟩,
  ⟨(some 29), .mov (.tmp 7), none⟩,
  ⟨(some 30), .call n_slices_Contains_string [(.tmp 28), (.tmp 29)], none⟩,
  ⟨(some 31), .un .not (.tmp 30), none⟩,
  ⟨(some 32), .mov (.mv 31), none⟩,
  ⟨(some 33), .fieldAddr 0 none (.tmp 1), (some (32, true))⟩,
  ⟨(some 34), .load none false (.tmp 33), (some (32, true))⟩,
  ⟨(some 35), .bin .neq (.tmp 34) (.const (.int .i64 5)), (some (32, true))⟩,
  ⟨(some 36), .mov (.mv 35), (some (32, true))⟩,
  ⟨(some 37), .mov (.tmp 7), (some (36, false))⟩,
  ⟨(some 38), .fieldAddr 2 none (.tmp 1), (some (36, false))⟩,
  ⟨(some 39), .load none false (.tmp 38), (some (36, false))⟩,
  ⟨(some 40), .bin .neq (.tmp 37) (.tmp 39), (some (36, false))⟩,
  ⟨(some 41), .pick (.tmp 36) (.const (.bool true)) (.tmp 40), (some (32, true))⟩,
  ⟨(some 42), .pick (.tmp 32) (.tmp 41) (.const (.bool false)), none⟩] none [28, 29, 30, 31, 32, 33, 34, 35, 36, 37, 38, 39, 40, 41])
  (.cond (.tmp 42)
  (.region [
  ⟨(some 43), .mov (.mv 3), none⟩,
  ⟨(some 44), .mov (.tmp 7), none⟩,
  ⟨(some 45), .buildA k_string [(.tmp 44)], none⟩,
  ⟨(some 46), .appendA k_string 16 (.mv 43) (.tmp 45), none⟩,
  ⟨(some 3), .mov (.mv 46), none⟩] none [7, 42, 43, 44, 45, 46])
  .skip))))
  (.region [
  ⟨(some 47), .bin .add (.tmp 24) (.const (.int .i64 1)), none⟩,
  ⟨(some 24), .mov (.mv 47), none⟩] none [7, 42, 47]))))
def a_types_Free_l1 : ACode :=
  (.seq
  (.region [
  ⟨(some 18), .bin .lss (.tmp 17) (.tmp 16), none⟩] none [])
  (.seq
  (.cond (.tmp 18)
  .skip
  (.exit 0))
  (.seq
  (.block 1
  (.seq
  (.region [
  ⟨(some 19), .indexAddr 4 (.tmp 15) (.tmp 17), none⟩,
  ⟨(some 20), .load (some 4) false (.tmp 19), none⟩,
  ⟨(some 5), .alloc [.int .i64 0, .int .i64 0, .str [], .nils], none⟩,
  ⟨none, .store 4 (.tmp 5) (.mv 20), none⟩] none [18, 19, 20])
  (.seq
  (.region [
  ⟨(some 21), .load (some 4) false (.tmp 5), none⟩,
  ⟨(some 22), .call n_types_Free [(.tmp 21)], none⟩,
  ⟨(some 23), .len (.tmp 22), none⟩,
  ⟨(some 24), .mov (.const (.int .i64 0)), none⟩] none [5, 21])
  (.block 2
  (.loop a_types_Free_l0)))))
  (.region [
  ⟨(some 48), .bin .add (.tmp 17) (.const (.int .i64 1)), none⟩,
  ⟨(some 17), .mov (.mv 48), none⟩] none [22, 23, 24, 25, 48]))))
/-- fugue/types.Free -/
def a_types_Free : AFun :=
  { nargs := 1, ntmps := 50, res := [.tmp 2], gc := false, body :=
  (.seq
  (.region [
  ⟨(some 1), .box (.tmp 0), none⟩,
  ⟨(some 2), .mov (.const (.nils)), none⟩] none [0, 2])
  (.seq
  (.seq
  (.region [
  ⟨(some 8), .fieldAddr 0 none (.tmp 1), none⟩,
  ⟨(some 9), .load none false (.tmp 8), none⟩,
  ⟨(some 10), .bin .eql (.tmp 9) (.const (.int .i64 2)), none⟩] none [8, 9])
  (.cond (.tmp 10)
  (.seq
  (.region [
  ⟨(some 11), .fieldAddr 2 none (.tmp 1), none⟩,
  ⟨(some 12), .load none false (.tmp 11), none⟩,
  ⟨(some 13), .buildA k_string [(.tmp 12)], none⟩,
  ⟨(some 2), .mov (.mv 13), none⟩] none [1, 10, 11, 12, 13])
  .ret)
  .skip))
  (.seq
  (.region [
  ⟨(some 3), .mov (.const (.nils)), none⟩] none [10])
  (.seq
  (.seq
  (.region [
  ⟨(some 14), .fieldAddr 3 none (.tmp 1), none⟩,
  ⟨(some 15), .load none false (.tmp 14), none⟩,
  ⟨(some 16), .len (.tmp 15), none⟩,
  ⟨(some 17), .mov (.const (.int .i64 0)), none⟩] none [14])
  (.block 0
  (.loop a_types_Free_l1)))
  (.seq
  (.region [
  ⟨(some 49), .mov (.mv 3), none⟩,
  ⟨(some 2), .mov (.mv 49), none⟩] none [1, 3, 15, 16, 17, 18, 49])
  .ret))))) }
/-- slices.Contains[[]string,string] -/
def a_slices_Contains_string : AFun :=
  { nargs := 2, ntmps := 9, res := [.tmp 4], gc := false, body :=
  (.seq
  (.region [
  ⟨(some 4), .mov (.const (.bool false)), none⟩] none [4])
  (.seq
  (.region [
  ⟨(some 5), .mov (.mv 0), none⟩,
  ⟨(some 6), .mov (.mv 1), none⟩,
  ⟨(some 7), .call n_slices_Index_string [(.tmp 5), (.tmp 6)], none⟩,
  ⟨(some 8), .bin .geq (.tmp 7) (.const (.int .i64 0)), none⟩,
  ⟨(some 4), .mov (.mv 8), none⟩] none [0, 1, 5, 6, 7, 8])
  .ret)) }
def a_types_letter_l0 : ACode :=
  (.seq
  (.region [
  ⟨(some 9), .bin .lss (.tmp 8) (.tmp 7), none⟩] none [])
  (.seq
  (.cond (.tmp 9)
  .skip
  (.exit 0))
  (.seq
  (.block 1
  (.seq
  (.region [
  ⟨(some 10), .mov (.tmp 8), none⟩,
  ⟨(some 3), .mov (.mv 10), none⟩] none [9, 10])
  (.seq
  (.region [
  ⟨(some 11), .mov (.tmp 3), none⟩,
  ⟨(some 12), .call n_chars_Letters [(.tmp 11)], none⟩,
  ⟨(some 4), .mov (.mv 12), none⟩] none [3, 11, 12])
  (.seq
  (.region [
  ⟨(some 13), .mov (.tmp 0), none⟩,
  ⟨(some 14), .mov (.tmp 4), none⟩,
  ⟨(some 15), .call n_slices_Contains_string [(.tmp 13), (.tmp 14)], none⟩,
  ⟨(some 16), .un .not (.tmp 15), none⟩] none [13, 14, 15])
  (.cond (.tmp 16)
  (.seq
  (.region [
  ⟨(some 17), .mov (.mv 4), none⟩,
  ⟨(some 2), .mov (.mv 17), none⟩] none [0, 4, 7, 8, 16, 17])
  .ret)
  .skip)))))
  (.region [
  ⟨(some 18), .bin .add (.tmp 8) (.const (.int .i64 1)), none⟩,
  ⟨(some 8), .mov (.mv 18), none⟩] none [4, 16, 18]))))
/-- fugue/types.letter -/
def a_types_letter : AFun :=
  { nargs := 1, ntmps := 19, res := [.tmp 2], gc := false, body :=
  (.seq
  (.region [
  ⟨(some 2), .mov (.const (.str [])), none⟩] none [2])
  (.seq
  (.seq
  (.region [
  ⟨(some 5), .mov (.tmp 0), none⟩,
  ⟨(some 6), .len (.tmp 5), none⟩,
  ⟨(some 7), .bin .add (.tmp 6) (.const (.int .i64 1)), none⟩,
  ⟨(some 8), .mov (.const (.int .i64 0)), none⟩] none [5, 6])
  (.block 0
  (.loop a_types_letter_l0)))
  (.seq
  (.region [
  ⟨(some 2), .mov (.const (.str [])), none⟩] none [0, 7, 8, 9])
  .ret))) }
/-- fugue/types.All -/
def a_types_All : AFun :=
  { nargs := 2, ntmps := 10, res := [.cell 4 (some 4)], gc := false, body :=
  (.seq
  (.region [
  ⟨(some 3), .box (.tmp 1), none⟩,
  ⟨(some 4), .alloc [.int .i64 0, .int .i64 0, .str [], .nils], none⟩] none [1])
  (.seq
  (.region [
  ⟨(some 5), .mov (.mv 0), none⟩,
  ⟨(some 6), .load (some 4) false (.tmp 3), none⟩,
  ⟨(some 7), .call n_types_own [(.tmp 6)], none⟩,
  ⟨(some 8), .buildSlice k_api_Type [(.tmp 7)], none⟩,
  ⟨(some 9), .build [.int .i64 0, .int .i64 0, .str [], .nils] [(0, 1, (.const (.int .i64 5))), (2, 1, (.tmp 5)), (3, 1, (.tmp 8))], none⟩,
  ⟨none, .store 4 (.tmp 4) (.mv 9), none⟩] none [0, 3, 5, 6, 7, 8, 9])
  .ret)) }
def a_scheme_others_l0 : ACode :=
  (.seq
  (.region [
  ⟨(some 13), .bin .lss (.tmp 12) (.tmp 11), none⟩] none [])
  (.seq
  (.cond (.tmp 13)
  .skip
  (.exit 0))
  (.seq
  (.block 1
  (.seq
  (.region [
  ⟨(some 14), .indexAddr 5 (.tmp 10) (.tmp 12), none⟩,
  ⟨(some 15), .load (some 5) false (.tmp 14), none⟩,
  ⟨(some 5), .alloc [.str [], .int .i64 0, .int .i64 0, .str [], .nils], none⟩,
  ⟨none, .store 5 (.tmp 5) (.mv 15), none⟩] none [13, 14, 15])
  (.region [
  ⟨(some 16), .mov (.mv 3), none⟩,
  ⟨(some 17), .fieldAddr 1 (some 4) (.tmp 5), none⟩,
  ⟨(some 18), .load (some 4) false (.tmp 17), none⟩,
  ⟨(some 19), .call n_types_Free [(.tmp 18)], none⟩,
  ⟨(some 20), .appendA k_string 16 (.mv 16) (.tmp 19), none⟩,
  ⟨(some 3), .mov (.mv 20), none⟩] none [5, 16, 17, 18, 19, 20])))
  (.region [
  ⟨(some 21), .bin .add (.tmp 12) (.const (.int .i64 1)), none⟩,
  ⟨(some 12), .mov (.mv 21), none⟩] none [21]))))
/-- fugue/scheme.others -/
def a_scheme_others : AFun :=
  { nargs := 1, ntmps := 25, res := [.tmp 2], gc := false, body :=
  (.seq
  (.region [
  ⟨(some 1), .gbox t_api_Scheme (.tmp 0), none⟩,
  ⟨(some 2), .mov (.const (.nils)), none⟩] none [0, 2])
  (.seq
  (.region [
  ⟨(some 6), .fieldAddr 3 (some 4) (.tmp 1), none⟩,
  ⟨(some 7), .load (some 4) false (.tmp 6), none⟩,
  ⟨(some 8), .call n_types_Free [(.tmp 7)], none⟩,
  ⟨(some 3), .mov (.mv 8), none⟩] none [6, 7, 8])
  (.seq
  (.seq
  (.region [
  ⟨(some 9), .fieldAddr 2 none (.tmp 1), none⟩,
  ⟨(some 10), .load none false (.tmp 9), none⟩,
  ⟨(some 11), .len (.tmp 10), none⟩,
  ⟨(some 12), .mov (.const (.int .i64 0)), none⟩] none [9])
  (.block 0
  (.loop a_scheme_others_l0)))
  (.seq
  (.region [
  ⟨(some 22), .mov (.mv 3), none⟩,
  ⟨(some 23), .mkFunc (.func n_scheme_others_1) [] [(.tmp 1)], none⟩,
  ⟨(some 24), .call n_slices_DeleteFunc_string [(.tmp 22), (.tmp 23)], none⟩,
  ⟨(some 2), .mov (.mv 24), none⟩] none [1, 3, 10, 11, 12, 13, 22, 23, 24])
  .ret)))) }
def a_scheme_lettered_meet_l0 : ACode :=
  (.seq
  (.region [
  ⟨(some 10), .bin .lss (.tmp 9) (.tmp 8), none⟩] none [])
  (.seq
  (.cond (.tmp 10)
  .skip
  (.exit 0))
  (.seq
  (.block 1
  (.seq
  (.region [
  ⟨(some 11), .indexAddr 1 (.tmp 7) (.tmp 9), none⟩,
  ⟨(some 12), .load none false (.tmp 11), none⟩,
  ⟨(some 5), .mov (.mv 12), none⟩] none [10, 11, 12])
  (.seq
  (.region [
  ⟨(some 13), .mov (.tmp 0), none⟩,
  ⟨(some 14), .nilCheck (.tmp 13), none⟩,
  ⟨(some 15), .fieldAddr 0 none (.tmp 14), none⟩,
  ⟨(some 16), .load none false (.tmp 15), none⟩,
  ⟨(some 17), .mov (.tmp 5), none⟩,
  ⟨(some 18), .call n_slices_Contains_string [(.tmp 16), (.tmp 17)], none⟩,
  ⟨(some 19), .mov (.mv 18), none⟩,
  ⟨(some 20), .mov (.tmp 0), (some (19, true))⟩,
  ⟨(some 21), .nilCheck (.tmp 20), (some (19, true))⟩,
  ⟨(some 22), .fieldAddr 2 none (.tmp 21), (some (19, true))⟩,
  ⟨(some 23), .load none false (.tmp 22), (some (19, true))⟩,
  ⟨(some 24), .mov (.tmp 5), (some (19, true))⟩,
  ⟨(some 25), .call n_slices_Contains_string [(.tmp 23), (.tmp 24)], (some (19, true))⟩,
  ⟨(some 26), .un .not (.tmp 25), (some (19, true))⟩,
  ⟨(some 27), .pick (.tmp 19) (.tmp 26) (.const (.bool false)), none⟩] none [13, 14, 15, 16, 17, 18, 19, 20, 21, 22, 23, 24, 25, 26])
  (.cond (.tmp 27)
  (.region [
  ⟨(some 28), .mov (.tmp 0), none⟩,
  ⟨(some 29), .mov (.tmp 0), none⟩,
  ⟨(some 30), .nilCheck (.tmp 29), none⟩,
  ⟨(some 31), .fieldAddr 2 none (.tmp 30), none⟩,
  ⟨(some 32), .load none true (.tmp 31), none⟩,
  ⟨(some 33), .mov (.tmp 5), none⟩,
  ⟨(some 34), .buildSlice k_string [(.tmp 33)], none⟩,
  ⟨(some 35), .append k_string 16 (.mv 32) (.tmp 34), none⟩,
  ⟨(some 36), .nilCheck (.tmp 28), none⟩,
  ⟨(some 37), .fieldAddr 2 none (.tmp 36), none⟩,
  ⟨none, .store 1 (.tmp 37) (.mv 35), none⟩] none [5, 27, 28, 29, 30, 31, 32, 33, 34, 35, 36, 37])
  .skip))))
  (.region [
  ⟨(some 38), .bin .add (.tmp 9) (.const (.int .i64 1)), none⟩,
  ⟨(some 9), .mov (.mv 38), none⟩] none [5, 27, 38]))))
/-- (*fugue/scheme.lettered).meet -/
def a_scheme_lettered_meet : AFun :=
  { nargs := 2, ntmps := 39, res := [], gc := false, body :=
  (.seq
  (.region [
  ⟨(some 3), .box (.tmp 1), none⟩] none [1])
  (.seq
  (.region [
  ⟨(some 6), .load (some 4) false (.tmp 3), none⟩,
  ⟨(some 7), .call n_types_Free [(.tmp 6)], none⟩,
  ⟨(some 8), .len (.tmp 7), none⟩,
  ⟨(some 9), .mov (.const (.int .i64 0)), none⟩] none [3, 6])
  (.block 0
  (.loop a_scheme_lettered_meet_l0)))) }
def a_scheme_lettered_letters_l0 : ACode :=
  (.seq
  (.region [
  ⟨(some 12), .bin .lss (.tmp 11) (.tmp 10), none⟩] none [])
  (.seq
  (.cond (.tmp 12)
  .skip
  (.exit 0))
  (.seq
  (.block 1
  (.region [
  ⟨(some 13), .mov (.mv 4), none⟩,
  ⟨(some 14), .mov (.tmp 3), none⟩,
  ⟨(some 15), .callv (.tmp 14) [], none⟩,
  ⟨(some 16), .buildSlice k_string [(.tmp 15)], none⟩,
  ⟨(some 17), .append k_string 16 (.mv 13) (.tmp 16), none⟩,
  ⟨(some 4), .mov (.mv 17), none⟩] none [12, 13, 14, 15, 16, 17]))
  (.region [
  ⟨(some 18), .bin .add (.tmp 11) (.const (.int .i64 1)), none⟩,
  ⟨(some 11), .mov (.mv 18), none⟩] none [18]))))
/-- (*fugue/scheme.lettered).letters -/
def a_scheme_lettered_letters : AFun :=
  { nargs := 1, ntmps := 20, res := [.tmp 2], gc := false, body :=
  (.seq
  (.region [
  ⟨(some 1), .gbox t_P_scheme_lettered (.tmp 0), none⟩,
  ⟨(some 2), .mov (.const (.nils)), none⟩] none [0, 2])
  (.seq
  (.region [
  ⟨(some 5), .mkFunc (.func n_scheme_lettered_letters_1) [] [(.tmp 1)], none⟩,
  ⟨(some 3), .mov (.mv 5), none⟩] none [5])
  (.seq
  (.region [
  ⟨(some 4), .mov (.const (.nils)), none⟩] none [])
  (.seq
  (.seq
  (.region [
  ⟨(some 6), .load none false (.tmp 1), none⟩,
  ⟨(some 7), .nilCheck (.tmp 6), none⟩,
  ⟨(some 8), .fieldAddr 2 none (.tmp 7), none⟩,
  ⟨(some 9), .load none false (.tmp 8), none⟩,
  ⟨(some 10), .len (.tmp 9), none⟩,
  ⟨(some 11), .mov (.const (.int .i64 0)), none⟩] none [1, 6, 7, 8, 9])
  (.block 0
  (.loop a_scheme_lettered_letters_l0)))
  (.seq
  (.region [
  ⟨(some 19), .mov (.mv 4), none⟩,
  ⟨(some 2), .mov (.mv 19), none⟩] none [3, 4, 10, 11, 12, 19])
  .ret))))) }
end Go.Fu

