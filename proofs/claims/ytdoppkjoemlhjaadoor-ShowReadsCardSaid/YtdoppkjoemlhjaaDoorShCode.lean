/-
  The program's own functions as the machine's code (printed by gen.py), and their fit.
-/
import Derived.Test.YtdoppkjoemlhjaaDoorProg
import Derived.Test.YtdoppkjoemlhjaaDoorMxRow
set_option linter.unusedSimpArgs false
set_option linter.unusedVariables false
namespace Go.Proofs.YtdoppkjoemlhjaaDoor.Sh
open Go Go.Mx
/-- fugue/fuguelaw29.ShowPrints -/
def a3 : AFun :=
  { nargs := 2, ntmps := 27, res := [.tmp 4], gc := false, body :=
  (.seq
  (.region [
  ⟨(some 4), .mov (.const (.bool false)), none⟩] none [4])
  (.seq
  (.region [
  ⟨(some 7), .mov (.tmp 0), none⟩,
  ⟨(some 8), .call 10 [(.tmp 7)], none⟩,
  ⟨(some 5), .alloc [.int .i64 0, .int .i64 0, .str [], .nils], none⟩,
  ⟨none, .store 4 (.tmp 5) (.mv 8), none⟩] none [7, 8])
  (.seq
  (.region [
  ⟨(some 9), .mov (.tmp 0), none⟩,
  ⟨(some 10), .mov (.tmp 1), none⟩,
  ⟨(some 11), .call 11 [(.tmp 9), (.tmp 10)], none⟩,
  ⟨(some 6), .alloc [.int .i64 0, .int .i64 0, .str [], .nils], none⟩,
  ⟨none, .store 4 (.tmp 6) (.mv 11), none⟩] none [0, 1, 9, 10, 11])
  (.seq
  (.region [
  ⟨(some 12), .loadL (some 4) false (.tmp 5), none⟩,
  ⟨(some 14), .loadL (some 4) false (.tmp 5), none⟩,
  ⟨(some 13), .call 12 [(.tmp 12)], none⟩,
  ⟨(some 15), .call 13 [(.tmp 14)], none⟩,
  ⟨(some 16), .bin .eql (.tmp 13) (.tmp 15), none⟩,
  ⟨(some 17), .mov (.mv 16), none⟩,
  ⟨(some 18), .loadL (some 4) false (.tmp 6), (some (17, true))⟩,
  ⟨(some 20), .loadL (some 4) false (.tmp 6), (some (17, true))⟩,
  ⟨(some 19), .call 12 [(.tmp 18)], (some (17, true))⟩,
  ⟨(some 21), .call 13 [(.tmp 20)], (some (17, true))⟩,
  ⟨(some 22), .bin .eql (.tmp 19) (.tmp 21), (some (17, true))⟩,
  ⟨(some 23), .pick (.tmp 17) (.tmp 22) (.const (.bool false)), none⟩,
  ⟨(some 24), .mov (.mv 23), none⟩,
  ⟨(some 25), .call 14 [], (some (24, true))⟩,
  ⟨(some 26), .pick (.tmp 24) (.tmp 25) (.const (.bool false)), none⟩,
  ⟨(some 4), .mov (.mv 26), none⟩] (some [0, 2, 1, 3, 4, 5, 6, 8, 7, 9, 10, 11, 12, 13, 14, 15]) [5, 6, 12, 13, 14, 15, 16, 17, 18, 19, 20, 21, 22, 23, 24, 25, 26])
  .ret)))) }

/-- fugue/fuguelaw29.ShowReads -/
def a4 : AFun :=
  { nargs := 1, ntmps := 34, res := [.tmp 2], gc := false, body :=
  (.seq
  (.region [
  ⟨(some 2), .mov (.const (.bool false)), none⟩] none [2])
  (.seq
  (.seq
  (.region [
  ⟨(some 8), .mov (.tmp 0), none⟩,
  ⟨(some 9), .lenS (.tmp 8), none⟩,
  ⟨(some 10), .bin .gtr (.tmp 9) (.const (.int .i64 400)), none⟩] none [8, 9])
  (.cond (.tmp 10)
  (.seq
  (.region [
  ⟨(some 11), .call 14 [], none⟩,
  ⟨(some 2), .mov (.mv 11), none⟩] none [0, 10, 11])
  .ret)
  .skip))
  (.seq
  (.region [
  ⟨(some 13), .mov (.tmp 0), none⟩,
  ⟨(some 14), .call 15 [(.tmp 13)], none⟩,
  ⟨(some 12), .mov (.mv 14), none⟩,
  ⟨(some 15), .extract (.tmp 12) 0, none⟩,
  ⟨(some 16), .extract (.tmp 12) 1, none⟩,
  ⟨(some 3), .alloc [.int .i64 0, .int .i64 0, .str [], .nils], none⟩,
  ⟨none, .store 4 (.tmp 3) (.mv 15), none⟩,
  ⟨(some 4), .mov (.mv 16), none⟩] none [10, 12, 13, 14, 15, 16])
  (.seq
  (.region [
  ⟨(some 18), .mov (.tmp 0), none⟩,
  ⟨(some 19), .call 16 [(.tmp 18)], none⟩,
  ⟨(some 17), .mov (.mv 19), none⟩,
  ⟨(some 20), .extract (.tmp 17) 0, none⟩,
  ⟨(some 21), .extract (.tmp 17) 1, none⟩,
  ⟨(some 5), .alloc [.int .i64 0, .int .i64 0, .str [], .nils], none⟩,
  ⟨none, .store 4 (.tmp 5) (.mv 20), none⟩,
  ⟨(some 6), .mov (.mv 21), none⟩] none [0, 17, 18, 19, 20, 21])
  (.seq
  (.region [
  ⟨(some 22), .load (some 4) false (.tmp 3), none⟩,
  ⟨(some 23), .load (some 4) false (.tmp 5), none⟩,
  ⟨(some 24), .call 17 [(.tmp 22), (.tmp 23)], none⟩,
  ⟨(some 7), .mov (.mv 24), none⟩] none [3, 5, 22, 23, 24])
  (.seq
  (.region [
  ⟨(some 25), .mov (.mv 4), none⟩,
  ⟨(some 26), .mov (.mv 6), none⟩,
  ⟨(some 27), .bin .eql (.tmp 25) (.tmp 26), none⟩,
  ⟨(some 28), .mov (.mv 27), none⟩,
  ⟨(some 29), .mov (.mv 7), (some (28, true))⟩,
  ⟨(some 30), .pick (.tmp 28) (.tmp 29) (.const (.bool false)), none⟩,
  ⟨(some 31), .mov (.mv 30), none⟩,
  ⟨(some 32), .call 14 [], (some (31, true))⟩,
  ⟨(some 33), .pick (.tmp 31) (.tmp 32) (.const (.bool false)), none⟩,
  ⟨(some 2), .mov (.mv 33), none⟩] none [4, 6, 7, 25, 26, 27, 28, 29, 30, 31, 32, 33])
  .ret)))))) }

/-- fugue/fuguelaw29.ShowRound -/
def a5 : AFun :=
  { nargs := 2, ntmps := 51, res := [.tmp 4], gc := false, body :=
  (.seq
  (.region [
  ⟨(some 4), .mov (.const (.bool false)), none⟩] none [4])
  (.seq
  (.region [
  ⟨(some 11), .mov (.tmp 0), none⟩,
  ⟨(some 12), .call 10 [(.tmp 11)], none⟩,
  ⟨(some 5), .alloc [.int .i64 0, .int .i64 0, .str [], .nils], none⟩,
  ⟨none, .store 4 (.tmp 5) (.mv 12), none⟩] none [0, 11, 12])
  (.seq
  (.region [
  ⟨(some 13), .mov (.tmp 1), none⟩,
  ⟨(some 14), .call 10 [(.tmp 13)], none⟩,
  ⟨(some 6), .alloc [.int .i64 0, .int .i64 0, .str [], .nils], none⟩,
  ⟨none, .store 4 (.tmp 6) (.mv 14), none⟩] none [1, 13, 14])
  (.seq
  (.region [
  ⟨(some 15), .load (some 4) false (.tmp 5), none⟩,
  ⟨(some 16), .call 12 [(.tmp 15)], none⟩,
  ⟨(some 7), .mov (.mv 16), none⟩] none [15, 16])
  (.seq
  (.seq
  (.region [
  ⟨(some 17), .mov (.tmp 7), none⟩,
  ⟨(some 18), .bin .eql (.tmp 17) (.const (.str [])), none⟩] none [17])
  (.cond (.tmp 18)
  (.seq
  (.region [
  ⟨(some 19), .load (some 4) false (.tmp 5), none⟩,
  ⟨(some 20), .call 18 [(.tmp 19)], none⟩,
  ⟨(some 21), .un .not (.tmp 20), none⟩,
  ⟨(some 22), .mov (.mv 21), none⟩,
  ⟨(some 23), .call 14 [], (some (22, true))⟩,
  ⟨(some 24), .pick (.tmp 22) (.tmp 23) (.const (.bool false)), none⟩,
  ⟨(some 4), .mov (.mv 24), none⟩] none [5, 6, 7, 18, 19, 20, 21, 22, 23, 24])
  .ret)
  .skip))
  (.seq
  (.region [
  ⟨(some 26), .mov (.tmp 7), none⟩,
  ⟨(some 27), .call 15 [(.tmp 26)], none⟩,
  ⟨(some 25), .mov (.mv 27), none⟩,
  ⟨(some 28), .extract (.tmp 25) 0, none⟩,
  ⟨(some 29), .extract (.tmp 25) 1, none⟩,
  ⟨(some 8), .alloc [.int .i64 0, .int .i64 0, .str [], .nils], none⟩,
  ⟨none, .store 4 (.tmp 8) (.mv 28), none⟩,
  ⟨(some 9), .mov (.mv 29), none⟩] none [18, 25, 26, 27, 28, 29])
  (.seq
  (.region [
  ⟨(some 30), .load (some 4) false (.tmp 5), none⟩,
  ⟨(some 31), .load (some 4) false (.tmp 6), none⟩,
  ⟨(some 32), .call 17 [(.tmp 30), (.tmp 31)], none⟩,
  ⟨(some 10), .mov (.mv 32), none⟩] none [30, 31, 32])
  (.seq
  (.region [
  ⟨(some 33), .mov (.mv 9), none⟩,
  ⟨(some 34), .bin .eql (.tmp 33) (.const (.int .i64 0)), none⟩,
  ⟨(some 35), .mov (.mv 34), none⟩,
  ⟨(some 36), .load (some 4) false (.tmp 8), (some (35, true))⟩,
  ⟨(some 37), .load (some 4) false (.tmp 5), (some (35, true))⟩,
  ⟨(some 38), .call 19 [(.tmp 36), (.tmp 37)], (some (35, true))⟩,
  ⟨(some 39), .pick (.tmp 35) (.tmp 38) (.const (.bool false)), none⟩,
  ⟨(some 40), .mov (.mv 39), none⟩,
  ⟨(some 41), .mov (.mv 7), (some (40, true))⟩,
  ⟨(some 42), .load (some 4) false (.tmp 6), (some (40, true))⟩,
  ⟨(some 43), .call 12 [(.tmp 42)], (some (40, true))⟩,
  ⟨(some 44), .bin .eql (.tmp 41) (.tmp 43), (some (40, true))⟩,
  ⟨(some 45), .mov (.mv 10), (some (40, true))⟩,
  ⟨(some 46), .binB .eql (.tmp 44) (.tmp 45), (some (40, true))⟩,
  ⟨(some 47), .pick (.tmp 40) (.tmp 46) (.const (.bool false)), none⟩,
  ⟨(some 48), .mov (.mv 47), none⟩,
  ⟨(some 49), .call 14 [], (some (48, true))⟩,
  ⟨(some 50), .pick (.tmp 48) (.tmp 49) (.const (.bool false)), none⟩,
  ⟨(some 4), .mov (.mv 50), none⟩] none [5, 6, 7, 8, 9, 10, 33, 34, 35, 36, 37, 38, 39, 40, 41, 42, 43, 44, 45, 46, 47, 48, 49, 50])
  .ret)))))))) }

/-- fugue/fuguelaw29.ShowSame -/
def a6 : AFun :=
  { nargs := 3, ntmps := 49, res := [.tmp 6], gc := false, body :=
  (.seq
  (.region [
  ⟨(some 6), .mov (.const (.bool false)), none⟩] none [6])
  (.seq
  (.region [
  ⟨(some 12), .mov (.tmp 0), none⟩,
  ⟨(some 13), .call 10 [(.tmp 12)], none⟩,
  ⟨(some 7), .alloc [.int .i64 0, .int .i64 0, .str [], .nils], none⟩,
  ⟨none, .store 4 (.tmp 7) (.mv 13), none⟩] none [0, 12, 13])
  (.seq
  (.region [
  ⟨(some 14), .mov (.tmp 1), none⟩,
  ⟨(some 15), .call 10 [(.tmp 14)], none⟩,
  ⟨(some 16), .mov (.tmp 2), none⟩,
  ⟨(some 17), .call 20 [(.tmp 15), (.tmp 16)], none⟩,
  ⟨(some 8), .alloc [.int .i64 0, .int .i64 0, .str [], .nils], none⟩,
  ⟨none, .store 4 (.tmp 8) (.mv 17), none⟩] none [1, 2, 14, 15, 16, 17])
  (.seq
  (.region [
  ⟨(some 18), .load (some 4) false (.tmp 7), none⟩,
  ⟨(some 19), .load (some 4) false (.tmp 8), none⟩,
  ⟨(some 20), .call 17 [(.tmp 18), (.tmp 19)], none⟩,
  ⟨(some 9), .mov (.mv 20), none⟩] none [18, 19, 20])
  (.seq
  (.region [
  ⟨(some 21), .load (some 4) false (.tmp 8), none⟩,
  ⟨(some 22), .load (some 4) false (.tmp 7), none⟩,
  ⟨(some 23), .call 21 [(.tmp 21), (.tmp 22)], none⟩,
  ⟨(some 10), .mov (.mv 23), none⟩] none [21, 22, 23])
  (.seq
  (.region [
  ⟨(some 24), .load (some 4) false (.tmp 7), none⟩,
  ⟨(some 25), .load (some 4) false (.tmp 8), none⟩,
  ⟨(some 26), .call 21 [(.tmp 24), (.tmp 25)], none⟩,
  ⟨(some 11), .mov (.mv 26), none⟩] none [24, 25, 26])
  (.seq
  (.region [
  ⟨(some 27), .load (some 4) false (.tmp 7), none⟩,
  ⟨(some 28), .load (some 4) false (.tmp 8), none⟩,
  ⟨(some 29), .call 19 [(.tmp 27), (.tmp 28)], none⟩,
  ⟨(some 30), .mov (.mv 9), none⟩,
  ⟨(some 31), .binB .eql (.tmp 29) (.tmp 30), none⟩,
  ⟨(some 32), .mov (.mv 31), none⟩,
  ⟨(some 33), .load (some 4) false (.tmp 8), (some (32, true))⟩,
  ⟨(some 34), .load (some 4) false (.tmp 7), (some (32, true))⟩,
  ⟨(some 35), .call 22 [(.tmp 33), (.tmp 34)], (some (32, true))⟩,
  ⟨(some 36), .mov (.mv 10), (some (32, true))⟩,
  ⟨(some 37), .binB .eql (.tmp 35) (.tmp 36), (some (32, true))⟩,
  ⟨(some 38), .pick (.tmp 32) (.tmp 37) (.const (.bool false)), none⟩,
  ⟨(some 39), .mov (.mv 38), none⟩,
  ⟨(some 40), .load (some 4) false (.tmp 7), (some (39, true))⟩,
  ⟨(some 41), .load (some 4) false (.tmp 8), (some (39, true))⟩,
  ⟨(some 42), .call 22 [(.tmp 40), (.tmp 41)], (some (39, true))⟩,
  ⟨(some 43), .mov (.mv 11), (some (39, true))⟩,
  ⟨(some 44), .binB .eql (.tmp 42) (.tmp 43), (some (39, true))⟩,
  ⟨(some 45), .pick (.tmp 39) (.tmp 44) (.const (.bool false)), none⟩,
  ⟨(some 46), .mov (.mv 45), none⟩,
  ⟨(some 47), .call 14 [], (some (46, true))⟩,
  ⟨(some 48), .pick (.tmp 46) (.tmp 47) (.const (.bool false)), none⟩,
  ⟨(some 6), .mov (.mv 48), none⟩] none [7, 8, 9, 10, 11, 27, 28, 29, 30, 31, 32, 33, 34, 35, 36, 37, 38, 39, 40, 41, 42, 43, 44, 45, 46, 47, 48])
  .ret))))))) }

/-- fugue/fuguelaw29.ShowCuts -/
def a7 : AFun :=
  { nargs := 3, ntmps := 44, res := [.tmp 6], gc := false, body :=
  (.seq
  (.region [
  ⟨(some 6), .mov (.const (.bool false)), none⟩] none [6])
  (.seq
  (.region [
  ⟨(some 11), .mov (.tmp 0), none⟩,
  ⟨(some 12), .call 10 [(.tmp 11)], none⟩,
  ⟨(some 7), .alloc [.int .i64 0, .int .i64 0, .str [], .nils], none⟩,
  ⟨none, .store 4 (.tmp 7) (.mv 12), none⟩] none [0, 11, 12])
  (.seq
  (.region [
  ⟨(some 13), .load (some 4) false (.tmp 7), none⟩,
  ⟨(some 14), .mov (.tmp 1), none⟩,
  ⟨(some 15), .call 23 [(.tmp 13), (.tmp 14)], none⟩,
  ⟨(some 8), .alloc [.int .i64 0, .int .i64 0, .str [], .nils], none⟩,
  ⟨none, .store 4 (.tmp 8) (.mv 15), none⟩] none [13, 14, 15])
  (.seq
  (.region [
  ⟨(some 16), .mov (.tmp 1), none⟩,
  ⟨(some 9), .mov (.mv 16), none⟩] none [16])
  (.seq
  (.seq
  (.region [
  ⟨(some 17), .mov (.tmp 2), none⟩,
  ⟨(some 18), .mov (.tmp 1), none⟩,
  ⟨(some 19), .bin .lss (.tmp 17) (.tmp 18), none⟩] none [17, 18])
  (.cond (.tmp 19)
  (.region [
  ⟨(some 20), .mov (.tmp 2), none⟩,
  ⟨(some 9), .mov (.mv 20), none⟩] none [19, 20])
  .skip))
  (.seq
  (.region [
  ⟨(some 21), .loadL (some 4) false (.tmp 8), none⟩,
  ⟨(some 22), .loadL (some 4) false (.tmp 7), none⟩,
  ⟨(some 23), .mov (.tmp 1), none⟩,
  ⟨(some 24), .call 20 [(.tmp 22), (.tmp 23)], none⟩,
  ⟨(some 25), .call 17 [(.tmp 21), (.tmp 24)], none⟩,
  ⟨(some 10), .mov (.mv 25), none⟩] (some [0, 1, 2, 3, 4, 5]) [1, 19, 21, 22, 23, 24, 25])
  (.seq
  (.region [
  ⟨(some 26), .mov (.mv 10), none⟩,
  ⟨(some 27), .mov (.mv 26), none⟩,
  ⟨(some 28), .loadL (some 4) false (.tmp 8), (some (27, true))⟩,
  ⟨(some 29), .loadL (some 4) false (.tmp 7), (some (27, true))⟩,
  ⟨(some 30), .call 22 [(.tmp 28), (.tmp 29)], (some (27, true))⟩,
  ⟨(some 31), .pick (.tmp 27) (.tmp 30) (.const (.bool false)), none⟩,
  ⟨(some 32), .mov (.mv 31), none⟩,
  ⟨(some 33), .loadL (some 4) false (.tmp 8), (some (32, true))⟩,
  ⟨(some 34), .mov (.mv 2), (some (32, true))⟩,
  ⟨(some 36), .loadL (some 4) false (.tmp 7), (some (32, true))⟩,
  ⟨(some 37), .mov (.mv 9), (some (32, true))⟩,
  ⟨(some 35), .call 23 [(.tmp 33), (.tmp 34)], (some (32, true))⟩,
  ⟨(some 38), .call 23 [(.tmp 36), (.tmp 37)], (some (32, true))⟩,
  ⟨(some 39), .call 19 [(.tmp 35), (.tmp 38)], (some (32, true))⟩,
  ⟨(some 40), .pick (.tmp 32) (.tmp 39) (.const (.bool false)), none⟩,
  ⟨(some 41), .mov (.mv 40), none⟩,
  ⟨(some 42), .call 14 [], (some (41, true))⟩,
  ⟨(some 43), .pick (.tmp 41) (.tmp 42) (.const (.bool false)), none⟩,
  ⟨(some 6), .mov (.mv 43), none⟩] (some [0, 1, 2, 3, 4, 5, 6, 7, 8, 10, 11, 9, 12, 13, 14, 15, 16, 17, 18]) [2, 7, 8, 9, 10, 26, 27, 28, 29, 30, 31, 32, 33, 34, 35, 36, 37, 38, 39, 40, 41, 42, 43])
  .ret))))))) }

/-- fugue/fuguelaw29.ShowOrder -/
def a8 : AFun :=
  { nargs := 4, ntmps := 69, res := [.tmp 8], gc := false, body :=
  (.seq
  (.region [
  ⟨(some 8), .mov (.const (.bool false)), none⟩] none [8])
  (.seq
  (.region [
  ⟨(some 14), .mov (.tmp 0), none⟩,
  ⟨(some 15), .call 10 [(.tmp 14)], none⟩,
  ⟨(some 9), .alloc [.int .i64 0, .int .i64 0, .str [], .nils], none⟩,
  ⟨none, .store 4 (.tmp 9) (.mv 15), none⟩] none [0, 14, 15])
  (.seq
  (.region [
  ⟨(some 16), .load (some 4) false (.tmp 9), none⟩,
  ⟨(some 17), .mov (.tmp 1), none⟩,
  ⟨(some 18), .call 23 [(.tmp 16), (.tmp 17)], none⟩,
  ⟨(some 10), .alloc [.int .i64 0, .int .i64 0, .str [], .nils], none⟩,
  ⟨none, .store 4 (.tmp 10) (.mv 18), none⟩] none [1, 16, 17, 18])
  (.seq
  (.region [
  ⟨(some 19), .load (some 4) false (.tmp 9), none⟩,
  ⟨(some 20), .mov (.tmp 2), none⟩,
  ⟨(some 21), .call 23 [(.tmp 19), (.tmp 20)], none⟩,
  ⟨(some 11), .alloc [.int .i64 0, .int .i64 0, .str [], .nils], none⟩,
  ⟨none, .store 4 (.tmp 11) (.mv 21), none⟩] none [2, 9, 19, 20, 21])
  (.seq
  (.region [
  ⟨(some 22), .mov (.tmp 3), none⟩,
  ⟨(some 23), .call 10 [(.tmp 22)], none⟩,
  ⟨(some 12), .alloc [.int .i64 0, .int .i64 0, .str [], .nils], none⟩,
  ⟨none, .store 4 (.tmp 12) (.mv 23), none⟩] none [3, 22, 23])
  (.seq
  (.region [
  ⟨(some 24), .load (some 4) false (.tmp 10), none⟩,
  ⟨(some 25), .load (some 4) false (.tmp 11), none⟩,
  ⟨(some 26), .call 22 [(.tmp 24), (.tmp 25)], none⟩,
  ⟨(some 27), .mov (.mv 26), none⟩,
  ⟨(some 28), .load (some 4) false (.tmp 11), (some (27, true))⟩,
  ⟨(some 29), .load (some 4) false (.tmp 10), (some (27, true))⟩,
  ⟨(some 30), .call 22 [(.tmp 28), (.tmp 29)], (some (27, true))⟩,
  ⟨(some 31), .pick (.tmp 27) (.tmp 30) (.const (.bool false)), none⟩,
  ⟨(some 13), .mov (.mv 31), none⟩] none [24, 25, 26, 27, 28, 29, 30, 31])
  (.seq
  (.region [
  ⟨(some 32), .load (some 4) false (.tmp 10), none⟩,
  ⟨(some 33), .load (some 4) false (.tmp 11), none⟩,
  ⟨(some 34), .call 22 [(.tmp 32), (.tmp 33)], none⟩,
  ⟨(some 35), .un .not (.tmp 34), none⟩,
  ⟨(some 36), .mov (.mv 35), none⟩,
  ⟨(some 37), .load (some 4) false (.tmp 11), (some (36, false))⟩,
  ⟨(some 38), .load (some 4) false (.tmp 12), (some (36, false))⟩,
  ⟨(some 39), .call 22 [(.tmp 37), (.tmp 38)], (some (36, false))⟩,
  ⟨(some 40), .un .not (.tmp 39), (some (36, false))⟩,
  ⟨(some 41), .pick (.tmp 36) (.const (.bool true)) (.tmp 40), none⟩,
  ⟨(some 42), .mov (.mv 41), none⟩,
  ⟨(some 43), .load (some 4) false (.tmp 10), (some (42, false))⟩,
  ⟨(some 44), .load (some 4) false (.tmp 12), (some (42, false))⟩,
  ⟨(some 45), .call 22 [(.tmp 43), (.tmp 44)], (some (42, false))⟩,
  ⟨(some 46), .pick (.tmp 42) (.const (.bool true)) (.tmp 45), none⟩,
  ⟨(some 47), .mov (.mv 46), none⟩,
  ⟨(some 48), .mov (.mv 13), (some (47, true))⟩,
  ⟨(some 49), .un .not (.tmp 48), (some (47, true))⟩,
  ⟨(some 50), .mov (.mv 49), (some (47, true))⟩,
  ⟨(some 51), .load (some 4) false (.tmp 10), (some (50, false))⟩,
  ⟨(some 52), .load (some 4) false (.tmp 11), (some (50, false))⟩,
  ⟨(some 53), .call 19 [(.tmp 51), (.tmp 52)], (some (50, false))⟩,
  ⟨(some 54), .pick (.tmp 50) (.const (.bool true)) (.tmp 53), (some (47, true))⟩,
  ⟨(some 55), .pick (.tmp 47) (.tmp 54) (.const (.bool false)), none⟩,
  ⟨(some 56), .mov (.mv 55), none⟩,
  ⟨(some 57), .build [.int .i64 0, .int .i64 0, .str [], .nils] [(0, 1, (.const (.int .i64 4)))], (some (56, true))⟩,
  ⟨(some 58), .load (some 4) false (.tmp 12), (some (56, true))⟩,
  ⟨(some 59), .call 22 [(.tmp 57), (.tmp 58)], (some (56, true))⟩,
  ⟨(some 60), .pick (.tmp 56) (.tmp 59) (.const (.bool false)), none⟩,
  ⟨(some 61), .mov (.mv 60), none⟩,
  ⟨(some 62), .load (some 4) false (.tmp 12), (some (61, true))⟩,
  ⟨(some 63), .load (some 4) false (.tmp 12), (some (61, true))⟩,
  ⟨(some 64), .call 22 [(.tmp 62), (.tmp 63)], (some (61, true))⟩,
  ⟨(some 65), .pick (.tmp 61) (.tmp 64) (.const (.bool false)), none⟩,
  ⟨(some 66), .mov (.mv 65), none⟩,
  ⟨(some 67), .call 14 [], (some (66, true))⟩,
  ⟨(some 68), .pick (.tmp 66) (.tmp 67) (.const (.bool false)), none⟩,
  ⟨(some 8), .mov (.mv 68), none⟩] none [10, 11, 12, 13, 32, 33, 34, 35, 36, 37, 38, 39, 40, 41, 42, 43, 44, 45, 46, 47, 48, 49, 50, 51, 52, 53, 54, 55, 56, 57, 58, 59, 60, 61, 62, 63, 64, 65, 66, 67, 68])
  .ret))))))) }

/-- fugue/fuguelaw29.ShowNames -/
def a9 : AFun :=
  { nargs := 2, ntmps := 65, res := [.tmp 4], gc := false, body :=
  (.seq
  (.region [
  ⟨(some 4), .mov (.const (.bool false)), none⟩] none [4])
  (.seq
  (.seq
  (.region [
  ⟨(some 12), .mov (.tmp 0), none⟩,
  ⟨(some 13), .lenS (.tmp 12), none⟩,
  ⟨(some 14), .bin .gtr (.tmp 13) (.const (.int .i64 100)), none⟩] none [12, 13])
  (.cond (.tmp 14)
  (.seq
  (.region [
  ⟨(some 15), .call 14 [], none⟩,
  ⟨(some 4), .mov (.mv 15), none⟩] none [0, 1, 14, 15])
  .ret)
  .skip))
  (.seq
  (.region [
  ⟨(some 17), .mov (.tmp 0), none⟩,
  ⟨(some 18), .call 15 [(.tmp 17)], none⟩,
  ⟨(some 16), .mov (.mv 18), none⟩,
  ⟨(some 19), .extract (.tmp 16) 0, none⟩,
  ⟨(some 20), .extract (.tmp 16) 1, none⟩,
  ⟨(some 5), .alloc [.int .i64 0, .int .i64 0, .str [], .nils], none⟩,
  ⟨none, .store 4 (.tmp 5) (.mv 19), none⟩,
  ⟨(some 6), .mov (.mv 20), none⟩] none [14, 16, 17, 18, 19, 20])
  (.seq
  (.region [
  ⟨(some 21), .mov (.tmp 0), none⟩,
  ⟨(some 22), .call 24 [(.tmp 21)], none⟩,
  ⟨(some 7), .mov (.mv 22), none⟩] none [21, 22])
  (.seq
  (.region [
  ⟨(some 23), .mov (.tmp 6), none⟩,
  ⟨(some 24), .bin .eql (.tmp 23) (.const (.int .i64 0)), none⟩,
  ⟨(some 25), .mov (.mv 24), none⟩,
  ⟨(some 26), .fieldAddr 0 none (.tmp 5), (some (25, true))⟩,
  ⟨(some 27), .load none false (.tmp 26), (some (25, true))⟩,
  ⟨(some 28), .bin .eql (.tmp 27) (.const (.int .i64 1)), (some (25, true))⟩,
  ⟨(some 29), .pick (.tmp 25) (.tmp 28) (.const (.bool false)), none⟩,
  ⟨(some 30), .mov (.mv 29), none⟩,
  ⟨(some 31), .fieldAddr 3 none (.tmp 5), (some (30, true))⟩,
  ⟨(some 32), .load none false (.tmp 31), (some (30, true))⟩,
  ⟨(some 33), .len (.tmp 32), (some (30, true))⟩,
  ⟨(some 34), .bin .eql (.tmp 33) (.const (.int .i64 0)), (some (30, true))⟩,
  ⟨(some 35), .pick (.tmp 30) (.tmp 34) (.const (.bool false)), none⟩,
  ⟨(some 8), .mov (.mv 35), none⟩] none [5, 6, 23, 24, 25, 26, 27, 28, 29, 30, 31, 32, 33, 34, 35])
  (.seq
  (.region [
  ⟨(some 36), .mov (.tmp 1), none⟩,
  ⟨(some 37), .call 10 [(.tmp 36)], none⟩,
  ⟨(some 9), .alloc [.int .i64 0, .int .i64 0, .str [], .nils], none⟩,
  ⟨none, .store 4 (.tmp 9) (.mv 37), none⟩] none [1, 36, 37])
  (.seq
  (.region [
  ⟨(some 38), .mov (.tmp 0), none⟩,
  ⟨(some 39), .load (some 4) false (.tmp 9), none⟩,
  ⟨(some 40), .buildSlice ⟨25, 4⟩ [(.tmp 39)], none⟩,
  ⟨(some 41), .build [.int .i64 0, .int .i64 0, .str [], .nils] [(0, 1, (.const (.int .i64 1))), (2, 1, (.tmp 38)), (3, 1, (.tmp 40))], none⟩,
  ⟨(some 10), .alloc [.int .i64 0, .int .i64 0, .str [], .nils], none⟩,
  ⟨none, .store 4 (.tmp 10) (.mv 41), none⟩] none [0, 38, 39, 40, 41])
  (.seq
  (.region [
  ⟨(some 42), .load (some 4) false (.tmp 9), none⟩,
  ⟨(some 43), .call 18 [(.tmp 42)], none⟩,
  ⟨(some 44), .mov (.mv 43), none⟩,
  ⟨(some 45), .load (some 4) false (.tmp 9), (some (44, true))⟩,
  ⟨(some 46), .call 25 [(.tmp 45)], (some (44, true))⟩,
  ⟨(some 47), .bin .lss (.tmp 46) (.const (.int .i64 40)), (some (44, true))⟩,
  ⟨(some 48), .pick (.tmp 44) (.tmp 47) (.const (.bool false)), none⟩,
  ⟨(some 11), .mov (.mv 48), none⟩] none [9, 42, 43, 44, 45, 46, 47, 48])
  (.seq
  (.region [
  ⟨(some 49), .mov (.mv 8), none⟩,
  ⟨(some 50), .mov (.tmp 7), none⟩,
  ⟨(some 51), .binB .eql (.tmp 49) (.tmp 50), none⟩,
  ⟨(some 52), .mov (.mv 51), none⟩,
  ⟨(some 53), .load (some 4) false (.tmp 10), (some (52, true))⟩,
  ⟨(some 54), .call 12 [(.tmp 53)], (some (52, true))⟩,
  ⟨(some 55), .bin .neq (.tmp 54) (.const (.str [])), (some (52, true))⟩,
  ⟨(some 56), .mov (.tmp 7), (some (52, true))⟩,
  ⟨(some 57), .mov (.mv 56), (some (52, true))⟩,
  ⟨(some 58), .mov (.mv 11), (some (57, true))⟩,
  ⟨(some 59), .pick (.tmp 57) (.tmp 58) (.const (.bool false)), (some (52, true))⟩,
  ⟨(some 60), .binB .eql (.tmp 55) (.tmp 59), (some (52, true))⟩,
  ⟨(some 61), .pick (.tmp 52) (.tmp 60) (.const (.bool false)), none⟩,
  ⟨(some 62), .mov (.mv 61), none⟩,
  ⟨(some 63), .call 14 [], (some (62, true))⟩,
  ⟨(some 64), .pick (.tmp 62) (.tmp 63) (.const (.bool false)), none⟩,
  ⟨(some 4), .mov (.mv 64), none⟩] none [7, 8, 10, 11, 49, 50, 51, 52, 53, 54, 55, 56, 57, 58, 59, 60, 61, 62, 63, 64])
  .ret))))))))) }

def a10_l0 : ACode :=
  (.seq
  (.seq
  (.region [
  ⟨(some 11), .mov (.tmp 4), none⟩,
  ⟨(some 12), .mov (.tmp 0), none⟩,
  ⟨(some 13), .len (.tmp 12), none⟩,
  ⟨(some 14), .bin .lss (.tmp 11) (.tmp 13), none⟩,
  ⟨(some 15), .mov (.mv 14), none⟩,
  ⟨(some 16), .mov (.tmp 4), (some (15, true))⟩,
  ⟨(some 17), .bin .lss (.tmp 16) (.const (.int .i64 60)), (some (15, true))⟩,
  ⟨(some 18), .pick (.tmp 15) (.tmp 17) (.const (.bool false)), none⟩] none [11, 12, 13, 14, 15, 16, 17])
  (.cond (.tmp 18)
  .skip
  (.exit 0)))
  (.seq
  (.block 1
  (.seq
  (.region [
  ⟨(some 21), .mov (.tmp 0), none⟩,
  ⟨(some 22), .mov (.tmp 4), none⟩,
  ⟨(some 23), .indexAddr 1 (.tmp 21) (.tmp 22), none⟩,
  ⟨(some 24), .load none false (.tmp 23), none⟩,
  ⟨(some 5), .mov (.mv 24), none⟩] none [18, 21, 22, 23, 24])
  (.seq
  (.seq
  (.region [
  ⟨(some 25), .mov (.tmp 5), none⟩,
  ⟨(some 26), .bin .lss (.tmp 25) (.const (.int .i64 0)), none⟩] none [25])
  (.cond (.tmp 26)
  (.region [
  ⟨(some 27), .mov (.tmp 5), none⟩,
  ⟨(some 28), .bin .add (.tmp 27) (.const (.int .i64 1)), none⟩,
  ⟨(some 29), .un .neg (.tmp 28), none⟩,
  ⟨(some 5), .mov (.mv 29), none⟩] none [26, 27, 28, 29])
  .skip))
  (.seq
  (.region [
  ⟨(some 30), .mov (.tmp 5), none⟩,
  ⟨(some 31), .bin .quo (.tmp 30) (.const (.int .i64 8)), none⟩,
  ⟨(some 32), .bin .rem (.tmp 31) (.const (.int .i64 4)), none⟩,
  ⟨(some 6), .mov (.mv 32), none⟩] none [26, 30, 31, 32])
  (.seq
  (.seq
  (.region [
  ⟨(some 33), .mov (.tmp 6), none⟩,
  ⟨(some 34), .mov (.tmp 3), none⟩,
  ⟨(some 35), .len (.tmp 34), none⟩,
  ⟨(some 36), .bin .gtr (.tmp 33) (.tmp 35), none⟩] none [33, 34, 35])
  (.cond (.tmp 36)
  (.region [
  ⟨(some 37), .mov (.tmp 3), none⟩,
  ⟨(some 38), .len (.tmp 37), none⟩,
  ⟨(some 6), .mov (.mv 38), none⟩] none [36, 37, 38])
  .skip))
  (.seq
  (.region [
  ⟨(some 39), .mov (.tmp 5), none⟩,
  ⟨(some 40), .bin .rem (.tmp 39) (.const (.int .i64 8)), none⟩] none [36, 39])
  (.block 2
  (.seq
  (.region [
  ⟨(some 65), .bin .eql (.tmp 40) (.const (.int .i64 0)), none⟩,
  ⟨(some 64), .mov (.mv 65), none⟩] none [65])
  (.cond (.tmp 64)
  (.region [
  ⟨(some 66), .mov (.mv 3), none⟩,
  ⟨(some 67), .build [.int .i64 0, .int .i64 0, .str [], .nils] [(0, 1, (.const (.int .i64 3)))], none⟩,
  ⟨(some 68), .buildSlice ⟨25, 4⟩ [(.tmp 67)], none⟩,
  ⟨(some 69), .append ⟨25, 4⟩ 56 (.mv 66) (.tmp 68), none⟩,
  ⟨(some 3), .mov (.mv 69), none⟩] none [5, 6, 40, 64, 66, 67, 68, 69])
  (.seq
  (.region [
  ⟨(some 71), .bin .eql (.tmp 40) (.const (.int .i64 1)), none⟩,
  ⟨(some 70), .mov (.mv 71), none⟩] none [64, 71])
  (.cond (.tmp 70)
  (.region [
  ⟨(some 72), .mov (.mv 3), none⟩,
  ⟨(some 73), .build [.int .i64 0, .int .i64 0, .str [], .nils] [(0, 1, (.const (.int .i64 4)))], none⟩,
  ⟨(some 74), .buildSlice ⟨25, 4⟩ [(.tmp 73)], none⟩,
  ⟨(some 75), .append ⟨25, 4⟩ 56 (.mv 72) (.tmp 74), none⟩,
  ⟨(some 3), .mov (.mv 75), none⟩] none [5, 6, 40, 70, 72, 73, 74, 75])
  (.seq
  (.seq
  (.region [
  ⟨(some 77), .bin .eql (.tmp 40) (.const (.int .i64 2)), none⟩,
  ⟨(some 76), .mov (.mv 77), none⟩] none [70, 77])
  (.cond (.tmp 76)
  .skip
  (.region [
  ⟨(some 78), .bin .eql (.tmp 40) (.const (.int .i64 3)), none⟩,
  ⟨(some 76), .mov (.mv 78), none⟩] none [40, 78])))
  (.cond (.tmp 76)
  (.region [
  ⟨(some 79), .mov (.mv 3), none⟩,
  ⟨(some 80), .mov (.tmp 0), none⟩,
  ⟨(some 81), .mov (.tmp 4), none⟩,
  ⟨(some 82), .indexAddr 1 (.tmp 80) (.tmp 81), none⟩,
  ⟨(some 83), .load none false (.tmp 82), none⟩,
  ⟨(some 84), .bin .quo (.tmp 83) (.const (.int .i64 8)), none⟩,
  ⟨(some 85), .build [.int .i64 0, .int .i64 0, .str [], .nils] [(0, 1, (.const (.int .i64 2))), (1, 1, (.tmp 84))], none⟩,
  ⟨(some 86), .buildSlice ⟨25, 4⟩ [(.tmp 85)], none⟩,
  ⟨(some 87), .append ⟨25, 4⟩ 56 (.mv 79) (.tmp 86), none⟩,
  ⟨(some 3), .mov (.mv 87), none⟩] none [5, 6, 40, 76, 79, 80, 81, 82, 83, 84, 85, 86, 87])
  (.seq
  (.region [
  ⟨(some 41), .mov (.tmp 3), none⟩,
  ⟨(some 42), .len (.tmp 41), none⟩,
  ⟨(some 43), .mov (.tmp 6), none⟩,
  ⟨(some 44), .bin .sub (.tmp 42) (.tmp 43), none⟩,
  ⟨(some 7), .mov (.mv 44), none⟩] none [6, 40, 41, 42, 43, 44, 76])
  (.seq
  (.region [
  ⟨(some 45), .mov (.tmp 5), none⟩,
  ⟨(some 46), .bin .quo (.tmp 45) (.const (.int .i64 32)), none⟩,
  ⟨(some 47), .bin .rem (.tmp 46) (.const (.int .i64 6)), none⟩,
  ⟨(some 48), .call 26 [(.tmp 47)], none⟩,
  ⟨(some 49), .build [.int .i64 0, .int .i64 0, .str [], .nils] [(0, 1, (.const (.int .i64 1))), (2, 1, (.tmp 48))], none⟩,
  ⟨(some 8), .alloc [.int .i64 0, .int .i64 0, .str [], .nils], none⟩,
  ⟨none, .store 4 (.tmp 8) (.mv 49), none⟩] none [5, 45, 46, 47, 48, 49])
  (.seq
  (.region [
  ⟨(some 50), .fieldAddr 3 none (.tmp 8), none⟩,
  ⟨(some 51), .loadL none true (.tmp 50), none⟩,
  ⟨(some 52), .mov (.tmp 3), none⟩,
  ⟨(some 53), .mov (.tmp 7), none⟩,
  ⟨(some 54), .slice 4 (.tmp 52) (some (.tmp 53)) none, none⟩,
  ⟨(some 55), .append ⟨25, 4⟩ 56 (.mv 51) (.tmp 54), none⟩,
  ⟨(some 56), .fieldAddr 3 none (.tmp 8), none⟩,
  ⟨none, .store 1 (.tmp 56) (.mv 55), none⟩] (some [0, 1, 2, 3, 4, 5, 6, 7]) [50, 51, 52, 53, 54, 55, 56])
  (.region [
  ⟨(some 57), .mov (.tmp 3), none⟩,
  ⟨(some 58), .mov (.tmp 7), none⟩,
  ⟨(some 59), .slice 4 (.tmp 57) none (some (.tmp 58)), none⟩,
  ⟨(some 60), .append ⟨25, 4⟩ 56 (.const (.nils)) (.tmp 59), none⟩,
  ⟨(some 61), .loadL (some 4) false (.tmp 8), none⟩,
  ⟨(some 62), .buildSlice ⟨25, 4⟩ [(.tmp 61)], none⟩,
  ⟨(some 63), .append ⟨25, 4⟩ 56 (.mv 60) (.tmp 62), none⟩,
  ⟨(some 3), .mov (.mv 63), none⟩] (some [0, 1, 2, 3, 4, 5, 6, 7]) [7, 8, 57, 58, 59, 60, 61, 62, 63])))))))))))))))))
  (.region [
  ⟨(some 19), .mov (.tmp 4), none⟩,
  ⟨(some 20), .bin .add (.tmp 19) (.const (.int .i64 1)), none⟩,
  ⟨(some 4), .mov (.mv 20), none⟩] none [19, 20])))
/-- fugue/fugueref29.Made -/
def a10 : AFun :=
  { nargs := 1, ntmps := 94, res := [.cell 2 (some 4)], gc := false, body :=
  (.seq
  (.region [
  ⟨(some 2), .alloc [.int .i64 0, .int .i64 0, .str [], .nils], none⟩] none [])
  (.seq
  (.region [
  ⟨(some 9), .build [.int .i64 0, .int .i64 0, .str [], .nils] [(0, 1, (.const (.int .i64 4)))], none⟩,
  ⟨(some 10), .buildSlice ⟨25, 4⟩ [(.tmp 9)], none⟩,
  ⟨(some 3), .mov (.mv 10), none⟩] none [9, 10])
  (.seq
  (.seq
  (.region [
  ⟨(some 4), .mov (.const (.int .i64 0)), none⟩] none [])
  (.block 0
  (.loop a10_l0)))
  (.seq
  (.region [
  ⟨(some 88), .mov (.tmp 3), none⟩,
  ⟨(some 89), .mov (.tmp 3), none⟩,
  ⟨(some 90), .len (.tmp 89), none⟩,
  ⟨(some 91), .bin .sub (.tmp 90) (.const (.int .i64 1)), none⟩,
  ⟨(some 92), .indexAddr 4 (.tmp 88) (.tmp 91), none⟩,
  ⟨(some 93), .load (some 4) true (.tmp 92), none⟩,
  ⟨none, .store 4 (.tmp 2) (.mv 93), none⟩] none [0, 3, 4, 18, 88, 89, 90, 91, 92, 93])
  .ret)))) }

def a11_l0 : ACode :=
  (.seq
  (.seq
  (.region [
  ⟨(some 33), .mov (.tmp 6), none⟩,
  ⟨(some 34), .bin .lss (.tmp 33) (.const (.int .i64 38)), none⟩] none [33])
  (.cond (.tmp 34)
  .skip
  (.exit 1)))
  (.seq
  (.block 2
  (.region [
  ⟨(some 37), .load (some 4) false (.tmp 5), none⟩,
  ⟨(some 38), .buildSlice ⟨25, 4⟩ [(.tmp 37)], none⟩,
  ⟨(some 39), .build [.int .i64 0, .int .i64 0, .str [], .nils] [(0, 1, (.const (.int .i64 1))), (2, 1, (.const (.str [83]))), (3, 1, (.tmp 38))], none⟩,
  ⟨none, .store 4 (.tmp 5) (.mv 39), none⟩] none [34, 37, 38, 39]))
  (.region [
  ⟨(some 35), .mov (.tmp 6), none⟩,
  ⟨(some 36), .bin .add (.tmp 35) (.const (.int .i64 1)), none⟩,
  ⟨(some 6), .mov (.mv 36), none⟩] none [35, 36])))
/-- fugue/fugueref29.Wild -/
def a11 : AFun :=
  { nargs := 2, ntmps := 54, res := [.cell 4 (some 4)], gc := false, body :=
  (.seq
  (.region [
  ⟨(some 4), .alloc [.int .i64 0, .int .i64 0, .str [], .nils], none⟩] none [])
  (.seq
  (.region [
  ⟨(some 7), .mov (.tmp 0), none⟩,
  ⟨(some 8), .call 10 [(.tmp 7)], none⟩,
  ⟨(some 5), .alloc [.int .i64 0, .int .i64 0, .str [], .nils], none⟩,
  ⟨none, .store 4 (.tmp 5) (.mv 8), none⟩] none [0, 7, 8])
  (.seq
  (.seq
  (.region [
  ⟨(some 9), .mov (.tmp 1), none⟩] none [1])
  (.block 0
  (.seq
  (.region [
  ⟨(some 11), .bin .eql (.tmp 9) (.const (.int .i64 0)), none⟩,
  ⟨(some 10), .mov (.mv 11), none⟩] none [11])
  (.cond (.tmp 10)
  (.region [
  ⟨(some 12), .fieldAddr 2 none (.tmp 5), none⟩,
  ⟨none, .store 1 (.tmp 12) (.const (.str [110, 105, 108])), none⟩] none [9, 10, 12])
  (.seq
  (.region [
  ⟨(some 14), .bin .eql (.tmp 9) (.const (.int .i64 1)), none⟩,
  ⟨(some 13), .mov (.mv 14), none⟩] none [10, 14])
  (.cond (.tmp 13)
  (.region [
  ⟨(some 15), .fieldAddr 0 none (.tmp 5), none⟩,
  ⟨none, .store 1 (.tmp 15) (.const (.int .i64 0)), none⟩] none [9, 13, 15])
  (.seq
  (.region [
  ⟨(some 17), .bin .eql (.tmp 9) (.const (.int .i64 2)), none⟩,
  ⟨(some 16), .mov (.mv 17), none⟩] none [13, 17])
  (.cond (.tmp 16)
  (.region [
  ⟨(some 18), .fieldAddr 1 none (.tmp 5), none⟩,
  ⟨(some 19), .load none false (.tmp 18), none⟩,
  ⟨(some 20), .bin .add (.tmp 19) (.const (.int .i64 1)), none⟩,
  ⟨(some 21), .fieldAddr 1 none (.tmp 5), none⟩,
  ⟨none, .store 1 (.tmp 21) (.mv 20), none⟩] none [9, 16, 18, 19, 20, 21])
  (.seq
  (.region [
  ⟨(some 23), .bin .eql (.tmp 9) (.const (.int .i64 3)), none⟩,
  ⟨(some 22), .mov (.mv 23), none⟩] none [16, 23])
  (.cond (.tmp 22)
  (.region [
  ⟨(some 24), .fieldAddr 3 none (.tmp 5), none⟩,
  ⟨(some 25), .load none false (.tmp 24), none⟩,
  ⟨(some 26), .append ⟨25, 4⟩ 56 (.const (.nils)) (.tmp 25), none⟩,
  ⟨(some 27), .build [.int .i64 0, .int .i64 0, .str [], .nils] [(0, 1, (.const (.int .i64 1))), (2, 1, (.const (.str [75, 64])))], none⟩,
  ⟨(some 28), .buildSlice ⟨25, 4⟩ [(.tmp 27)], none⟩,
  ⟨(some 29), .append ⟨25, 4⟩ 56 (.mv 26) (.tmp 28), none⟩,
  ⟨(some 30), .fieldAddr 3 none (.tmp 5), none⟩,
  ⟨none, .store 1 (.tmp 30) (.mv 29), none⟩] none [9, 22, 24, 25, 26, 27, 28, 29, 30])
  (.seq
  (.region [
  ⟨(some 32), .bin .eql (.tmp 9) (.const (.int .i64 4)), none⟩,
  ⟨(some 31), .mov (.mv 32), none⟩] none [22, 32])
  (.cond (.tmp 31)
  (.seq
  (.region [
  ⟨(some 6), .mov (.const (.int .i64 0)), none⟩] none [9, 31])
  (.block 1
  (.loop a11_l0)))
  (.seq
  (.region [
  ⟨(some 41), .bin .eql (.tmp 9) (.const (.int .i64 5)), none⟩,
  ⟨(some 40), .mov (.mv 41), none⟩] none [9, 31, 41])
  (.cond (.tmp 40)
  (.region [
  ⟨(some 42), .load (some 4) false (.tmp 5), none⟩,
  ⟨(some 43), .load (some 4) false (.tmp 5), none⟩,
  ⟨(some 44), .load (some 4) false (.tmp 5), none⟩,
  ⟨(some 45), .load (some 4) false (.tmp 5), none⟩,
  ⟨(some 46), .load (some 4) false (.tmp 5), none⟩,
  ⟨(some 47), .load (some 4) false (.tmp 5), none⟩,
  ⟨(some 48), .load (some 4) false (.tmp 5), none⟩,
  ⟨(some 49), .load (some 4) false (.tmp 5), none⟩,
  ⟨(some 50), .load (some 4) false (.tmp 5), none⟩,
  ⟨(some 51), .buildSlice ⟨25, 4⟩ [(.tmp 42), (.tmp 43), (.tmp 44), (.tmp 45), (.tmp 46), (.tmp 47), (.tmp 48), (.tmp 49), (.tmp 50)], none⟩,
  ⟨(some 52), .build [.int .i64 0, .int .i64 0, .str [], .nils] [(0, 1, (.const (.int .i64 1))), (2, 1, (.const (.str [84]))), (3, 1, (.tmp 51))], none⟩,
  ⟨none, .store 4 (.tmp 5) (.mv 52), none⟩] none [40, 42, 43, 44, 45, 46, 47, 48, 49, 50, 51, 52])
  .skip))))))))))))))
  (.seq
  (.region [
  ⟨(some 53), .load (some 4) true (.tmp 5), none⟩,
  ⟨none, .store 4 (.tmp 4) (.mv 53), none⟩] none [5, 6, 34, 40, 53])
  .ret)))) }

/-- fugue/show.Print -/
def a12 : AFun :=
  { nargs := 1, ntmps := 13, res := [.tmp 2], gc := true, body :=
  (.seq
  (.region [
  ⟨(some 1), .box (.tmp 0), none⟩,
  ⟨(some 2), .mov (.const (.str [])), none⟩] none [0, 2])
  (.seq
  (.seq
  (.region [
  ⟨(some 5), .load (some 4) false (.tmp 1), none⟩,
  ⟨(some 6), .call 27 [(.tmp 5), (.const (.int .i64 40))], none⟩,
  ⟨(some 7), .un .not (.tmp 6), none⟩] none [5, 6])
  (.cond (.tmp 7)
  (.seq
  (.region [
  ⟨(some 2), .mov (.const (.str [])), none⟩] none [1, 7])
  .ret)
  .skip))
  (.seq
  (.region [
  ⟨(some 3), .galloc 49 [.nilp, .nils], none⟩] none [7])
  (.seq
  (.region [
  ⟨(some 4), .galloc 50 [.nilfn], none⟩] none [])
  (.seq
  (.region [
  ⟨(some 8), .mkFunc (.func 28) [] [(.tmp 3), (.tmp 4)], none⟩,
  ⟨none, .store 1 (.tmp 4) (.mv 8), none⟩] none [8])
  (.seq
  (.region [
  ⟨(some 9), .load none false (.tmp 4), none⟩,
  ⟨(some 10), .load (some 4) false (.tmp 1), none⟩,
  ⟨(some 11), .callv (.tmp 9) [(.tmp 10), (.const (.bool false))], none⟩] none [1, 4, 9, 10, 11])
  (.seq
  (.region [
  ⟨(some 12), .call 32 [(.tmp 3)], none⟩,
  ⟨(some 2), .mov (.mv 12), none⟩] none [3, 12])
  .ret))))))) }

/-- fugue/fugueref29.Print -/
def a13 : AFun :=
  { nargs := 1, ntmps := 10, res := [.tmp 2], gc := false, body :=
  (.seq
  (.region [
  ⟨(some 1), .box (.tmp 0), none⟩,
  ⟨(some 2), .mov (.const (.str [])), none⟩] none [0, 2])
  (.seq
  (.region [
  ⟨(some 4), .load (some 4) false (.tmp 1), none⟩,
  ⟨(some 5), .call 18 [(.tmp 4)], none⟩,
  ⟨(some 3), .mov (.mv 5), none⟩] none [4, 5])
  (.seq
  (.seq
  (.region [
  ⟨(some 6), .mov (.tmp 3), none⟩,
  ⟨(some 7), .un .not (.tmp 6), none⟩] none [3, 6])
  (.cond (.tmp 7)
  (.seq
  (.region [
  ⟨(some 2), .mov (.const (.str [])), none⟩] none [1, 7])
  .ret)
  .skip))
  (.seq
  (.region [
  ⟨(some 8), .load (some 4) false (.tmp 1), none⟩,
  ⟨(some 9), .call 33 [(.tmp 8)], none⟩,
  ⟨(some 2), .mov (.mv 9), none⟩] none [1, 7, 8, 9])
  .ret)))) }

/-- fugue/fuguelaw29.lives -/
def a14 : AFun :=
  { nargs := 0, ntmps := 38, res := [.tmp 0], gc := false, body :=
  (.seq
  (.region [
  ⟨(some 0), .mov (.const (.bool false)), none⟩] none [0])
  (.seq
  (.region [
  ⟨(some 4), .call 15 [(.const (.str [67, 111, 110, 115, 32, 49, 32, 40, 67, 111, 110, 115, 32, 40, 45, 50, 41, 32, 78, 105, 108, 41]))], none⟩,
  ⟨(some 3), .mov (.mv 4), none⟩,
  ⟨(some 5), .extract (.tmp 3) 0, none⟩,
  ⟨(some 6), .extract (.tmp 3) 1, none⟩,
  ⟨(some 1), .alloc [.int .i64 0, .int .i64 0, .str [], .nils], none⟩,
  ⟨none, .store 4 (.tmp 1) (.mv 5), none⟩,
  ⟨(some 2), .mov (.mv 6), none⟩] none [3, 4, 5, 6])
  (.seq
  (.region [
  ⟨(some 7), .mov (.mv 2), none⟩,
  ⟨(some 8), .bin .eql (.tmp 7) (.const (.int .i64 0)), none⟩,
  ⟨(some 9), .mov (.mv 8), none⟩,
  ⟨(some 10), .loadL (some 4) false (.tmp 1), (some (9, true))⟩,
  ⟨(some 11), .call 12 [(.tmp 10)], (some (9, true))⟩,
  ⟨(some 12), .bin .eql (.tmp 11) (.const (.str [67, 111, 110, 115, 32, 49, 32, 40, 67, 111, 110, 115, 32, 40, 45, 50, 41, 32, 78, 105, 108, 41])), (some (9, true))⟩,
  ⟨(some 13), .pick (.tmp 9) (.tmp 12) (.const (.bool false)), none⟩,
  ⟨(some 14), .mov (.mv 13), none⟩,
  ⟨(some 15), .loadL (some 4) false (.tmp 1), (some (14, true))⟩,
  ⟨(some 16), .call 23 [(.tmp 15), (.const (.int .i64 1))], (some (14, true))⟩,
  ⟨(some 17), .call 12 [(.tmp 16)], (some (14, true))⟩,
  ⟨(some 18), .bin .eql (.tmp 17) (.const (.str [67, 111, 110, 115, 32, 46, 46, 46, 32, 46, 46, 46])), (some (14, true))⟩,
  ⟨(some 19), .pick (.tmp 14) (.tmp 18) (.const (.bool false)), none⟩,
  ⟨(some 20), .mov (.mv 19), none⟩,
  ⟨(some 21), .loadL (some 4) false (.tmp 1), (some (20, true))⟩,
  ⟨(some 23), .loadL (some 4) false (.tmp 1), (some (20, true))⟩,
  ⟨(some 22), .call 23 [(.tmp 21), (.const (.int .i64 1))], (some (20, true))⟩,
  ⟨(some 24), .call 22 [(.tmp 22), (.tmp 23)], (some (20, true))⟩,
  ⟨(some 25), .pick (.tmp 20) (.tmp 24) (.const (.bool false)), none⟩,
  ⟨(some 26), .mov (.mv 25), none⟩,
  ⟨(some 27), .loadL (some 4) false (.tmp 1), (some (26, true))⟩,
  ⟨(some 28), .loadL (some 4) false (.tmp 1), (some (26, true))⟩,
  ⟨(some 29), .call 19 [(.tmp 27), (.tmp 28)], (some (26, true))⟩,
  ⟨(some 30), .pick (.tmp 26) (.tmp 29) (.const (.bool false)), none⟩,
  ⟨(some 31), .mov (.mv 30), none⟩,
  ⟨(some 32), .loadL (some 4) false (.tmp 1), (some (31, true))⟩,
  ⟨(some 33), .loadL (some 4) false (.tmp 1), (some (31, true))⟩,
  ⟨(some 34), .call 23 [(.tmp 33), (.const (.int .i64 1))], (some (31, true))⟩,
  ⟨(some 35), .call 22 [(.tmp 32), (.tmp 34)], (some (31, true))⟩,
  ⟨(some 36), .un .not (.tmp 35), (some (31, true))⟩,
  ⟨(some 37), .pick (.tmp 31) (.tmp 36) (.const (.bool false)), none⟩,
  ⟨(some 0), .mov (.mv 37), none⟩] (some [0, 1, 2, 3, 4, 5, 6, 7, 8, 9, 10, 11, 12, 13, 14, 16, 15, 17, 18, 19, 20, 21, 22, 23, 24, 25, 26, 27, 28, 29, 30, 31]) [1, 2, 7, 8, 9, 10, 11, 12, 13, 14, 15, 16, 17, 18, 19, 20, 21, 22, 23, 24, 25, 26, 27, 28, 29, 30, 31, 32, 33, 34, 35, 36, 37])
  .ret))) }

/-- fugue/show.Read -/
def a15 : AFun :=
  { nargs := 1, ntmps := 28, res := [.cell 2 (some 4), .cell 3 none], gc := true, body :=
  (.seq
  (.region [
  ⟨(some 2), .galloc 25 [.int .i64 0, .int .i64 0, .str [], .nils], none⟩,
  ⟨(some 3), .galloc 31 [.int .i64 0], none⟩] none [])
  (.seq
  (.region [
  ⟨(some 5), .mkFunc (.func 34) [] [(.tmp 2), (.tmp 3)], none⟩,
  ⟨none, .deferv (.tmp 5) [], none⟩] none [5])
  (.seq
  (.region [
  ⟨(some 6), .mov (.tmp 0), none⟩,
  ⟨(some 7), .build [.str [], .int .i64 0] [(0, 1, (.tmp 6)), (1, 1, (.const (.int .i64 42)))], none⟩,
  ⟨(some 8), .gbox 61 (.tmp 7), none⟩,
  ⟨(some 4), .mov (.mv 8), none⟩] none [6, 7, 8])
  (.seq
  (.region [
  ⟨(some 9), .mov (.tmp 4), none⟩,
  ⟨(some 10), .call 35 [(.tmp 9)], none⟩,
  ⟨none, .store 4 (.tmp 2) (.mv 10), none⟩] none [9, 10])
  (.seq
  (.region [
  ⟨(some 11), .mov (.tmp 4), none⟩,
  ⟨(some 12), .nilCheck (.tmp 11), none⟩,
  ⟨(some 13), .fieldAddr 0 none (.tmp 12), none⟩,
  ⟨(some 14), .load none false (.tmp 13), none⟩,
  ⟨(some 15), .bin .eql (.tmp 14) (.const (.str [])), none⟩,
  ⟨(some 16), .mov (.mv 15), none⟩,
  ⟨(some 17), .mov (.tmp 0), (some (16, true))⟩,
  ⟨(some 18), .bin .neq (.tmp 17) (.const (.str [])), (some (16, true))⟩,
  ⟨(some 19), .pick (.tmp 16) (.tmp 18) (.const (.bool false)), none⟩,
  ⟨(some 20), .mov (.mv 19), none⟩,
  ⟨(some 21), .load (some 4) false (.tmp 2), (some (20, true))⟩,
  ⟨(some 22), .call 12 [(.tmp 21)], (some (20, true))⟩,
  ⟨(some 23), .mov (.tmp 0), (some (20, true))⟩,
  ⟨(some 24), .bin .eql (.tmp 22) (.tmp 23), (some (20, true))⟩,
  ⟨(some 25), .pick (.tmp 20) (.tmp 24) (.const (.bool false)), none⟩,
  ⟨(some 26), .call 36 [(.tmp 25)], none⟩] none [0, 4, 11, 12, 13, 14, 15, 16, 17, 18, 19, 20, 21, 22, 23, 24, 25, 26])
  (.seq
  (.region [
  ⟨(some 27), .load (some 4) true (.tmp 2), none⟩,
  ⟨none, .store 4 (.tmp 2) (.mv 27), none⟩,
  ⟨none, .store 1 (.tmp 3) (.const (.int .i64 0)), none⟩] none [27])
  .ret)))))) }

/-- fugue/fugueref29.Read -/
def a16 : AFun :=
  { nargs := 1, ntmps := 25, res := [.cell 2 (some 4), .tmp 3], gc := false, body :=
  (.seq
  (.region [
  ⟨(some 2), .alloc [.int .i64 0, .int .i64 0, .str [], .nils], none⟩,
  ⟨(some 3), .mov (.const (.int .i64 0)), none⟩] none [3])
  (.seq
  (.region [
  ⟨(some 7), .mov (.tmp 0), none⟩,
  ⟨(some 8), .call 37 [(.tmp 7), (.const (.int .i64 42))], none⟩,
  ⟨(some 6), .mov (.mv 8), none⟩,
  ⟨(some 9), .extract (.tmp 6) 0, none⟩,
  ⟨(some 10), .extract (.tmp 6) 1, none⟩,
  ⟨(some 4), .alloc [.int .i64 0, .int .i64 0, .str [], .nils], none⟩,
  ⟨none, .store 4 (.tmp 4) (.mv 9), none⟩,
  ⟨(some 5), .mov (.mv 10), none⟩] none [6, 7, 8, 9, 10])
  (.seq
  (.seq
  (.region [
  ⟨(some 11), .mov (.tmp 5), none⟩,
  ⟨(some 12), .un .not (.tmp 11), none⟩,
  ⟨(some 13), .mov (.mv 12), none⟩,
  ⟨(some 14), .mov (.tmp 0), (some (13, false))⟩,
  ⟨(some 15), .bin .eql (.tmp 14) (.const (.str [])), (some (13, false))⟩,
  ⟨(some 16), .pick (.tmp 13) (.const (.bool true)) (.tmp 15), none⟩,
  ⟨(some 17), .mov (.mv 16), none⟩,
  ⟨(some 18), .load (some 4) false (.tmp 4), (some (17, false))⟩,
  ⟨(some 19), .call 13 [(.tmp 18)], (some (17, false))⟩,
  ⟨(some 20), .mov (.tmp 0), (some (17, false))⟩,
  ⟨(some 21), .bin .neq (.tmp 19) (.tmp 20), (some (17, false))⟩,
  ⟨(some 22), .pick (.tmp 17) (.const (.bool true)) (.tmp 21), none⟩] none [0, 5, 11, 12, 13, 14, 15, 16, 17, 18, 19, 20, 21])
  (.cond (.tmp 22)
  (.seq
  (.region [
  ⟨(some 23), .build [.int .i64 0, .int .i64 0, .str [], .nils] [], none⟩,
  ⟨none, .store 4 (.tmp 2) (.mv 23), none⟩,
  ⟨(some 3), .mov (.const (.int .i64 12)), none⟩] none [4, 22, 23])
  .ret)
  .skip))
  (.seq
  (.region [
  ⟨(some 24), .load (some 4) true (.tmp 4), none⟩,
  ⟨none, .store 4 (.tmp 2) (.mv 24), none⟩,
  ⟨(some 3), .mov (.const (.int .i64 0)), none⟩] none [4, 22, 24])
  .ret)))) }

def a17_l0 : ACode :=
  (.seq
  (.seq
  (.region [
  ⟨(some 35), .mov (.tmp 5), none⟩,
  ⟨(some 36), .fieldAddr 3 none (.tmp 2), none⟩,
  ⟨(some 37), .load none false (.tmp 36), none⟩,
  ⟨(some 38), .len (.tmp 37), none⟩,
  ⟨(some 39), .bin .lss (.tmp 35) (.tmp 38), none⟩] none [35, 36, 37, 38])
  (.cond (.tmp 39)
  .skip
  (.exit 0)))
  (.seq
  (.block 1
  (.seq
  (.region [
  ⟨(some 42), .fieldAddr 3 none (.tmp 2), none⟩,
  ⟨(some 43), .loadL none false (.tmp 42), none⟩,
  ⟨(some 44), .mov (.tmp 5), none⟩,
  ⟨(some 45), .indexAddr 4 (.tmp 43) (.tmp 44), none⟩,
  ⟨(some 46), .loadL (some 4) false (.tmp 45), none⟩,
  ⟨(some 47), .fieldAddr 3 none (.tmp 3), none⟩,
  ⟨(some 48), .loadL none false (.tmp 47), none⟩,
  ⟨(some 49), .mov (.tmp 5), none⟩,
  ⟨(some 50), .indexAddr 4 (.tmp 48) (.tmp 49), none⟩,
  ⟨(some 51), .loadL (some 4) false (.tmp 50), none⟩,
  ⟨(some 52), .call 17 [(.tmp 46), (.tmp 51)], none⟩,
  ⟨(some 6), .mov (.mv 52), none⟩] (some [0, 1, 2, 3, 4, 5, 6, 7, 8, 9, 10, 11]) [39, 42, 43, 44, 45, 46, 47, 48, 49, 50, 51, 52])
  (.seq
  (.region [
  ⟨(some 53), .mov (.tmp 6), none⟩,
  ⟨(some 54), .un .not (.tmp 53), none⟩] none [6, 53])
  (.cond (.tmp 54)
  (.seq
  (.region [
  ⟨(some 4), .mov (.const (.bool false)), none⟩] none [2, 3, 5, 54])
  .ret)
  .skip))))
  (.region [
  ⟨(some 40), .mov (.tmp 5), none⟩,
  ⟨(some 41), .bin .add (.tmp 40) (.const (.int .i64 1)), none⟩,
  ⟨(some 5), .mov (.mv 41), none⟩] none [40, 41, 54])))
/-- fugue/fugueref29.Same -/
def a17 : AFun :=
  { nargs := 2, ntmps := 55, res := [.tmp 4], gc := false, body :=
  (.seq
  (.region [
  ⟨(some 2), .box (.tmp 0), none⟩,
  ⟨(some 3), .box (.tmp 1), none⟩,
  ⟨(some 4), .mov (.const (.bool false)), none⟩] none [0, 1, 4])
  (.seq
  (.seq
  (.region [
  ⟨(some 7), .fieldAddr 0 none (.tmp 2), none⟩,
  ⟨(some 8), .load none false (.tmp 7), none⟩,
  ⟨(some 9), .fieldAddr 0 none (.tmp 3), none⟩,
  ⟨(some 10), .load none false (.tmp 9), none⟩,
  ⟨(some 11), .bin .neq (.tmp 8) (.tmp 10), none⟩,
  ⟨(some 12), .mov (.mv 11), none⟩,
  ⟨(some 13), .fieldAddr 1 none (.tmp 2), (some (12, false))⟩,
  ⟨(some 14), .load none false (.tmp 13), (some (12, false))⟩,
  ⟨(some 15), .fieldAddr 1 none (.tmp 3), (some (12, false))⟩,
  ⟨(some 16), .load none false (.tmp 15), (some (12, false))⟩,
  ⟨(some 17), .bin .neq (.tmp 14) (.tmp 16), (some (12, false))⟩,
  ⟨(some 18), .pick (.tmp 12) (.const (.bool true)) (.tmp 17), none⟩,
  ⟨(some 19), .mov (.mv 18), none⟩,
  ⟨(some 20), .fieldAddr 2 none (.tmp 2), (some (19, false))⟩,
  ⟨(some 21), .load none false (.tmp 20), (some (19, false))⟩,
  ⟨(some 22), .fieldAddr 2 none (.tmp 3), (some (19, false))⟩,
  ⟨(some 23), .load none false (.tmp 22), (some (19, false))⟩,
  ⟨(some 24), .bin .neq (.tmp 21) (.tmp 23), (some (19, false))⟩,
  ⟨(some 25), .pick (.tmp 19) (.const (.bool true)) (.tmp 24), none⟩,
  ⟨(some 26), .mov (.mv 25), none⟩,
  ⟨(some 27), .fieldAddr 3 none (.tmp 2), (some (26, false))⟩,
  ⟨(some 28), .load none false (.tmp 27), (some (26, false))⟩,
  ⟨(some 29), .len (.tmp 28), (some (26, false))⟩,
  ⟨(some 30), .fieldAddr 3 none (.tmp 3), (some (26, false))⟩,
  ⟨(some 31), .load none false (.tmp 30), (some (26, false))⟩,
  ⟨(some 32), .len (.tmp 31), (some (26, false))⟩,
  ⟨(some 33), .bin .neq (.tmp 29) (.tmp 32), (some (26, false))⟩,
  ⟨(some 34), .pick (.tmp 26) (.const (.bool true)) (.tmp 33), none⟩] none [7, 8, 9, 10, 11, 12, 13, 14, 15, 16, 17, 18, 19, 20, 21, 22, 23, 24, 25, 26, 27, 28, 29, 30, 31, 32, 33])
  (.cond (.tmp 34)
  (.seq
  (.region [
  ⟨(some 4), .mov (.const (.bool false)), none⟩] none [2, 3, 34])
  .ret)
  .skip))
  (.seq
  (.seq
  (.region [
  ⟨(some 5), .mov (.const (.int .i64 0)), none⟩] none [34])
  (.block 0
  (.loop a17_l0)))
  (.seq
  (.region [
  ⟨(some 4), .mov (.const (.bool true)), none⟩] none [2, 3, 5, 39])
  .ret)))) }

/-- fugue/fugueref29.May -/
def a18 : AFun :=
  { nargs := 1, ntmps := 12, res := [.tmp 2], gc := false, body :=
  (.seq
  (.region [
  ⟨(some 1), .box (.tmp 0), none⟩,
  ⟨(some 2), .mov (.const (.bool false)), none⟩] none [0, 2])
  (.seq
  (.region [
  ⟨(some 4), .load (some 4) false (.tmp 1), none⟩,
  ⟨(some 5), .call 38 [(.tmp 4)], none⟩,
  ⟨(some 3), .mov (.mv 5), none⟩] none [4, 5])
  (.seq
  (.region [
  ⟨(some 6), .mov (.mv 3), none⟩,
  ⟨(some 7), .mov (.mv 6), none⟩,
  ⟨(some 8), .load (some 4) false (.tmp 1), (some (7, true))⟩,
  ⟨(some 9), .call 25 [(.tmp 8)], (some (7, true))⟩,
  ⟨(some 10), .bin .leq (.tmp 9) (.const (.int .i64 40)), (some (7, true))⟩,
  ⟨(some 11), .pick (.tmp 7) (.tmp 10) (.const (.bool false)), none⟩,
  ⟨(some 2), .mov (.mv 11), none⟩] none [1, 3, 6, 7, 8, 9, 10, 11])
  .ret))) }

/-- fugue/show.Same -/
def a19 : AFun :=
  { nargs := 2, ntmps := 8, res := [.tmp 4], gc := false, body :=
  (.seq
  (.region [
  ⟨(some 2), .box (.tmp 0), none⟩,
  ⟨(some 3), .box (.tmp 1), none⟩,
  ⟨(some 4), .mov (.const (.bool false)), none⟩] none [0, 1, 4])
  (.seq
  (.region [
  ⟨(some 5), .load (some 4) false (.tmp 2), none⟩,
  ⟨(some 6), .load (some 4) false (.tmp 3), none⟩,
  ⟨(some 7), .call 39 [(.tmp 5), (.tmp 6), (.const (.fn (.func 40) [] []))], none⟩,
  ⟨(some 4), .mov (.mv 7), none⟩] none [2, 3, 5, 6, 7])
  .ret)) }

def a20_l0 : ACode :=
  (.seq
  (.seq
  (.region [
  ⟨(some 17), .mov (.tmp 6), none⟩,
  ⟨(some 18), .fieldAddr 3 none (.tmp 2), none⟩,
  ⟨(some 19), .load none false (.tmp 18), none⟩,
  ⟨(some 20), .len (.tmp 19), none⟩,
  ⟨(some 21), .bin .lss (.tmp 17) (.tmp 20), none⟩] none [17, 18, 19, 20])
  (.cond (.tmp 21)
  .skip
  (.exit 0)))
  (.seq
  (.block 1
  (.region [
  ⟨(some 24), .fieldAddr 3 none (.tmp 5), none⟩,
  ⟨(some 25), .loadL none true (.tmp 24), none⟩,
  ⟨(some 26), .fieldAddr 3 none (.tmp 2), none⟩,
  ⟨(some 27), .loadL none false (.tmp 26), none⟩,
  ⟨(some 28), .mov (.tmp 6), none⟩,
  ⟨(some 29), .indexAddr 4 (.tmp 27) (.tmp 28), none⟩,
  ⟨(some 30), .loadL (some 4) false (.tmp 29), none⟩,
  ⟨(some 31), .mov (.tmp 1), none⟩,
  ⟨(some 32), .bin .sub (.tmp 31) (.const (.int .i64 1)), none⟩,
  ⟨(some 33), .call 20 [(.tmp 30), (.tmp 32)], none⟩,
  ⟨(some 34), .buildSlice ⟨25, 4⟩ [(.tmp 33)], none⟩,
  ⟨(some 35), .append ⟨25, 4⟩ 56 (.mv 25) (.tmp 34), none⟩,
  ⟨(some 36), .fieldAddr 3 none (.tmp 5), none⟩,
  ⟨none, .store 1 (.tmp 36) (.mv 35), none⟩] (some [0, 1, 2, 3, 4, 5, 6, 7, 8, 9, 10, 11, 12, 13]) [21, 24, 25, 26, 27, 28, 29, 30, 31, 32, 33, 34, 35, 36]))
  (.region [
  ⟨(some 22), .mov (.tmp 6), none⟩,
  ⟨(some 23), .bin .add (.tmp 22) (.const (.int .i64 1)), none⟩,
  ⟨(some 6), .mov (.mv 23), none⟩] none [22, 23])))
/-- fugue/fugueref29.Cut -/
def a20 : AFun :=
  { nargs := 2, ntmps := 38, res := [.cell 4 (some 4)], gc := false, body :=
  (.seq
  (.region [
  ⟨(some 2), .box (.tmp 0), none⟩,
  ⟨(some 4), .alloc [.int .i64 0, .int .i64 0, .str [], .nils], none⟩] none [0])
  (.seq
  (.seq
  (.region [
  ⟨(some 7), .mov (.tmp 1), none⟩,
  ⟨(some 8), .bin .leq (.tmp 7) (.const (.int .i64 0)), none⟩] none [7])
  (.cond (.tmp 8)
  (.seq
  (.region [
  ⟨(some 9), .build [.int .i64 0, .int .i64 0, .str [], .nils] [(0, 1, (.const (.int .i64 4)))], none⟩,
  ⟨none, .store 4 (.tmp 4) (.mv 9), none⟩] none [1, 2, 8, 9])
  .ret)
  .skip))
  (.seq
  (.region [
  ⟨(some 10), .fieldAddr 0 none (.tmp 2), none⟩,
  ⟨(some 11), .load none false (.tmp 10), none⟩,
  ⟨(some 12), .fieldAddr 1 none (.tmp 2), none⟩,
  ⟨(some 13), .load none false (.tmp 12), none⟩,
  ⟨(some 14), .fieldAddr 2 none (.tmp 2), none⟩,
  ⟨(some 15), .load none false (.tmp 14), none⟩,
  ⟨(some 16), .build [.int .i64 0, .int .i64 0, .str [], .nils] [(0, 1, (.tmp 11)), (1, 1, (.tmp 13)), (2, 1, (.tmp 15))], none⟩,
  ⟨(some 5), .alloc [.int .i64 0, .int .i64 0, .str [], .nils], none⟩,
  ⟨none, .store 4 (.tmp 5) (.mv 16), none⟩] none [8, 10, 11, 12, 13, 14, 15, 16])
  (.seq
  (.seq
  (.region [
  ⟨(some 6), .mov (.const (.int .i64 0)), none⟩] none [])
  (.block 0
  (.loop a20_l0)))
  (.seq
  (.region [
  ⟨(some 37), .load (some 4) true (.tmp 5), none⟩,
  ⟨none, .store 4 (.tmp 4) (.mv 37), none⟩] none [1, 2, 5, 6, 21, 37])
  .ret))))) }

def a21_l0 : ACode :=
  (.seq
  (.seq
  (.region [
  ⟨(some 38), .mov (.tmp 5), none⟩,
  ⟨(some 39), .fieldAddr 3 none (.tmp 2), none⟩,
  ⟨(some 40), .load none false (.tmp 39), none⟩,
  ⟨(some 41), .len (.tmp 40), none⟩,
  ⟨(some 42), .bin .lss (.tmp 38) (.tmp 41), none⟩] none [38, 39, 40, 41])
  (.cond (.tmp 42)
  .skip
  (.exit 0)))
  (.seq
  (.block 1
  (.seq
  (.region [
  ⟨(some 45), .fieldAddr 3 none (.tmp 2), none⟩,
  ⟨(some 46), .loadL none false (.tmp 45), none⟩,
  ⟨(some 47), .mov (.tmp 5), none⟩,
  ⟨(some 48), .indexAddr 4 (.tmp 46) (.tmp 47), none⟩,
  ⟨(some 49), .loadL (some 4) false (.tmp 48), none⟩,
  ⟨(some 50), .fieldAddr 3 none (.tmp 3), none⟩,
  ⟨(some 51), .loadL none false (.tmp 50), none⟩,
  ⟨(some 52), .mov (.tmp 5), none⟩,
  ⟨(some 53), .indexAddr 4 (.tmp 51) (.tmp 52), none⟩,
  ⟨(some 54), .loadL (some 4) false (.tmp 53), none⟩,
  ⟨(some 55), .call 21 [(.tmp 49), (.tmp 54)], none⟩,
  ⟨(some 6), .mov (.mv 55), none⟩] (some [0, 1, 2, 3, 4, 5, 6, 7, 8, 9, 10, 11]) [42, 45, 46, 47, 48, 49, 50, 51, 52, 53, 54, 55])
  (.seq
  (.region [
  ⟨(some 56), .mov (.tmp 6), none⟩,
  ⟨(some 57), .un .not (.tmp 56), none⟩] none [6, 56])
  (.cond (.tmp 57)
  (.seq
  (.region [
  ⟨(some 4), .mov (.const (.bool false)), none⟩] none [2, 3, 5, 57])
  .ret)
  .skip))))
  (.region [
  ⟨(some 43), .mov (.tmp 5), none⟩,
  ⟨(some 44), .bin .add (.tmp 43) (.const (.int .i64 1)), none⟩,
  ⟨(some 5), .mov (.mv 44), none⟩] none [43, 44, 57])))
/-- fugue/fugueref29.Less -/
def a21 : AFun :=
  { nargs := 2, ntmps := 58, res := [.tmp 4], gc := false, body :=
  (.seq
  (.region [
  ⟨(some 2), .box (.tmp 0), none⟩,
  ⟨(some 3), .box (.tmp 1), none⟩,
  ⟨(some 4), .mov (.const (.bool false)), none⟩] none [0, 1, 4])
  (.seq
  (.seq
  (.region [
  ⟨(some 7), .fieldAddr 0 none (.tmp 2), none⟩,
  ⟨(some 8), .load none false (.tmp 7), none⟩,
  ⟨(some 9), .bin .eql (.tmp 8) (.const (.int .i64 4)), none⟩] none [7, 8])
  (.cond (.tmp 9)
  (.seq
  (.region [
  ⟨(some 4), .mov (.const (.bool true)), none⟩] none [2, 3, 9])
  .ret)
  .skip))
  (.seq
  (.seq
  (.region [
  ⟨(some 10), .fieldAddr 0 none (.tmp 2), none⟩,
  ⟨(some 11), .load none false (.tmp 10), none⟩,
  ⟨(some 12), .fieldAddr 0 none (.tmp 3), none⟩,
  ⟨(some 13), .load none false (.tmp 12), none⟩,
  ⟨(some 14), .bin .neq (.tmp 11) (.tmp 13), none⟩,
  ⟨(some 15), .mov (.mv 14), none⟩,
  ⟨(some 16), .fieldAddr 1 none (.tmp 2), (some (15, false))⟩,
  ⟨(some 17), .load none false (.tmp 16), (some (15, false))⟩,
  ⟨(some 18), .fieldAddr 1 none (.tmp 3), (some (15, false))⟩,
  ⟨(some 19), .load none false (.tmp 18), (some (15, false))⟩,
  ⟨(some 20), .bin .neq (.tmp 17) (.tmp 19), (some (15, false))⟩,
  ⟨(some 21), .pick (.tmp 15) (.const (.bool true)) (.tmp 20), none⟩,
  ⟨(some 22), .mov (.mv 21), none⟩,
  ⟨(some 23), .fieldAddr 2 none (.tmp 2), (some (22, false))⟩,
  ⟨(some 24), .load none false (.tmp 23), (some (22, false))⟩,
  ⟨(some 25), .fieldAddr 2 none (.tmp 3), (some (22, false))⟩,
  ⟨(some 26), .load none false (.tmp 25), (some (22, false))⟩,
  ⟨(some 27), .bin .neq (.tmp 24) (.tmp 26), (some (22, false))⟩,
  ⟨(some 28), .pick (.tmp 22) (.const (.bool true)) (.tmp 27), none⟩,
  ⟨(some 29), .mov (.mv 28), none⟩,
  ⟨(some 30), .fieldAddr 3 none (.tmp 2), (some (29, false))⟩,
  ⟨(some 31), .load none false (.tmp 30), (some (29, false))⟩,
  ⟨(some 32), .len (.tmp 31), (some (29, false))⟩,
  ⟨(some 33), .fieldAddr 3 none (.tmp 3), (some (29, false))⟩,
  ⟨(some 34), .load none false (.tmp 33), (some (29, false))⟩,
  ⟨(some 35), .len (.tmp 34), (some (29, false))⟩,
  ⟨(some 36), .bin .neq (.tmp 32) (.tmp 35), (some (29, false))⟩,
  ⟨(some 37), .pick (.tmp 29) (.const (.bool true)) (.tmp 36), none⟩] none [9, 10, 11, 12, 13, 14, 15, 16, 17, 18, 19, 20, 21, 22, 23, 24, 25, 26, 27, 28, 29, 30, 31, 32, 33, 34, 35, 36])
  (.cond (.tmp 37)
  (.seq
  (.region [
  ⟨(some 4), .mov (.const (.bool false)), none⟩] none [2, 3, 37])
  .ret)
  .skip))
  (.seq
  (.seq
  (.region [
  ⟨(some 5), .mov (.const (.int .i64 0)), none⟩] none [37])
  (.block 0
  (.loop a21_l0)))
  (.seq
  (.region [
  ⟨(some 4), .mov (.const (.bool true)), none⟩] none [2, 3, 5, 42])
  .ret))))) }

/-- fugue/show.Less -/
def a22 : AFun :=
  { nargs := 2, ntmps := 8, res := [.tmp 4], gc := false, body :=
  (.seq
  (.region [
  ⟨(some 2), .box (.tmp 0), none⟩,
  ⟨(some 3), .box (.tmp 1), none⟩,
  ⟨(some 4), .mov (.const (.bool false)), none⟩] none [0, 1, 4])
  (.seq
  (.region [
  ⟨(some 5), .load (some 4) false (.tmp 2), none⟩,
  ⟨(some 6), .load (some 4) false (.tmp 3), none⟩,
  ⟨(some 7), .call 39 [(.tmp 5), (.tmp 6), (.const (.fn (.func 41) [] []))], none⟩,
  ⟨(some 4), .mov (.mv 7), none⟩] none [2, 3, 5, 6, 7])
  .ret)) }

def a23_l0 : ACode :=
  (.seq
  (.region [
  ⟨(some 17), .bin .lss (.tmp 16) (.tmp 15), none⟩] none [])
  (.seq
  (.cond (.tmp 17)
  .skip
  (.exit 0))
  (.seq
  (.block 1
  (.seq
  (.region [
  ⟨(some 18), .indexAddr 4 (.tmp 14) (.tmp 16), none⟩,
  ⟨(some 19), .load (some 4) false (.tmp 18), none⟩,
  ⟨(some 7), .alloc [.int .i64 0, .int .i64 0, .str [], .nils], none⟩,
  ⟨none, .store 4 (.tmp 7) (.mv 19), none⟩] none [17, 18, 19])
  (.region [
  ⟨(some 20), .fieldAddr 3 none (.tmp 2), none⟩,
  ⟨(some 21), .loadL none true (.tmp 20), none⟩,
  ⟨(some 22), .loadL (some 4) false (.tmp 7), none⟩,
  ⟨(some 23), .mov (.tmp 1), none⟩,
  ⟨(some 24), .bin .sub (.tmp 23) (.const (.int .i64 1)), none⟩,
  ⟨(some 25), .call 23 [(.tmp 22), (.tmp 24)], none⟩,
  ⟨(some 26), .buildSlice ⟨25, 4⟩ [(.tmp 25)], none⟩,
  ⟨(some 27), .append ⟨25, 4⟩ 56 (.mv 21) (.tmp 26), none⟩,
  ⟨(some 28), .fieldAddr 3 none (.tmp 2), none⟩,
  ⟨none, .store 1 (.tmp 28) (.mv 27), none⟩] (some [0, 1, 2, 3, 4, 5, 6, 7, 8, 9]) [7, 20, 21, 22, 23, 24, 25, 26, 27, 28])))
  (.region [
  ⟨(some 29), .bin .add (.tmp 16) (.const (.int .i64 1)), none⟩,
  ⟨(some 16), .mov (.mv 29), none⟩] none [29]))))
/-- fugue/show.Cut -/
def a23 : AFun :=
  { nargs := 2, ntmps := 31, res := [.cell 4 (some 4)], gc := false, body :=
  (.seq
  (.region [
  ⟨(some 2), .box (.tmp 0), none⟩,
  ⟨(some 4), .alloc [.int .i64 0, .int .i64 0, .str [], .nils], none⟩] none [0])
  (.seq
  (.seq
  (.region [
  ⟨(some 8), .mov (.tmp 1), none⟩,
  ⟨(some 9), .bin .leq (.tmp 8) (.const (.int .i64 0)), none⟩] none [8])
  (.cond (.tmp 9)
  (.seq
  (.region [
  ⟨(some 10), .build [.int .i64 0, .int .i64 0, .str [], .nils] [(0, 1, (.const (.int .i64 4)))], none⟩,
  ⟨none, .store 4 (.tmp 4) (.mv 10), none⟩] none [1, 2, 9, 10])
  .ret)
  .skip))
  (.seq
  (.region [
  ⟨(some 11), .fieldAddr 3 none (.tmp 2), none⟩,
  ⟨(some 12), .load none false (.tmp 11), none⟩,
  ⟨(some 5), .mov (.mv 12), none⟩] none [9, 11, 12])
  (.seq
  (.region [
  ⟨(some 13), .fieldAddr 3 none (.tmp 2), none⟩,
  ⟨none, .store 1 (.tmp 13) (.const (.nils)), none⟩] none [13])
  (.seq
  (.seq
  (.region [
  ⟨(some 14), .mov (.tmp 5), none⟩,
  ⟨(some 15), .len (.tmp 14), none⟩,
  ⟨(some 16), .mov (.const (.int .i64 0)), none⟩] none [5])
  (.block 0
  (.loop a23_l0)))
  (.seq
  (.region [
  ⟨(some 30), .load (some 4) true (.tmp 2), none⟩,
  ⟨none, .store 4 (.tmp 4) (.mv 30), none⟩] none [1, 2, 14, 15, 16, 17, 30])
  .ret)))))) }

/-- fugue/chars.Upper -/
def a24 : AFun :=
  { nargs := 1, ntmps := 5, res := [.tmp 2], gc := false, body :=
  (.seq
  (.region [
  ⟨(some 2), .mov (.const (.bool false)), none⟩] none [2])
  (.seq
  (.region [
  ⟨(some 3), .mov (.mv 0), none⟩,
  ⟨(some 4), .call 42 [(.tmp 3), (.const (.int .i32 65)), (.const (.int .i32 90))], none⟩,
  ⟨(some 2), .mov (.mv 4), none⟩] none [0, 3, 4])
  .ret)) }

def a25_l0 : ACode :=
  (.seq
  (.seq
  (.region [
  ⟨(some 6), .mov (.tmp 4), none⟩,
  ⟨(some 7), .fieldAddr 3 none (.tmp 1), none⟩,
  ⟨(some 8), .load none false (.tmp 7), none⟩,
  ⟨(some 9), .len (.tmp 8), none⟩,
  ⟨(some 10), .bin .lss (.tmp 6) (.tmp 9), none⟩] none [6, 7, 8, 9])
  (.cond (.tmp 10)
  .skip
  (.exit 0)))
  (.seq
  (.block 1
  (.seq
  (.region [
  ⟨(some 13), .fieldAddr 3 none (.tmp 1), none⟩,
  ⟨(some 14), .load none false (.tmp 13), none⟩,
  ⟨(some 15), .mov (.tmp 4), none⟩,
  ⟨(some 16), .indexAddr 4 (.tmp 14) (.tmp 15), none⟩,
  ⟨(some 17), .load (some 4) false (.tmp 16), none⟩,
  ⟨(some 18), .call 25 [(.tmp 17)], none⟩,
  ⟨(some 5), .mov (.mv 18), none⟩] none [10, 13, 14, 15, 16, 17, 18])
  (.seq
  (.region [
  ⟨(some 19), .mov (.tmp 5), none⟩,
  ⟨(some 20), .mov (.tmp 3), none⟩,
  ⟨(some 21), .bin .gtr (.tmp 19) (.tmp 20), none⟩] none [19, 20])
  (.cond (.tmp 21)
  (.region [
  ⟨(some 22), .mov (.tmp 5), none⟩,
  ⟨(some 3), .mov (.mv 22), none⟩] none [5, 21, 22])
  .skip))))
  (.region [
  ⟨(some 11), .mov (.tmp 4), none⟩,
  ⟨(some 12), .bin .add (.tmp 11) (.const (.int .i64 1)), none⟩,
  ⟨(some 4), .mov (.mv 12), none⟩] none [5, 11, 12, 21])))
/-- fugue/fugueref29.Nested -/
def a25 : AFun :=
  { nargs := 1, ntmps := 29, res := [.tmp 2], gc := false, body :=
  (.seq
  (.region [
  ⟨(some 1), .box (.tmp 0), none⟩,
  ⟨(some 2), .mov (.const (.int .i64 0)), none⟩] none [0, 2])
  (.seq
  (.region [
  ⟨(some 3), .mov (.const (.int .i64 0)), none⟩] none [])
  (.seq
  (.seq
  (.region [
  ⟨(some 4), .mov (.const (.int .i64 0)), none⟩] none [])
  (.block 0
  (.loop a25_l0)))
  (.seq
  (.seq
  (.region [
  ⟨(some 23), .fieldAddr 0 none (.tmp 1), none⟩,
  ⟨(some 24), .load none false (.tmp 23), none⟩,
  ⟨(some 25), .bin .eql (.tmp 24) (.const (.int .i64 1)), none⟩] none [1, 4, 10, 23, 24])
  (.cond (.tmp 25)
  (.region [
  ⟨(some 26), .mov (.tmp 3), none⟩,
  ⟨(some 27), .bin .add (.tmp 26) (.const (.int .i64 1)), none⟩,
  ⟨(some 3), .mov (.mv 27), none⟩] none [25, 26, 27])
  .skip))
  (.seq
  (.region [
  ⟨(some 28), .mov (.mv 3), none⟩,
  ⟨(some 2), .mov (.mv 28), none⟩] none [3, 25, 28])
  .ret))))) }

/-- fugue/fugueref29.name -/
def a26 : AFun :=
  { nargs := 1, ntmps := 9, res := [.tmp 2], gc := false, body :=
  (.seq
  (.region [
  ⟨(some 2), .mov (.const (.str [])), none⟩] none [2])
  (.seq
  (.region [
  ⟨(some 4), .buildSlice ⟨9, 1⟩ [(.const (.str [78, 105, 108])), (.const (.str [67, 111, 110, 115])), (.const (.str [84, 114, 117, 101])), (.const (.str [90, 39])), (.const (.str [65, 95, 49])), (.const (.str [80, 97, 105, 114]))], none⟩,
  ⟨(some 3), .mov (.mv 4), none⟩] none [4])
  (.seq
  (.region [
  ⟨(some 5), .mov (.mv 3), none⟩,
  ⟨(some 6), .mov (.mv 0), none⟩,
  ⟨(some 7), .indexAddr 1 (.tmp 5) (.tmp 6), none⟩,
  ⟨(some 8), .load none true (.tmp 7), none⟩,
  ⟨(some 2), .mov (.mv 8), none⟩] none [0, 3, 5, 6, 7, 8])
  .ret))) }

def a27_l0 : ACode :=
  (.seq
  (.region [
  ⟨(some 62), .bin .lss (.tmp 61) (.tmp 60), none⟩] none [])
  (.seq
  (.cond (.tmp 62)
  .skip
  (.exit 1))
  (.seq
  (.block 2
  (.seq
  (.region [
  ⟨(some 63), .indexAddr 4 (.tmp 59) (.tmp 61), none⟩,
  ⟨(some 64), .load (some 4) false (.tmp 63), none⟩,
  ⟨(some 6), .alloc [.int .i64 0, .int .i64 0, .str [], .nils], none⟩,
  ⟨none, .store 4 (.tmp 6) (.mv 64), none⟩] none [62, 63, 64])
  (.seq
  (.region [
  ⟨(some 65), .load (some 4) false (.tmp 6), none⟩,
  ⟨(some 66), .mov (.tmp 1), none⟩,
  ⟨(some 67), .bin .sub (.tmp 66) (.const (.int .i64 1)), none⟩,
  ⟨(some 68), .call 27 [(.tmp 65), (.tmp 67)], none⟩,
  ⟨(some 69), .un .not (.tmp 68), none⟩] none [6, 65, 66, 67, 68])
  (.cond (.tmp 69)
  (.seq
  (.region [
  ⟨(some 4), .mov (.const (.bool false)), none⟩] none [1, 59, 60, 61, 69])
  .ret)
  .skip))))
  (.region [
  ⟨(some 70), .bin .add (.tmp 61) (.const (.int .i64 1)), none⟩,
  ⟨(some 61), .mov (.mv 70), none⟩] none [69, 70]))))
/-- fugue/show.told -/
def a27 : AFun :=
  { nargs := 2, ntmps := 71, res := [.tmp 4], gc := false, body :=
  (.seq
  (.region [
  ⟨(some 2), .box (.tmp 0), none⟩,
  ⟨(some 4), .mov (.const (.bool false)), none⟩] none [0, 4])
  (.seq
  (.seq
  (.region [
  ⟨(some 7), .fieldAddr 0 none (.tmp 2), none⟩,
  ⟨(some 8), .load none false (.tmp 7), none⟩] none [7])
  (.block 0
  (.seq
  (.region [
  ⟨(some 10), .bin .eql (.tmp 8) (.const (.int .i64 2)), none⟩,
  ⟨(some 9), .mov (.mv 10), none⟩] none [10])
  (.cond (.tmp 9)
  (.seq
  (.region [
  ⟨(some 11), .fieldAddr 2 none (.tmp 2), none⟩,
  ⟨(some 12), .load none false (.tmp 11), none⟩,
  ⟨(some 13), .bin .eql (.tmp 12) (.const (.str [])), none⟩,
  ⟨(some 14), .mov (.mv 13), none⟩,
  ⟨(some 15), .fieldAddr 3 none (.tmp 2), (some (14, true))⟩,
  ⟨(some 16), .load none false (.tmp 15), (some (14, true))⟩,
  ⟨(some 17), .len (.tmp 16), (some (14, true))⟩,
  ⟨(some 18), .bin .eql (.tmp 17) (.const (.int .i64 0)), (some (14, true))⟩,
  ⟨(some 19), .pick (.tmp 14) (.tmp 18) (.const (.bool false)), none⟩,
  ⟨(some 4), .mov (.mv 19), none⟩] none [1, 2, 8, 9, 11, 12, 13, 14, 15, 16, 17, 18, 19])
  .ret)
  (.seq
  (.seq
  (.region [
  ⟨(some 21), .bin .eql (.tmp 8) (.const (.int .i64 3)), none⟩,
  ⟨(some 20), .mov (.mv 21), none⟩] none [9, 21])
  (.cond (.tmp 20)
  .skip
  (.region [
  ⟨(some 22), .bin .eql (.tmp 8) (.const (.int .i64 4)), none⟩,
  ⟨(some 20), .mov (.mv 22), none⟩] none [22])))
  (.cond (.tmp 20)
  (.seq
  (.region [
  ⟨(some 23), .fieldAddr 2 none (.tmp 2), none⟩,
  ⟨(some 24), .load none false (.tmp 23), none⟩,
  ⟨(some 25), .bin .eql (.tmp 24) (.const (.str [])), none⟩,
  ⟨(some 26), .mov (.mv 25), none⟩,
  ⟨(some 27), .fieldAddr 3 none (.tmp 2), (some (26, true))⟩,
  ⟨(some 28), .load none false (.tmp 27), (some (26, true))⟩,
  ⟨(some 29), .len (.tmp 28), (some (26, true))⟩,
  ⟨(some 30), .bin .eql (.tmp 29) (.const (.int .i64 0)), (some (26, true))⟩,
  ⟨(some 31), .pick (.tmp 26) (.tmp 30) (.const (.bool false)), none⟩,
  ⟨(some 32), .mov (.mv 31), none⟩,
  ⟨(some 33), .fieldAddr 1 none (.tmp 2), (some (32, true))⟩,
  ⟨(some 34), .load none false (.tmp 33), (some (32, true))⟩,
  ⟨(some 35), .bin .eql (.tmp 34) (.const (.int .i64 0)), (some (32, true))⟩,
  ⟨(some 36), .pick (.tmp 32) (.tmp 35) (.const (.bool false)), none⟩,
  ⟨(some 4), .mov (.mv 36), none⟩] none [1, 2, 8, 20, 23, 24, 25, 26, 27, 28, 29, 30, 31, 32, 33, 34, 35, 36])
  .ret)
  (.seq
  (.region [
  ⟨(some 38), .bin .eql (.tmp 8) (.const (.int .i64 1)), none⟩,
  ⟨(some 37), .mov (.mv 38), none⟩] none [8, 20, 38])
  (.cond (.tmp 37)
  (.seq
  (.seq
  (.region [
  ⟨(some 39), .mov (.tmp 1), none⟩,
  ⟨(some 40), .bin .eql (.tmp 39) (.const (.int .i64 0)), none⟩,
  ⟨(some 41), .mov (.mv 40), none⟩,
  ⟨(some 42), .fieldAddr 1 none (.tmp 2), (some (41, false))⟩,
  ⟨(some 43), .load none false (.tmp 42), (some (41, false))⟩,
  ⟨(some 44), .bin .neq (.tmp 43) (.const (.int .i64 0)), (some (41, false))⟩,
  ⟨(some 45), .pick (.tmp 41) (.const (.bool true)) (.tmp 44), none⟩,
  ⟨(some 46), .mov (.mv 45), none⟩,
  ⟨(some 47), .fieldAddr 2 none (.tmp 2), (some (46, false))⟩,
  ⟨(some 48), .load none false (.tmp 47), (some (46, false))⟩,
  ⟨(some 49), .call 24 [(.tmp 48)], (some (46, false))⟩,
  ⟨(some 50), .un .not (.tmp 49), (some (46, false))⟩,
  ⟨(some 51), .pick (.tmp 46) (.const (.bool true)) (.tmp 50), none⟩,
  ⟨(some 52), .mov (.mv 51), none⟩,
  ⟨(some 53), .fieldAddr 3 none (.tmp 2), (some (52, false))⟩,
  ⟨(some 54), .load none false (.tmp 53), (some (52, false))⟩,
  ⟨(some 55), .len (.tmp 54), (some (52, false))⟩,
  ⟨(some 56), .bin .gtr (.tmp 55) (.const (.int .i64 8)), (some (52, false))⟩,
  ⟨(some 57), .pick (.tmp 52) (.const (.bool true)) (.tmp 56), none⟩] none [37, 39, 40, 41, 42, 43, 44, 45, 46, 47, 48, 49, 50, 51, 52, 53, 54, 55, 56])
  (.cond (.tmp 57)
  (.seq
  (.region [
  ⟨(some 4), .mov (.const (.bool false)), none⟩] none [1, 2, 57])
  .ret)
  .skip))
  (.seq
  (.seq
  (.region [
  ⟨(some 58), .fieldAddr 3 none (.tmp 2), none⟩,
  ⟨(some 59), .load none false (.tmp 58), none⟩,
  ⟨(some 60), .len (.tmp 59), none⟩,
  ⟨(some 61), .mov (.const (.int .i64 0)), none⟩] none [2, 57, 58])
  (.block 1
  (.loop a27_l0)))
  (.seq
  (.region [
  ⟨(some 4), .mov (.const (.bool true)), none⟩] none [1, 59, 60, 61, 62])
  .ret)))
  .skip))))))))
  (.seq
  (.region [
  ⟨(some 4), .mov (.const (.bool false)), none⟩] none [1, 2, 37])
  .ret))) }

def a28_l0 : ACode :=
  (.seq
  (.region [
  ⟨(some 44), .bin .lss (.tmp 43) (.tmp 42), none⟩] none [])
  (.seq
  (.cond (.tmp 44)
  .skip
  (.exit 1))
  (.seq
  (.block 2
  (.seq
  (.region [
  ⟨(some 45), .indexAddr 4 (.tmp 41) (.tmp 43), none⟩,
  ⟨(some 46), .load (some 4) false (.tmp 45), none⟩,
  ⟨(some 8), .alloc [.int .i64 0, .int .i64 0, .str [], .nils], none⟩,
  ⟨none, .store 4 (.tmp 8) (.mv 46), none⟩] none [44, 45, 46])
  (.seq
  (.region [
  ⟨(some 47), .call 29 [(.tmp 2), (.const (.int .u8 32))], none⟩] none [47])
  (.region [
  ⟨(some 48), .load none false (.tmp 3), none⟩,
  ⟨(some 49), .load (some 4) false (.tmp 8), none⟩,
  ⟨(some 50), .callv (.tmp 48) [(.tmp 49), (.const (.bool true))], none⟩] none [8, 48, 49, 50]))))
  (.region [
  ⟨(some 51), .bin .add (.tmp 43) (.const (.int .i64 1)), none⟩,
  ⟨(some 43), .mov (.mv 51), none⟩] none [51]))))
/-- fugue/show.Print$1 -/
def a28 : AFun :=
  { nargs := 4, ntmps := 52, res := [], gc := false, body :=
  (.seq
  (.region [
  ⟨(some 4), .box (.tmp 0), none⟩] none [0])
  (.seq
  (.region [
  ⟨(some 9), .mov (.tmp 1), none⟩,
  ⟨(some 10), .mov (.mv 9), none⟩,
  ⟨(some 11), .fieldAddr 3 none (.tmp 4), (some (10, true))⟩,
  ⟨(some 12), .load none false (.tmp 11), (some (10, true))⟩,
  ⟨(some 13), .len (.tmp 12), (some (10, true))⟩,
  ⟨(some 14), .bin .gtr (.tmp 13) (.const (.int .i64 0)), (some (10, true))⟩,
  ⟨(some 15), .mov (.mv 14), (some (10, true))⟩,
  ⟨(some 16), .fieldAddr 1 none (.tmp 4), (some (15, false))⟩,
  ⟨(some 17), .load none false (.tmp 16), (some (15, false))⟩,
  ⟨(some 18), .bin .lss (.tmp 17) (.const (.int .i64 0)), (some (15, false))⟩,
  ⟨(some 19), .pick (.tmp 15) (.const (.bool true)) (.tmp 18), (some (10, true))⟩,
  ⟨(some 20), .pick (.tmp 10) (.tmp 19) (.const (.bool false)), none⟩,
  ⟨(some 6), .mov (.mv 20), none⟩] none [1, 9, 10, 11, 12, 13, 14, 15, 16, 17, 18, 19, 20])
  (.seq
  (.seq
  (.region [
  ⟨(some 21), .mov (.tmp 6), none⟩] none [6])
  (.cond (.tmp 21)
  (.seq
  (.region [
  ⟨(some 22), .call 29 [(.tmp 2), (.const (.int .u8 40))], none⟩] none [21, 22])
  (.region [
  ⟨none, .deferv (.const (.fn (.func 29) [] [])) [(.tmp 2), (.const (.int .u8 41))], none⟩] none []))
  .skip))
  (.seq
  (.seq
  (.region [
  ⟨(some 23), .fieldAddr 0 none (.tmp 4), none⟩,
  ⟨(some 24), .load none false (.tmp 23), none⟩] none [21, 23])
  (.block 0
  (.seq
  (.region [
  ⟨(some 29), .bin .eql (.tmp 24) (.const (.int .i64 2)), none⟩,
  ⟨(some 28), .mov (.mv 29), none⟩] none [29])
  (.cond (.tmp 28)
  (.region [
  ⟨(some 30), .fieldAddr 1 none (.tmp 4), none⟩,
  ⟨(some 31), .load none false (.tmp 30), none⟩,
  ⟨(some 32), .call 31 [(.tmp 31)], none⟩,
  ⟨(some 33), .call 30 [(.tmp 2), (.tmp 32)], none⟩] none [24, 28, 30, 31, 32, 33])
  (.seq
  (.region [
  ⟨(some 35), .bin .eql (.tmp 24) (.const (.int .i64 3)), none⟩,
  ⟨(some 34), .mov (.mv 35), none⟩] none [28, 35])
  (.cond (.tmp 34)
  (.region [
  ⟨(some 36), .call 30 [(.tmp 2), (.const (.str [60, 102, 117, 110, 62]))], none⟩] none [24, 34, 36])
  (.seq
  (.region [
  ⟨(some 38), .bin .eql (.tmp 24) (.const (.int .i64 4)), none⟩,
  ⟨(some 37), .mov (.mv 38), none⟩] none [24, 34, 38])
  (.cond (.tmp 37)
  (.region [
  ⟨(some 39), .call 30 [(.tmp 2), (.const (.str [46, 46, 46]))], none⟩] none [37, 39])
  (.region [
  ⟨(some 25), .fieldAddr 2 none (.tmp 4), none⟩,
  ⟨(some 26), .load none false (.tmp 25), none⟩,
  ⟨(some 27), .call 30 [(.tmp 2), (.tmp 26)], none⟩] none [25, 26, 27, 37])))))))))
  (.seq
  (.region [
  ⟨(some 40), .fieldAddr 3 none (.tmp 4), none⟩,
  ⟨(some 41), .load none false (.tmp 40), none⟩,
  ⟨(some 42), .len (.tmp 41), none⟩,
  ⟨(some 43), .mov (.const (.int .i64 0)), none⟩] none [4, 40])
  (.block 1
  (.loop a28_l0))))))) }

/-- (*strings.Builder).WriteByte -/
def a29 : AFun :=
  { nargs := 2, ntmps := 17, res := [.tmp 4], gc := false, body :=
  (.seq
  (.region [
  ⟨(some 4), .mov (.const (.niliface)), none⟩] none [4])
  (.seq
  (.region [
  ⟨(some 5), .mov (.tmp 0), none⟩,
  ⟨(some 6), .call 43 [(.tmp 5)], none⟩] none [5, 6])
  (.seq
  (.region [
  ⟨(some 7), .mov (.tmp 0), none⟩,
  ⟨(some 8), .mov (.tmp 0), none⟩,
  ⟨(some 9), .nilCheck (.tmp 8), none⟩,
  ⟨(some 10), .fieldAddr 1 none (.tmp 9), none⟩,
  ⟨(some 11), .load none true (.tmp 10), none⟩,
  ⟨(some 12), .mov (.tmp 1), none⟩,
  ⟨(some 13), .buildSlice ⟨5, 1⟩ [(.tmp 12)], none⟩,
  ⟨(some 14), .append ⟨5, 1⟩ 1 (.mv 11) (.tmp 13), none⟩,
  ⟨(some 15), .nilCheck (.tmp 7), none⟩,
  ⟨(some 16), .fieldAddr 1 none (.tmp 15), none⟩,
  ⟨none, .store 1 (.tmp 16) (.mv 14), none⟩] none [0, 1, 7, 8, 9, 10, 11, 12, 13, 14, 15, 16])
  (.seq
  (.region [
  ⟨(some 4), .mov (.const (.niliface)), none⟩] none [])
  .ret)))) }

/-- (*strings.Builder).WriteString -/
def a30 : AFun :=
  { nargs := 2, ntmps := 19, res := [.tmp 4, .tmp 5], gc := false, body :=
  (.seq
  (.region [
  ⟨(some 4), .mov (.const (.int .i64 0)), none⟩,
  ⟨(some 5), .mov (.const (.niliface)), none⟩] none [4, 5])
  (.seq
  (.region [
  ⟨(some 6), .mov (.tmp 0), none⟩,
  ⟨(some 7), .call 43 [(.tmp 6)], none⟩] none [6, 7])
  (.seq
  (.region [
  ⟨(some 8), .mov (.tmp 0), none⟩,
  ⟨(some 9), .mov (.tmp 0), none⟩,
  ⟨(some 10), .nilCheck (.tmp 9), none⟩,
  ⟨(some 11), .fieldAddr 1 none (.tmp 10), none⟩,
  ⟨(some 12), .load none true (.tmp 11), none⟩,
  ⟨(some 13), .mov (.tmp 1), none⟩,
  ⟨(some 14), .appendS ⟨5, 1⟩ 1 (.mv 12) (.tmp 13), none⟩,
  ⟨(some 15), .nilCheck (.tmp 8), none⟩,
  ⟨(some 16), .fieldAddr 1 none (.tmp 15), none⟩,
  ⟨none, .store 1 (.tmp 16) (.mv 14), none⟩] none [0, 8, 9, 10, 11, 12, 13, 14, 15, 16])
  (.seq
  (.region [
  ⟨(some 17), .mov (.mv 1), none⟩,
  ⟨(some 18), .lenS (.tmp 17), none⟩,
  ⟨(some 4), .mov (.mv 18), none⟩,
  ⟨(some 5), .mov (.const (.niliface)), none⟩] none [1, 17, 18])
  .ret)))) }

def a33_l0 : ACode :=
  (.seq
  (.seq
  (.region [
  ⟨(some 19), .mov (.tmp 4), none⟩,
  ⟨(some 20), .fieldAddr 3 none (.tmp 1), none⟩,
  ⟨(some 21), .load none false (.tmp 20), none⟩,
  ⟨(some 22), .len (.tmp 21), none⟩,
  ⟨(some 23), .bin .lss (.tmp 19) (.tmp 22), none⟩] none [19, 20, 21, 22])
  (.cond (.tmp 23)
  .skip
  (.exit 1)))
  (.seq
  (.block 2
  (.seq
  (.region [
  ⟨(some 26), .fieldAddr 3 none (.tmp 1), none⟩,
  ⟨(some 27), .load none false (.tmp 26), none⟩,
  ⟨(some 28), .mov (.tmp 4), none⟩,
  ⟨(some 29), .indexAddr 4 (.tmp 27) (.tmp 28), none⟩,
  ⟨(some 30), .load (some 4) false (.tmp 29), none⟩,
  ⟨(some 5), .alloc [.int .i64 0, .int .i64 0, .str [], .nils], none⟩,
  ⟨none, .store 4 (.tmp 5) (.mv 30), none⟩] none [23, 26, 27, 28, 29, 30])
  (.seq
  (.region [
  ⟨(some 31), .fieldAddr 3 none (.tmp 5), none⟩,
  ⟨(some 32), .load none false (.tmp 31), none⟩,
  ⟨(some 33), .len (.tmp 32), none⟩,
  ⟨(some 34), .bin .gtr (.tmp 33) (.const (.int .i64 0)), none⟩,
  ⟨(some 35), .mov (.mv 34), none⟩,
  ⟨(some 36), .fieldAddr 1 none (.tmp 5), (some (35, false))⟩,
  ⟨(some 37), .load none false (.tmp 36), (some (35, false))⟩,
  ⟨(some 38), .bin .lss (.tmp 37) (.const (.int .i64 0)), (some (35, false))⟩,
  ⟨(some 39), .pick (.tmp 35) (.const (.bool true)) (.tmp 38), none⟩] none [31, 32, 33, 34, 35, 36, 37, 38])
  (.cond (.tmp 39)
  (.region [
  ⟨(some 40), .mov (.tmp 3), none⟩,
  ⟨(some 41), .bin .add (.tmp 40) (.const (.str [32, 40])), none⟩,
  ⟨(some 42), .load (some 4) false (.tmp 5), none⟩,
  ⟨(some 43), .call 33 [(.tmp 42)], none⟩,
  ⟨(some 44), .bin .add (.tmp 41) (.tmp 43), none⟩,
  ⟨(some 45), .bin .add (.tmp 44) (.const (.str [41])), none⟩,
  ⟨(some 3), .mov (.mv 45), none⟩] none [5, 39, 40, 41, 42, 43, 44, 45])
  (.region [
  ⟨(some 46), .mov (.tmp 3), none⟩,
  ⟨(some 47), .bin .add (.tmp 46) (.const (.str [32])), none⟩,
  ⟨(some 48), .load (some 4) false (.tmp 5), none⟩,
  ⟨(some 49), .call 33 [(.tmp 48)], none⟩,
  ⟨(some 50), .bin .add (.tmp 47) (.tmp 49), none⟩,
  ⟨(some 3), .mov (.mv 50), none⟩] none [5, 39, 46, 47, 48, 49, 50])))))
  (.region [
  ⟨(some 24), .mov (.tmp 4), none⟩,
  ⟨(some 25), .bin .add (.tmp 24) (.const (.int .i64 1)), none⟩,
  ⟨(some 4), .mov (.mv 25), none⟩] none [24, 25])))
/-- fugue/fugueref29.text -/
def a33 : AFun :=
  { nargs := 1, ntmps := 52, res := [.tmp 2], gc := false, body :=
  (.seq
  (.region [
  ⟨(some 1), .box (.tmp 0), none⟩,
  ⟨(some 2), .mov (.const (.str [])), none⟩] none [0, 2])
  (.seq
  (.seq
  (.region [
  ⟨(some 6), .fieldAddr 0 none (.tmp 1), none⟩,
  ⟨(some 7), .load none false (.tmp 6), none⟩] none [6])
  (.block 0
  (.seq
  (.region [
  ⟨(some 9), .bin .eql (.tmp 7) (.const (.int .i64 2)), none⟩,
  ⟨(some 8), .mov (.mv 9), none⟩] none [9])
  (.cond (.tmp 8)
  (.seq
  (.region [
  ⟨(some 10), .fieldAddr 1 none (.tmp 1), none⟩,
  ⟨(some 11), .load none false (.tmp 10), none⟩,
  ⟨(some 12), .call 45 [(.tmp 11)], none⟩,
  ⟨(some 2), .mov (.mv 12), none⟩] none [1, 7, 8, 10, 11, 12])
  .ret)
  (.seq
  (.region [
  ⟨(some 14), .bin .eql (.tmp 7) (.const (.int .i64 3)), none⟩,
  ⟨(some 13), .mov (.mv 14), none⟩] none [8, 14])
  (.cond (.tmp 13)
  (.seq
  (.region [
  ⟨(some 2), .mov (.const (.str [60, 102, 117, 110, 62])), none⟩] none [1, 7, 13])
  .ret)
  (.seq
  (.region [
  ⟨(some 16), .bin .eql (.tmp 7) (.const (.int .i64 4)), none⟩,
  ⟨(some 15), .mov (.mv 16), none⟩] none [7, 13, 16])
  (.cond (.tmp 15)
  (.seq
  (.region [
  ⟨(some 2), .mov (.const (.str [46, 46, 46])), none⟩] none [1, 15])
  .ret)
  .skip))))))))
  (.seq
  (.region [
  ⟨(some 17), .fieldAddr 2 none (.tmp 1), none⟩,
  ⟨(some 18), .load none false (.tmp 17), none⟩,
  ⟨(some 3), .mov (.mv 18), none⟩] none [15, 17, 18])
  (.seq
  (.seq
  (.region [
  ⟨(some 4), .mov (.const (.int .i64 0)), none⟩] none [])
  (.block 1
  (.loop a33_l0)))
  (.seq
  (.region [
  ⟨(some 51), .mov (.mv 3), none⟩,
  ⟨(some 2), .mov (.mv 51), none⟩] none [1, 3, 4, 23, 51])
  .ret))))) }

def a35_l0 : ACode :=
  (.block 1
  (.seq
  (.region [
  ⟨(some 23), .load none false (.tmp 1), none⟩,
  ⟨(some 24), .nilCheck (.tmp 23), none⟩,
  ⟨(some 25), .fieldAddr 0 none (.tmp 24), none⟩,
  ⟨(some 26), .load none false (.tmp 25), none⟩,
  ⟨(some 27), .call 48 [(.tmp 26), (.const (.str [32]))], none⟩,
  ⟨(some 22), .mov (.mv 27), none⟩,
  ⟨(some 28), .extract (.tmp 22) 0, none⟩,
  ⟨(some 29), .extract (.tmp 22) 1, none⟩,
  ⟨(some 4), .mov (.mv 28), none⟩,
  ⟨(some 5), .mov (.mv 29), none⟩] none [22, 23, 24, 25, 26, 27, 28, 29])
  (.seq
  (.seq
  (.region [
  ⟨(some 30), .mov (.tmp 5), none⟩,
  ⟨(some 31), .un .not (.tmp 30), none⟩] none [5, 30])
  (.cond (.tmp 31)
  (.seq
  (.region [
  ⟨(some 32), .loadA 4 (.tmp 3), none⟩,
  ⟨none, .storeA 4 (.tmp 2) (.mv 32), none⟩] none [1, 3, 4, 31, 32])
  .ret)
  .skip))
  (.seq
  (.region [
  ⟨(some 33), .load none false (.tmp 1), none⟩,
  ⟨(some 34), .mov (.tmp 4), none⟩,
  ⟨(some 35), .nilCheck (.tmp 33), none⟩,
  ⟨(some 36), .fieldAddr 0 none (.tmp 35), none⟩,
  ⟨none, .store 1 (.tmp 36) (.mv 34), none⟩] none [4, 31, 33, 34, 35, 36])
  (.region [
  ⟨(some 37), .fieldAddr 3 none (.tmp 3), none⟩,
  ⟨(some 38), .loadL none true (.tmp 37), none⟩,
  ⟨(some 39), .load none false (.tmp 1), none⟩,
  ⟨(some 40), .call 47 [(.tmp 39)], none⟩,
  ⟨(some 41), .buildSlice ⟨25, 4⟩ [(.tmp 40)], none⟩,
  ⟨(some 42), .append ⟨25, 4⟩ 56 (.mv 38) (.tmp 41), none⟩,
  ⟨(some 43), .fieldAddr 3 none (.tmp 3), none⟩,
  ⟨none, .store 1 (.tmp 43) (.mv 42), none⟩] (some [0, 1, 2, 3, 4, 5, 6, 7]) [37, 38, 39, 40, 41, 42, 43])))))
/-- (*fugue/show.reader).value -/
def a35 : AFun :=
  { nargs := 1, ntmps := 44, res := [.cellA 2 4], gc := true, body :=
  (.seq
  (.region [
  ⟨(some 1), .gbox 59 (.tmp 0), none⟩,
  ⟨(some 2), .alloc [.int .i64 0, .int .i64 0, .str [], .nils], none⟩] none [0])
  (.seq
  (.region [
  ⟨(some 6), .load none false (.tmp 1), none⟩,
  ⟨(some 7), .nilCheck (.tmp 6), none⟩,
  ⟨(some 8), .fieldAddr 1 none (.tmp 7), none⟩,
  ⟨(some 9), .load none false (.tmp 8), none⟩,
  ⟨(some 10), .bin .gtr (.tmp 9) (.const (.int .i64 0)), none⟩,
  ⟨(some 11), .call 36 [(.tmp 10)], none⟩] none [6, 7, 8, 9, 10, 11])
  (.seq
  (.region [
  ⟨(some 12), .load none false (.tmp 1), none⟩,
  ⟨(some 13), .nilCheck (.tmp 12), none⟩,
  ⟨(some 14), .fieldAddr 1 none (.tmp 13), none⟩,
  ⟨(some 15), .load none false (.tmp 14), none⟩,
  ⟨(some 16), .bin .sub (.tmp 15) (.const (.int .i64 1)), none⟩,
  ⟨(some 17), .nilCheck (.tmp 12), none⟩,
  ⟨(some 18), .fieldAddr 1 none (.tmp 17), none⟩,
  ⟨none, .store 1 (.tmp 18) (.mv 16), none⟩] none [12, 13, 14, 15, 16, 17, 18])
  (.seq
  (.region [
  ⟨(some 19), .mkFunc (.func 46) [] [(.tmp 1)], none⟩,
  ⟨none, .deferv (.tmp 19) [], none⟩] none [19])
  (.seq
  (.region [
  ⟨(some 20), .load none false (.tmp 1), none⟩,
  ⟨(some 21), .call 47 [(.tmp 20)], none⟩,
  ⟨(some 3), .alloc [.int .i64 0, .int .i64 0, .str [], .nils], none⟩,
  ⟨none, .storeA 4 (.tmp 3) (.mv 21), none⟩] none [20, 21])
  (.block 0
  (.loop a35_l0))))))) }

/-- fugue/show.must -/
def a36 : AFun :=
  { nargs := 1, ntmps := 6, res := [], gc := false, body :=
  (.seq
  (.region [
  ⟨(some 2), .mov (.tmp 0), none⟩,
  ⟨(some 3), .un .not (.tmp 2), none⟩] none [0, 2])
  (.cond (.tmp 3)
  (.region [
  ⟨(some 4), .build [] [], none⟩,
  ⟨(some 5), .mkIface 58 (.tmp 4), none⟩,
  ⟨none, .panic (.tmp 5), none⟩] none [3, 4, 5])
  .skip)) }

def a37_l0 : ACode :=
  (.seq
  (.seq
  (.region [
  ⟨(some 56), .mov (.tmp 11), none⟩,
  ⟨(some 57), .mov (.tmp 6), none⟩,
  ⟨(some 58), .len (.tmp 57), none⟩,
  ⟨(some 59), .bin .lss (.tmp 56) (.tmp 58), none⟩] none [56, 57, 58])
  (.cond (.tmp 59)
  .skip
  (.exit 0)))
  (.seq
  (.block 1
  (.seq
  (.region [
  ⟨(some 62), .mov (.tmp 6), none⟩,
  ⟨(some 63), .mov (.tmp 11), none⟩,
  ⟨(some 64), .indexAddr 1 (.tmp 62) (.tmp 63), none⟩,
  ⟨(some 65), .load none false (.tmp 64), none⟩,
  ⟨(some 12), .mov (.mv 65), none⟩] none [59, 62, 63, 64, 65])
  (.seq
  (.seq
  (.region [
  ⟨(some 66), .mov (.tmp 12), none⟩,
  ⟨(some 67), .lenS (.tmp 66), none⟩,
  ⟨(some 68), .bin .gtr (.tmp 67) (.const (.int .i64 1)), none⟩,
  ⟨(some 69), .mov (.mv 68), none⟩,
  ⟨(some 70), .mov (.tmp 12), (some (69, true))⟩,
  ⟨(some 71), .index (.tmp 70) (.const (.int .i64 0)), (some (69, true))⟩,
  ⟨(some 72), .bin .eql (.tmp 71) (.const (.int .u8 40)), (some (69, true))⟩,
  ⟨(some 73), .pick (.tmp 69) (.tmp 72) (.const (.bool false)), none⟩,
  ⟨(some 74), .mov (.mv 73), none⟩,
  ⟨(some 75), .mov (.tmp 12), (some (74, true))⟩,
  ⟨(some 76), .mov (.tmp 12), (some (74, true))⟩,
  ⟨(some 77), .lenS (.tmp 76), (some (74, true))⟩,
  ⟨(some 78), .bin .sub (.tmp 77) (.const (.int .i64 1)), (some (74, true))⟩,
  ⟨(some 79), .index (.tmp 75) (.tmp 78), (some (74, true))⟩,
  ⟨(some 80), .bin .eql (.tmp 79) (.const (.int .u8 41)), (some (74, true))⟩,
  ⟨(some 81), .pick (.tmp 74) (.tmp 80) (.const (.bool false)), none⟩] none [66, 67, 68, 69, 70, 71, 72, 73, 74, 75, 76, 77, 78, 79, 80])
  (.cond (.tmp 81)
  (.region [
  ⟨(some 82), .mov (.tmp 12), none⟩,
  ⟨(some 83), .mov (.tmp 12), none⟩,
  ⟨(some 84), .lenS (.tmp 83), none⟩,
  ⟨(some 85), .bin .sub (.tmp 84) (.const (.int .i64 1)), none⟩,
  ⟨(some 86), .sliceS (.tmp 82) (some (.const (.int .i64 1))) (some (.tmp 85)), none⟩,
  ⟨(some 12), .mov (.mv 86), none⟩] none [81, 82, 83, 84, 85, 86])
  .skip))
  (.seq
  (.region [
  ⟨(some 88), .mov (.tmp 12), none⟩,
  ⟨(some 89), .mov (.tmp 1), none⟩,
  ⟨(some 90), .bin .sub (.tmp 89) (.const (.int .i64 1)), none⟩,
  ⟨(some 91), .call 37 [(.tmp 88), (.tmp 90)], none⟩,
  ⟨(some 87), .mov (.mv 91), none⟩,
  ⟨(some 92), .extract (.tmp 87) 0, none⟩,
  ⟨(some 93), .extract (.tmp 87) 1, none⟩,
  ⟨(some 13), .alloc [.int .i64 0, .int .i64 0, .str [], .nils], none⟩,
  ⟨none, .store 4 (.tmp 13) (.mv 92), none⟩,
  ⟨(some 14), .mov (.mv 93), none⟩] none [12, 81, 87, 88, 89, 90, 91, 92, 93])
  (.seq
  (.seq
  (.region [
  ⟨(some 94), .mov (.tmp 14), none⟩,
  ⟨(some 95), .un .not (.tmp 94), none⟩] none [14, 94])
  (.cond (.tmp 95)
  (.seq
  (.region [
  ⟨(some 96), .build [.int .i64 0, .int .i64 0, .str [], .nils] [], none⟩,
  ⟨none, .store 4 (.tmp 4) (.mv 96), none⟩,
  ⟨(some 5), .mov (.const (.bool false)), none⟩] none [1, 6, 10, 11, 13, 95, 96])
  .ret)
  .skip))
  (.region [
  ⟨(some 97), .fieldAddr 3 none (.tmp 10), none⟩,
  ⟨(some 98), .load none true (.tmp 97), none⟩,
  ⟨(some 99), .load (some 4) false (.tmp 13), none⟩,
  ⟨(some 100), .buildSlice ⟨25, 4⟩ [(.tmp 99)], none⟩,
  ⟨(some 101), .append ⟨25, 4⟩ 56 (.mv 98) (.tmp 100), none⟩,
  ⟨(some 102), .fieldAddr 3 none (.tmp 10), none⟩,
  ⟨none, .store 1 (.tmp 102) (.mv 101), none⟩] none [13, 95, 97, 98, 99, 100, 101, 102]))))))
  (.region [
  ⟨(some 60), .mov (.tmp 11), none⟩,
  ⟨(some 61), .bin .add (.tmp 60) (.const (.int .i64 1)), none⟩,
  ⟨(some 11), .mov (.mv 61), none⟩] none [60, 61])))
/-- fugue/fugueref29.guess -/
def a37 : AFun :=
  { nargs := 2, ntmps := 104, res := [.cell 4 (some 4), .tmp 5], gc := false, body :=
  (.seq
  (.region [
  ⟨(some 4), .alloc [.int .i64 0, .int .i64 0, .str [], .nils], none⟩,
  ⟨(some 5), .mov (.const (.bool false)), none⟩] none [5])
  (.seq
  (.region [
  ⟨(some 16), .mov (.tmp 0), none⟩,
  ⟨(some 17), .call 49 [(.tmp 16)], none⟩,
  ⟨(some 15), .mov (.mv 17), none⟩,
  ⟨(some 18), .extract (.tmp 15) 0, none⟩,
  ⟨(some 19), .extract (.tmp 15) 1, none⟩,
  ⟨(some 6), .mov (.mv 18), none⟩,
  ⟨(some 7), .mov (.mv 19), none⟩] none [0, 15, 16, 17, 18, 19])
  (.seq
  (.seq
  (.region [
  ⟨(some 20), .mov (.tmp 7), none⟩,
  ⟨(some 21), .un .not (.tmp 20), none⟩,
  ⟨(some 22), .mov (.mv 21), none⟩,
  ⟨(some 23), .mov (.tmp 6), (some (22, false))⟩,
  ⟨(some 24), .len (.tmp 23), (some (22, false))⟩,
  ⟨(some 25), .bin .eql (.tmp 24) (.const (.int .i64 0)), (some (22, false))⟩,
  ⟨(some 26), .pick (.tmp 22) (.const (.bool true)) (.tmp 25), none⟩,
  ⟨(some 27), .mov (.mv 26), none⟩,
  ⟨(some 28), .mov (.tmp 1), (some (27, false))⟩,
  ⟨(some 29), .bin .eql (.tmp 28) (.const (.int .i64 0)), (some (27, false))⟩,
  ⟨(some 30), .pick (.tmp 27) (.const (.bool true)) (.tmp 29), none⟩] none [7, 20, 21, 22, 23, 24, 25, 26, 27, 28, 29])
  (.cond (.tmp 30)
  (.seq
  (.region [
  ⟨(some 31), .build [.int .i64 0, .int .i64 0, .str [], .nils] [], none⟩,
  ⟨none, .store 4 (.tmp 4) (.mv 31), none⟩,
  ⟨(some 5), .mov (.const (.bool false)), none⟩] none [1, 6, 30, 31])
  .ret)
  .skip))
  (.seq
  (.region [
  ⟨(some 33), .mov (.tmp 6), none⟩,
  ⟨(some 34), .indexAddr 1 (.tmp 33) (.const (.int .i64 0)), none⟩,
  ⟨(some 35), .load none false (.tmp 34), none⟩,
  ⟨(some 36), .call 50 [(.tmp 35)], none⟩,
  ⟨(some 32), .mov (.mv 36), none⟩,
  ⟨(some 37), .extract (.tmp 32) 0, none⟩,
  ⟨(some 38), .extract (.tmp 32) 1, none⟩,
  ⟨(some 8), .mov (.mv 37), none⟩,
  ⟨(some 9), .mov (.mv 38), none⟩] none [30, 32, 33, 34, 35, 36, 37, 38])
  (.seq
  (.region [
  ⟨(some 39), .mov (.tmp 6), none⟩,
  ⟨(some 40), .indexAddr 1 (.tmp 39) (.const (.int .i64 0)), none⟩,
  ⟨(some 41), .load none false (.tmp 40), none⟩,
  ⟨(some 42), .build [.int .i64 0, .int .i64 0, .str [], .nils] [(0, 1, (.const (.int .i64 1))), (2, 1, (.tmp 41))], none⟩,
  ⟨(some 10), .alloc [.int .i64 0, .int .i64 0, .str [], .nils], none⟩,
  ⟨none, .store 4 (.tmp 10) (.mv 42), none⟩] none [39, 40, 41, 42])
  (.seq
  (.seq
  (.region [
  ⟨(some 43), .mov (.tmp 9), none⟩] none [9])
  (.cond (.tmp 43)
  (.region [
  ⟨(some 44), .mov (.tmp 8), none⟩,
  ⟨(some 45), .build [.int .i64 0, .int .i64 0, .str [], .nils] [(0, 1, (.const (.int .i64 2))), (1, 1, (.tmp 44))], none⟩,
  ⟨none, .store 4 (.tmp 10) (.mv 45), none⟩] none [8, 43, 44, 45])
  .skip))
  (.seq
  (.seq
  (.region [
  ⟨(some 46), .mov (.tmp 6), none⟩,
  ⟨(some 47), .indexAddr 1 (.tmp 46) (.const (.int .i64 0)), none⟩,
  ⟨(some 48), .load none false (.tmp 47), none⟩,
  ⟨(some 49), .bin .eql (.tmp 48) (.const (.str [60, 102, 117, 110, 62])), none⟩] none [8, 43, 46, 47, 48])
  (.cond (.tmp 49)
  (.region [
  ⟨(some 50), .build [.int .i64 0, .int .i64 0, .str [], .nils] [(0, 1, (.const (.int .i64 3)))], none⟩,
  ⟨none, .store 4 (.tmp 10) (.mv 50), none⟩] none [49, 50])
  .skip))
  (.seq
  (.seq
  (.region [
  ⟨(some 51), .mov (.tmp 6), none⟩,
  ⟨(some 52), .indexAddr 1 (.tmp 51) (.const (.int .i64 0)), none⟩,
  ⟨(some 53), .load none false (.tmp 52), none⟩,
  ⟨(some 54), .bin .eql (.tmp 53) (.const (.str [46, 46, 46])), none⟩] none [49, 51, 52, 53])
  (.cond (.tmp 54)
  (.region [
  ⟨(some 55), .build [.int .i64 0, .int .i64 0, .str [], .nils] [(0, 1, (.const (.int .i64 4)))], none⟩,
  ⟨none, .store 4 (.tmp 10) (.mv 55), none⟩] none [54, 55])
  .skip))
  (.seq
  (.seq
  (.region [
  ⟨(some 11), .mov (.const (.int .i64 1)), none⟩] none [54])
  (.block 0
  (.loop a37_l0)))
  (.seq
  (.region [
  ⟨(some 103), .load (some 4) true (.tmp 10), none⟩,
  ⟨none, .store 4 (.tmp 4) (.mv 103), none⟩,
  ⟨(some 5), .mov (.const (.bool true)), none⟩] none [1, 6, 10, 11, 59, 103])
  .ret)))))))))) }

def a38_l0 : ACode :=
  (.seq
  (.seq
  (.region [
  ⟨(some 55), .mov (.tmp 5), none⟩,
  ⟨(some 56), .fieldAddr 3 none (.tmp 1), none⟩,
  ⟨(some 57), .load none false (.tmp 56), none⟩,
  ⟨(some 58), .len (.tmp 57), none⟩,
  ⟨(some 59), .bin .lss (.tmp 55) (.tmp 58), none⟩] none [55, 56, 57, 58])
  (.cond (.tmp 59)
  .skip
  (.exit 0)))
  (.seq
  (.block 1
  (.seq
  (.region [
  ⟨(some 62), .fieldAddr 3 none (.tmp 1), none⟩,
  ⟨(some 63), .load none false (.tmp 62), none⟩,
  ⟨(some 64), .mov (.tmp 5), none⟩,
  ⟨(some 65), .indexAddr 4 (.tmp 63) (.tmp 64), none⟩,
  ⟨(some 66), .load (some 4) false (.tmp 65), none⟩,
  ⟨(some 67), .call 38 [(.tmp 66)], none⟩,
  ⟨(some 6), .mov (.mv 67), none⟩] none [59, 62, 63, 64, 65, 66, 67])
  (.seq
  (.region [
  ⟨(some 68), .mov (.tmp 6), none⟩,
  ⟨(some 69), .un .not (.tmp 68), none⟩] none [6, 68])
  (.cond (.tmp 69)
  (.seq
  (.region [
  ⟨(some 2), .mov (.const (.bool false)), none⟩] none [1, 5, 69])
  .ret)
  .skip))))
  (.region [
  ⟨(some 60), .mov (.tmp 5), none⟩,
  ⟨(some 61), .bin .add (.tmp 60) (.const (.int .i64 1)), none⟩,
  ⟨(some 5), .mov (.mv 61), none⟩] none [60, 61, 69])))
/-- fugue/fugueref29.good -/
def a38 : AFun :=
  { nargs := 1, ntmps := 70, res := [.tmp 2], gc := false, body :=
  (.seq
  (.region [
  ⟨(some 1), .box (.tmp 0), none⟩,
  ⟨(some 2), .mov (.const (.bool false)), none⟩] none [0, 2])
  (.seq
  (.region [
  ⟨(some 7), .fieldAddr 2 none (.tmp 1), none⟩,
  ⟨(some 8), .load none false (.tmp 7), none⟩,
  ⟨(some 9), .call 51 [(.tmp 8)], none⟩,
  ⟨(some 3), .mov (.mv 9), none⟩] none [7, 8, 9])
  (.seq
  (.region [
  ⟨(some 10), .fieldAddr 2 none (.tmp 1), none⟩,
  ⟨(some 11), .load none false (.tmp 10), none⟩,
  ⟨(some 12), .bin .eql (.tmp 11) (.const (.str [])), none⟩,
  ⟨(some 13), .mov (.mv 12), none⟩,
  ⟨(some 14), .fieldAddr 3 none (.tmp 1), (some (13, true))⟩,
  ⟨(some 15), .load none false (.tmp 14), (some (13, true))⟩,
  ⟨(some 16), .len (.tmp 15), (some (13, true))⟩,
  ⟨(some 17), .bin .eql (.tmp 16) (.const (.int .i64 0)), (some (13, true))⟩,
  ⟨(some 18), .pick (.tmp 13) (.tmp 17) (.const (.bool false)), none⟩,
  ⟨(some 4), .mov (.mv 18), none⟩] none [10, 11, 12, 13, 14, 15, 16, 17, 18])
  (.seq
  (.seq
  (.region [
  ⟨(some 19), .fieldAddr 0 none (.tmp 1), none⟩,
  ⟨(some 20), .load none false (.tmp 19), none⟩,
  ⟨(some 21), .bin .eql (.tmp 20) (.const (.int .i64 2)), none⟩] none [19, 20])
  (.cond (.tmp 21)
  (.seq
  (.region [
  ⟨(some 22), .mov (.mv 4), none⟩,
  ⟨(some 2), .mov (.mv 22), none⟩] none [1, 3, 4, 21, 22])
  .ret)
  .skip))
  (.seq
  (.seq
  (.region [
  ⟨(some 23), .fieldAddr 0 none (.tmp 1), none⟩,
  ⟨(some 24), .load none false (.tmp 23), none⟩,
  ⟨(some 25), .bin .eql (.tmp 24) (.const (.int .i64 3)), none⟩,
  ⟨(some 26), .mov (.mv 25), none⟩,
  ⟨(some 27), .fieldAddr 0 none (.tmp 1), (some (26, false))⟩,
  ⟨(some 28), .load none false (.tmp 27), (some (26, false))⟩,
  ⟨(some 29), .bin .eql (.tmp 28) (.const (.int .i64 4)), (some (26, false))⟩,
  ⟨(some 30), .pick (.tmp 26) (.const (.bool true)) (.tmp 29), none⟩] none [21, 23, 24, 25, 26, 27, 28, 29])
  (.cond (.tmp 30)
  (.seq
  (.region [
  ⟨(some 31), .mov (.mv 4), none⟩,
  ⟨(some 32), .mov (.mv 31), none⟩,
  ⟨(some 33), .fieldAddr 1 none (.tmp 1), (some (32, true))⟩,
  ⟨(some 34), .load none false (.tmp 33), (some (32, true))⟩,
  ⟨(some 35), .bin .eql (.tmp 34) (.const (.int .i64 0)), (some (32, true))⟩,
  ⟨(some 36), .pick (.tmp 32) (.tmp 35) (.const (.bool false)), none⟩,
  ⟨(some 2), .mov (.mv 36), none⟩] none [1, 3, 4, 30, 31, 32, 33, 34, 35, 36])
  .ret)
  .skip))
  (.seq
  (.seq
  (.region [
  ⟨(some 37), .fieldAddr 0 none (.tmp 1), none⟩,
  ⟨(some 38), .load none false (.tmp 37), none⟩,
  ⟨(some 39), .bin .neq (.tmp 38) (.const (.int .i64 1)), none⟩,
  ⟨(some 40), .mov (.mv 39), none⟩,
  ⟨(some 41), .fieldAddr 1 none (.tmp 1), (some (40, false))⟩,
  ⟨(some 42), .load none false (.tmp 41), (some (40, false))⟩,
  ⟨(some 43), .bin .neq (.tmp 42) (.const (.int .i64 0)), (some (40, false))⟩,
  ⟨(some 44), .pick (.tmp 40) (.const (.bool true)) (.tmp 43), none⟩,
  ⟨(some 45), .mov (.mv 44), none⟩,
  ⟨(some 46), .mov (.tmp 3), (some (45, false))⟩,
  ⟨(some 47), .un .not (.tmp 46), (some (45, false))⟩,
  ⟨(some 48), .pick (.tmp 45) (.const (.bool true)) (.tmp 47), none⟩,
  ⟨(some 49), .mov (.mv 48), none⟩,
  ⟨(some 50), .fieldAddr 3 none (.tmp 1), (some (49, false))⟩,
  ⟨(some 51), .load none false (.tmp 50), (some (49, false))⟩,
  ⟨(some 52), .len (.tmp 51), (some (49, false))⟩,
  ⟨(some 53), .bin .gtr (.tmp 52) (.const (.int .i64 8)), (some (49, false))⟩,
  ⟨(some 54), .pick (.tmp 49) (.const (.bool true)) (.tmp 53), none⟩] none [3, 4, 30, 37, 38, 39, 40, 41, 42, 43, 44, 45, 46, 47, 48, 49, 50, 51, 52, 53])
  (.cond (.tmp 54)
  (.seq
  (.region [
  ⟨(some 2), .mov (.const (.bool false)), none⟩] none [1, 54])
  .ret)
  .skip))
  (.seq
  (.seq
  (.region [
  ⟨(some 5), .mov (.const (.int .i64 0)), none⟩] none [54])
  (.block 0
  (.loop a38_l0)))
  (.seq
  (.region [
  ⟨(some 2), .mov (.const (.bool true)), none⟩] none [1, 5, 59])
  .ret)))))))) }

def a39_l0 : ACode :=
  (.seq
  (.region [
  ⟨(some 43), .bin .lss (.tmp 42) (.tmp 41), none⟩] none [])
  (.seq
  (.cond (.tmp 43)
  .skip
  (.exit 0))
  (.seq
  (.block 1
  (.seq
  (.region [
  ⟨(some 44), .mov (.tmp 42), none⟩,
  ⟨(some 7), .mov (.mv 44), none⟩] none [43, 44])
  (.seq
  (.region [
  ⟨(some 45), .fieldAddr 3 none (.tmp 3), none⟩,
  ⟨(some 46), .loadL none false (.tmp 45), none⟩,
  ⟨(some 47), .mov (.tmp 7), none⟩,
  ⟨(some 48), .indexAddr 4 (.tmp 46) (.tmp 47), none⟩,
  ⟨(some 49), .loadL (some 4) false (.tmp 48), none⟩,
  ⟨(some 50), .fieldAddr 3 none (.tmp 4), none⟩,
  ⟨(some 51), .loadL none false (.tmp 50), none⟩,
  ⟨(some 52), .mov (.tmp 7), none⟩,
  ⟨(some 53), .indexAddr 4 (.tmp 51) (.tmp 52), none⟩,
  ⟨(some 54), .loadL (some 4) false (.tmp 53), none⟩,
  ⟨(some 55), .mov (.tmp 2), none⟩,
  ⟨(some 56), .call 39 [(.tmp 49), (.tmp 54), (.tmp 55)], none⟩,
  ⟨(some 57), .un .not (.tmp 56), none⟩] (some [0, 1, 2, 3, 4, 5, 6, 7, 8, 9, 10, 11, 12]) [7, 45, 46, 47, 48, 49, 50, 51, 52, 53, 54, 55, 56])
  (.cond (.tmp 57)
  (.seq
  (.region [
  ⟨(some 6), .mov (.const (.bool false)), none⟩] none [2, 3, 4, 41, 42, 57])
  .ret)
  .skip))))
  (.region [
  ⟨(some 58), .bin .add (.tmp 42) (.const (.int .i64 1)), none⟩,
  ⟨(some 42), .mov (.mv 58), none⟩] none [57, 58]))))
/-- fugue/show.pair -/
def a39 : AFun :=
  { nargs := 3, ntmps := 59, res := [.tmp 6], gc := false, body :=
  (.seq
  (.region [
  ⟨(some 3), .box (.tmp 0), none⟩,
  ⟨(some 4), .box (.tmp 1), none⟩,
  ⟨(some 6), .mov (.const (.bool false)), none⟩] none [0, 1, 6])
  (.seq
  (.seq
  (.region [
  ⟨(some 8), .mov (.tmp 2), none⟩,
  ⟨(some 9), .load (some 4) false (.tmp 3), none⟩,
  ⟨(some 10), .callv (.tmp 8) [(.tmp 9)], none⟩] none [8, 9])
  (.cond (.tmp 10)
  (.seq
  (.region [
  ⟨(some 6), .mov (.const (.bool true)), none⟩] none [2, 3, 4, 10])
  .ret)
  .skip))
  (.seq
  (.seq
  (.region [
  ⟨(some 11), .fieldAddr 0 none (.tmp 3), none⟩,
  ⟨(some 12), .load none false (.tmp 11), none⟩,
  ⟨(some 13), .fieldAddr 0 none (.tmp 4), none⟩,
  ⟨(some 14), .load none false (.tmp 13), none⟩,
  ⟨(some 15), .bin .neq (.tmp 12) (.tmp 14), none⟩,
  ⟨(some 16), .mov (.mv 15), none⟩,
  ⟨(some 17), .fieldAddr 1 none (.tmp 3), (some (16, false))⟩,
  ⟨(some 18), .load none false (.tmp 17), (some (16, false))⟩,
  ⟨(some 19), .fieldAddr 1 none (.tmp 4), (some (16, false))⟩,
  ⟨(some 20), .load none false (.tmp 19), (some (16, false))⟩,
  ⟨(some 21), .bin .neq (.tmp 18) (.tmp 20), (some (16, false))⟩,
  ⟨(some 22), .pick (.tmp 16) (.const (.bool true)) (.tmp 21), none⟩,
  ⟨(some 23), .mov (.mv 22), none⟩,
  ⟨(some 24), .fieldAddr 2 none (.tmp 3), (some (23, false))⟩,
  ⟨(some 25), .load none false (.tmp 24), (some (23, false))⟩,
  ⟨(some 26), .fieldAddr 2 none (.tmp 4), (some (23, false))⟩,
  ⟨(some 27), .load none false (.tmp 26), (some (23, false))⟩,
  ⟨(some 28), .bin .neq (.tmp 25) (.tmp 27), (some (23, false))⟩,
  ⟨(some 29), .pick (.tmp 23) (.const (.bool true)) (.tmp 28), none⟩,
  ⟨(some 30), .mov (.mv 29), none⟩,
  ⟨(some 31), .fieldAddr 3 none (.tmp 3), (some (30, false))⟩,
  ⟨(some 32), .load none false (.tmp 31), (some (30, false))⟩,
  ⟨(some 33), .len (.tmp 32), (some (30, false))⟩,
  ⟨(some 34), .fieldAddr 3 none (.tmp 4), (some (30, false))⟩,
  ⟨(some 35), .load none false (.tmp 34), (some (30, false))⟩,
  ⟨(some 36), .len (.tmp 35), (some (30, false))⟩,
  ⟨(some 37), .bin .neq (.tmp 33) (.tmp 36), (some (30, false))⟩,
  ⟨(some 38), .pick (.tmp 30) (.const (.bool true)) (.tmp 37), none⟩] none [10, 11, 12, 13, 14, 15, 16, 17, 18, 19, 20, 21, 22, 23, 24, 25, 26, 27, 28, 29, 30, 31, 32, 33, 34, 35, 36, 37])
  (.cond (.tmp 38)
  (.seq
  (.region [
  ⟨(some 6), .mov (.const (.bool false)), none⟩] none [2, 3, 4, 38])
  .ret)
  .skip))
  (.seq
  (.seq
  (.region [
  ⟨(some 39), .fieldAddr 3 none (.tmp 3), none⟩,
  ⟨(some 40), .load none false (.tmp 39), none⟩,
  ⟨(some 41), .len (.tmp 40), none⟩,
  ⟨(some 42), .mov (.const (.int .i64 0)), none⟩] none [38, 39, 40])
  (.block 0
  (.loop a39_l0)))
  (.seq
  (.region [
  ⟨(some 6), .mov (.const (.bool true)), none⟩] none [2, 3, 4, 41, 42, 43])
  .ret))))) }

/-- fugue/show.Same$1 -/
def a40 : AFun :=
  { nargs := 1, ntmps := 3, res := [.tmp 2], gc := false, body :=
  (.seq
  (.region [
  ⟨(some 1), .box (.tmp 0), none⟩,
  ⟨(some 2), .mov (.const (.bool false)), none⟩] none [0, 1, 2])
  (.seq
  (.region [
  ⟨(some 2), .mov (.const (.bool false)), none⟩] none [])
  .ret)) }

/-- fugue/show.Less$1 -/
def a41 : AFun :=
  { nargs := 1, ntmps := 6, res := [.tmp 2], gc := false, body :=
  (.seq
  (.region [
  ⟨(some 1), .box (.tmp 0), none⟩,
  ⟨(some 2), .mov (.const (.bool false)), none⟩] none [0, 2])
  (.seq
  (.region [
  ⟨(some 3), .fieldAddr 0 none (.tmp 1), none⟩,
  ⟨(some 4), .load none false (.tmp 3), none⟩,
  ⟨(some 5), .bin .eql (.tmp 4) (.const (.int .i64 4)), none⟩,
  ⟨(some 2), .mov (.mv 5), none⟩] none [1, 3, 4, 5])
  .ret)) }

def a42_l0 : ACode :=
  (.seq
  (.region [
  ⟨(some 13), .nextS (.tmp 12), none⟩,
  ⟨(some 14), .extract (.tmp 13) 0, none⟩] none [39])
  (.seq
  (.cond (.tmp 14)
  .skip
  (.exit 0))
  (.block 1
  (.seq
  (.region [
  ⟨(some 15), .extract (.tmp 13) 1, none⟩,
  ⟨(some 16), .extract (.tmp 13) 2, none⟩,
  ⟨(some 8), .mov (.mv 15), none⟩,
  ⟨(some 9), .mov (.mv 16), none⟩] none [13, 14, 15, 16])
  (.seq
  (.region [
  ⟨(some 17), .mov (.tmp 9), none⟩,
  ⟨(some 18), .bin .gtr (.tmp 17) (.const (.int .i32 127)), none⟩,
  ⟨(some 19), .mov (.mv 18), none⟩,
  ⟨(some 20), .mov (.tmp 7), (some (19, false))⟩,
  ⟨(some 21), .mov (.tmp 8), (some (19, false))⟩,
  ⟨(some 22), .mov (.tmp 9), (some (19, false))⟩,
  ⟨(some 23), .callv (.tmp 20) [(.tmp 21), (.tmp 22)], (some (19, false))⟩,
  ⟨(some 24), .un .not (.tmp 23), (some (19, false))⟩,
  ⟨(some 25), .pick (.tmp 19) (.const (.bool true)) (.tmp 24), none⟩,
  ⟨(some 26), .mov (.mv 25), none⟩,
  ⟨(some 27), .mov (.tmp 9), (some (26, false))⟩,
  ⟨(some 28), .toInt .u8 (.tmp 27), (some (26, false))⟩,
  ⟨(some 29), .call 53 [(.tmp 28)], (some (26, false))⟩,
  ⟨(some 30), .un .not (.tmp 29), (some (26, false))⟩,
  ⟨(some 31), .mov (.mv 30), (some (26, false))⟩,
  ⟨(some 32), .mov (.tmp 9), (some (31, true))⟩,
  ⟨(some 33), .bin .neq (.tmp 32) (.const (.int .i32 39)), (some (31, true))⟩,
  ⟨(some 34), .pick (.tmp 31) (.tmp 33) (.const (.bool false)), (some (26, false))⟩,
  ⟨(some 35), .mov (.mv 34), (some (26, false))⟩,
  ⟨(some 36), .mov (.tmp 9), (some (35, true))⟩,
  ⟨(some 37), .bin .neq (.tmp 36) (.const (.int .i32 95)), (some (35, true))⟩,
  ⟨(some 38), .pick (.tmp 35) (.tmp 37) (.const (.bool false)), (some (26, false))⟩,
  ⟨(some 39), .pick (.tmp 26) (.const (.bool true)) (.tmp 38), none⟩] none [8, 9, 17, 18, 19, 20, 21, 22, 23, 24, 25, 26, 27, 28, 29, 30, 31, 32, 33, 34, 35, 36, 37, 38])
  (.cond (.tmp 39)
  (.seq
  (.region [
  ⟨(some 6), .mov (.const (.bool false)), none⟩] none [0, 7, 12, 39])
  .ret)
  .skip))))))
/-- fugue/chars.name -/
def a42 : AFun :=
  { nargs := 3, ntmps := 47, res := [.tmp 6], gc := true, body :=
  (.seq
  (.region [
  ⟨(some 4), .gbox 21 (.tmp 1), none⟩,
  ⟨(some 5), .gbox 21 (.tmp 2), none⟩,
  ⟨(some 6), .mov (.const (.bool false)), none⟩] none [1, 2, 6])
  (.seq
  (.region [
  ⟨(some 10), .mkFunc (.func 52) [] [(.tmp 4), (.tmp 5)], none⟩,
  ⟨(some 7), .mov (.mv 10), none⟩] none [4, 5, 10])
  (.seq
  (.seq
  (.region [
  ⟨(some 11), .mov (.tmp 0), none⟩,
  ⟨(some 12), .rangeS (.tmp 11), none⟩] none [11])
  (.block 0
  (.loop a42_l0)))
  (.seq
  (.region [
  ⟨(some 40), .mov (.tmp 0), none⟩,
  ⟨(some 41), .bin .neq (.tmp 40) (.const (.str [])), none⟩,
  ⟨(some 42), .mov (.mv 41), none⟩,
  ⟨(some 43), .mov (.tmp 0), (some (42, true))⟩,
  ⟨(some 44), .lenS (.tmp 43), (some (42, true))⟩,
  ⟨(some 45), .bin .leq (.tmp 44) (.const (.int .i64 32)), (some (42, true))⟩,
  ⟨(some 46), .pick (.tmp 42) (.tmp 45) (.const (.bool false)), none⟩,
  ⟨(some 6), .mov (.mv 46), none⟩] none [0, 7, 12, 13, 14, 39, 40, 41, 42, 43, 44, 45, 46])
  .ret)))) }

def a45_l0 : ACode :=
  (.seq
  (.seq
  (.region [
  ⟨(some 7), .mov (.tmp 4), none⟩,
  ⟨(some 8), .bin .neq (.tmp 7) (.const (.int .i64 0)), none⟩,
  ⟨(some 9), .mov (.mv 8), none⟩,
  ⟨(some 10), .mov (.tmp 3), (some (9, false))⟩,
  ⟨(some 11), .bin .eql (.tmp 10) (.const (.str [])), (some (9, false))⟩,
  ⟨(some 12), .pick (.tmp 9) (.const (.bool true)) (.tmp 11), none⟩] none [7, 8, 9, 10, 11])
  (.cond (.tmp 12)
  .skip
  (.exit 0)))
  (.block 1
  (.seq
  (.region [
  ⟨(some 13), .mov (.tmp 4), none⟩,
  ⟨(some 14), .bin .rem (.tmp 13) (.const (.int .i64 10)), none⟩,
  ⟨(some 5), .mov (.mv 14), none⟩] none [12, 13, 14])
  (.seq
  (.seq
  (.region [
  ⟨(some 15), .mov (.tmp 5), none⟩,
  ⟨(some 16), .bin .lss (.tmp 15) (.const (.int .i64 0)), none⟩] none [15])
  (.cond (.tmp 16)
  (.region [
  ⟨(some 17), .mov (.tmp 5), none⟩,
  ⟨(some 18), .un .neg (.tmp 17), none⟩,
  ⟨(some 5), .mov (.mv 18), none⟩] none [16, 17, 18])
  .skip))
  (.seq
  (.region [
  ⟨(some 19), .mov (.tmp 5), none⟩,
  ⟨(some 20), .bin .add (.const (.int .i64 48)) (.tmp 19), none⟩,
  ⟨(some 21), .toInt .u8 (.tmp 20), none⟩,
  ⟨(some 22), .buildSlice ⟨5, 1⟩ [(.tmp 21)], none⟩,
  ⟨(some 23), .bytesToStr (.tmp 22), none⟩,
  ⟨(some 24), .mov (.tmp 3), none⟩,
  ⟨(some 25), .bin .add (.tmp 23) (.tmp 24), none⟩,
  ⟨(some 3), .mov (.mv 25), none⟩] none [5, 16, 19, 20, 21, 22, 23, 24, 25])
  (.region [
  ⟨(some 26), .mov (.tmp 4), none⟩,
  ⟨(some 27), .bin .quo (.tmp 26) (.const (.int .i64 10)), none⟩,
  ⟨(some 4), .mov (.mv 27), none⟩] none [26, 27]))))))
/-- fugue/fugueref29.number -/
def a45 : AFun :=
  { nargs := 1, ntmps := 33, res := [.tmp 2], gc := false, body :=
  (.seq
  (.region [
  ⟨(some 2), .mov (.const (.str [])), none⟩] none [2])
  (.seq
  (.region [
  ⟨(some 3), .mov (.const (.str [])), none⟩] none [])
  (.seq
  (.region [
  ⟨(some 6), .mov (.tmp 0), none⟩,
  ⟨(some 4), .mov (.mv 6), none⟩] none [6])
  (.seq
  (.block 0
  (.loop a45_l0))
  (.seq
  (.seq
  (.region [
  ⟨(some 28), .mov (.tmp 0), none⟩,
  ⟨(some 29), .bin .lss (.tmp 28) (.const (.int .i64 0)), none⟩] none [0, 4, 12, 28])
  (.cond (.tmp 29)
  (.seq
  (.region [
  ⟨(some 30), .mov (.mv 3), none⟩,
  ⟨(some 31), .bin .add (.const (.str [45])) (.tmp 30), none⟩,
  ⟨(some 2), .mov (.mv 31), none⟩] none [3, 29, 30, 31])
  .ret)
  .skip))
  (.seq
  (.region [
  ⟨(some 32), .mov (.mv 3), none⟩,
  ⟨(some 2), .mov (.mv 32), none⟩] none [3, 29, 32])
  .ret)))))) }

/-- (*fugue/show.reader).value$1 -/
def a46 : AFun :=
  { nargs := 1, ntmps := 8, res := [], gc := false, body :=
  (.region [
  ⟨(some 1), .load none false (.tmp 0), none⟩,
  ⟨(some 2), .nilCheck (.tmp 1), none⟩,
  ⟨(some 3), .fieldAddr 1 none (.tmp 2), none⟩,
  ⟨(some 4), .load none false (.tmp 3), none⟩,
  ⟨(some 5), .bin .add (.tmp 4) (.const (.int .i64 1)), none⟩,
  ⟨(some 6), .nilCheck (.tmp 1), none⟩,
  ⟨(some 7), .fieldAddr 1 none (.tmp 6), none⟩,
  ⟨none, .store 1 (.tmp 7) (.mv 5), none⟩] none [0, 1, 2, 3, 4, 5, 6, 7]) }

/-- (*fugue/show.reader).atom -/
def a47 : AFun :=
  { nargs := 1, ntmps := 64, res := [.cellA 2 4], gc := false, body :=
  (.seq
  (.region [
  ⟨(some 2), .alloc [.int .i64 0, .int .i64 0, .str [], .nils], none⟩] none [])
  (.seq
  (.seq
  (.region [
  ⟨(some 10), .mov (.tmp 0), none⟩,
  ⟨(some 11), .nilCheck (.tmp 10), none⟩,
  ⟨(some 12), .fieldAddr 0 none (.tmp 11), none⟩,
  ⟨(some 13), .load none false (.tmp 12), none⟩,
  ⟨(some 14), .call 48 [(.tmp 13), (.const (.str [40]))], none⟩,
  ⟨(some 9), .mov (.mv 14), none⟩,
  ⟨(some 15), .extract (.tmp 9) 0, none⟩,
  ⟨(some 16), .extract (.tmp 9) 1, none⟩,
  ⟨(some 3), .mov (.mv 15), none⟩,
  ⟨(some 4), .mov (.mv 16), none⟩] none [9, 10, 11, 12, 13, 14, 15, 16])
  (.seq
  (.region [
  ⟨(some 17), .mov (.tmp 4), none⟩] none [4])
  (.cond (.tmp 17)
  (.seq
  (.region [
  ⟨(some 18), .mov (.tmp 0), none⟩,
  ⟨(some 19), .mov (.tmp 3), none⟩,
  ⟨(some 20), .nilCheck (.tmp 18), none⟩,
  ⟨(some 21), .fieldAddr 0 none (.tmp 20), none⟩,
  ⟨none, .store 1 (.tmp 21) (.mv 19), none⟩] none [3, 17, 18, 19, 20, 21])
  (.seq
  (.region [
  ⟨(some 22), .mov (.tmp 0), none⟩,
  ⟨(some 23), .call 35 [(.tmp 22)], none⟩,
  ⟨(some 5), .alloc [.int .i64 0, .int .i64 0, .str [], .nils], none⟩,
  ⟨none, .storeA 4 (.tmp 5) (.mv 23), none⟩] none [22, 23])
  (.seq
  (.region [
  ⟨(some 25), .mov (.tmp 0), none⟩,
  ⟨(some 26), .nilCheck (.tmp 25), none⟩,
  ⟨(some 27), .fieldAddr 0 none (.tmp 26), none⟩,
  ⟨(some 28), .load none false (.tmp 27), none⟩,
  ⟨(some 29), .call 48 [(.tmp 28), (.const (.str [41]))], none⟩,
  ⟨(some 24), .mov (.mv 29), none⟩,
  ⟨(some 30), .extract (.tmp 24) 0, none⟩,
  ⟨(some 31), .extract (.tmp 24) 1, none⟩,
  ⟨(some 3), .mov (.mv 30), none⟩,
  ⟨(some 4), .mov (.mv 31), none⟩] none [24, 25, 26, 27, 28, 29, 30, 31])
  (.seq
  (.region [
  ⟨(some 32), .mov (.tmp 4), none⟩,
  ⟨(some 33), .call 36 [(.tmp 32)], none⟩] none [4, 32, 33])
  (.seq
  (.region [
  ⟨(some 34), .mov (.tmp 0), none⟩,
  ⟨(some 35), .mov (.tmp 3), none⟩,
  ⟨(some 36), .nilCheck (.tmp 34), none⟩,
  ⟨(some 37), .fieldAddr 0 none (.tmp 36), none⟩,
  ⟨none, .store 1 (.tmp 37) (.mv 35), none⟩] none [0, 3, 34, 35, 36, 37])
  (.seq
  (.region [
  ⟨(some 38), .loadA 4 (.tmp 5), none⟩,
  ⟨none, .storeA 4 (.tmp 2) (.mv 38), none⟩] none [5, 38])
  .ret))))))
  .skip)))
  (.seq
  (.region [
  ⟨(some 39), .mov (.tmp 0), none⟩,
  ⟨(some 40), .call 56 [(.tmp 39)], none⟩,
  ⟨(some 6), .mov (.mv 40), none⟩] none [0, 3, 17, 39, 40])
  (.seq
  (.block 0
  (.seq
  (.region [
  ⟨(some 42), .mov (.tmp 6), none⟩,
  ⟨(some 43), .bin .eql (.tmp 42) (.const (.str [60, 102, 117, 110, 62])), none⟩,
  ⟨(some 41), .mov (.mv 43), none⟩] none [42, 43])
  (.cond (.tmp 41)
  (.seq
  (.region [
  ⟨(some 44), .build [.int .i64 0, .int .i64 0, .str [], .nils] [(0, 1, (.const (.int .i64 3)))], none⟩,
  ⟨none, .storeA 4 (.tmp 2) (.mv 44), none⟩] none [6, 41, 44])
  .ret)
  (.seq
  (.region [
  ⟨(some 46), .mov (.tmp 6), none⟩,
  ⟨(some 47), .bin .eql (.tmp 46) (.const (.str [46, 46, 46])), none⟩,
  ⟨(some 45), .mov (.mv 47), none⟩] none [41, 46, 47])
  (.cond (.tmp 45)
  (.seq
  (.region [
  ⟨(some 48), .build [.int .i64 0, .int .i64 0, .str [], .nils] [(0, 1, (.const (.int .i64 4)))], none⟩,
  ⟨none, .storeA 4 (.tmp 2) (.mv 48), none⟩] none [6, 45, 48])
  .ret)
  (.seq
  (.region [
  ⟨(some 50), .mov (.tmp 6), none⟩,
  ⟨(some 51), .call 24 [(.tmp 50)], none⟩,
  ⟨(some 49), .mov (.mv 51), none⟩] none [45, 50, 51])
  (.cond (.tmp 49)
  (.seq
  (.region [
  ⟨(some 52), .mov (.mv 6), none⟩,
  ⟨(some 53), .build [.int .i64 0, .int .i64 0, .str [], .nils] [(0, 1, (.const (.int .i64 1))), (2, 1, (.tmp 52))], none⟩,
  ⟨none, .storeA 4 (.tmp 2) (.mv 53), none⟩] none [6, 49, 52, 53])
  .ret)
  .skip)))))))
  (.seq
  (.region [
  ⟨(some 55), .mov (.tmp 6), none⟩,
  ⟨(some 56), .call 57 [(.tmp 55)], none⟩,
  ⟨(some 54), .mov (.mv 56), none⟩,
  ⟨(some 57), .extract (.tmp 54) 0, none⟩,
  ⟨(some 58), .extract (.tmp 54) 1, none⟩,
  ⟨(some 7), .mov (.mv 57), none⟩,
  ⟨(some 8), .mov (.mv 58), none⟩] none [6, 49, 54, 55, 56, 57, 58])
  (.seq
  (.region [
  ⟨(some 59), .mov (.tmp 8), none⟩,
  ⟨(some 60), .isNil .eql (.tmp 59), none⟩,
  ⟨(some 61), .call 36 [(.tmp 60)], none⟩] none [8, 59, 60, 61])
  (.seq
  (.region [
  ⟨(some 62), .mov (.mv 7), none⟩,
  ⟨(some 63), .build [.int .i64 0, .int .i64 0, .str [], .nils] [(0, 1, (.const (.int .i64 2))), (1, 1, (.tmp 62))], none⟩,
  ⟨none, .storeA 4 (.tmp 2) (.mv 63), none⟩] none [7, 62, 63])
  .ret))))))) }

/-- strings.CutPrefix -/
def a48 : AFun :=
  { nargs := 2, ntmps := 11, res := [.tmp 4, .tmp 5], gc := false, body :=
  (.seq
  (.region [
  ⟨(some 4), .mov (.const (.str [])), none⟩,
  ⟨(some 5), .mov (.const (.bool false)), none⟩] none [4, 5])
  (.seq
  (.region [
  ⟨(some 6), .mov (.mv 0), none⟩,
  ⟨(some 7), .mov (.mv 1), none⟩,
  ⟨(some 8), .call 58 [(.tmp 6), (.tmp 7)], none⟩,
  ⟨(some 9), .extract (.tmp 8) 0, none⟩,
  ⟨(some 10), .extract (.tmp 8) 1, none⟩,
  ⟨(some 4), .mov (.mv 9), none⟩,
  ⟨(some 5), .mov (.mv 10), none⟩] none [0, 1, 6, 7, 8, 9, 10])
  .ret)) }

def a49_l0 : ACode :=
  (.seq
  (.seq
  (.region [
  ⟨(some 8), .mov (.tmp 7), none⟩,
  ⟨(some 9), .mov (.tmp 0), none⟩,
  ⟨(some 10), .lenS (.tmp 9), none⟩,
  ⟨(some 11), .bin .leq (.tmp 8) (.tmp 10), none⟩] none [8, 9, 10])
  (.cond (.tmp 11)
  .skip
  (.exit 0)))
  (.seq
  (.block 1
  (.seq
  (.seq
  (.region [
  ⟨(some 14), .mov (.tmp 7), none⟩,
  ⟨(some 15), .mov (.tmp 0), none⟩,
  ⟨(some 16), .lenS (.tmp 15), none⟩,
  ⟨(some 17), .bin .eql (.tmp 14) (.tmp 16), none⟩,
  ⟨(some 18), .mov (.mv 17), none⟩,
  ⟨(some 19), .mov (.tmp 0), (some (18, false))⟩,
  ⟨(some 20), .mov (.tmp 7), (some (18, false))⟩,
  ⟨(some 21), .index (.tmp 19) (.tmp 20), (some (18, false))⟩,
  ⟨(some 22), .bin .eql (.tmp 21) (.const (.int .u8 32)), (some (18, false))⟩,
  ⟨(some 23), .mov (.mv 22), (some (18, false))⟩,
  ⟨(some 24), .mov (.tmp 5), (some (23, true))⟩,
  ⟨(some 25), .bin .eql (.tmp 24) (.const (.int .i64 0)), (some (23, true))⟩,
  ⟨(some 26), .pick (.tmp 23) (.tmp 25) (.const (.bool false)), (some (18, false))⟩,
  ⟨(some 27), .pick (.tmp 18) (.const (.bool true)) (.tmp 26), none⟩] none [11, 14, 15, 16, 17, 18, 19, 20, 21, 22, 23, 24, 25, 26])
  (.cond (.tmp 27)
  (.seq
  (.region [
  ⟨(some 28), .mov (.mv 4), none⟩,
  ⟨(some 29), .mov (.tmp 0), none⟩,
  ⟨(some 30), .mov (.tmp 6), none⟩,
  ⟨(some 31), .mov (.tmp 7), none⟩,
  ⟨(some 32), .sliceS (.tmp 29) (some (.tmp 30)) (some (.tmp 31)), none⟩,
  ⟨(some 33), .buildSlice ⟨9, 1⟩ [(.tmp 32)], none⟩,
  ⟨(some 34), .append ⟨9, 1⟩ 16 (.mv 28) (.tmp 33), none⟩,
  ⟨(some 4), .mov (.mv 34), none⟩] none [6, 27, 28, 29, 30, 31, 32, 33, 34])
  (.seq
  (.region [
  ⟨(some 35), .mov (.tmp 7), none⟩,
  ⟨(some 36), .bin .add (.tmp 35) (.const (.int .i64 1)), none⟩,
  ⟨(some 6), .mov (.mv 36), none⟩] none [35, 36])
  (.exit 1)))
  .skip))
  (.seq
  (.seq
  (.region [
  ⟨(some 37), .mov (.tmp 0), none⟩,
  ⟨(some 38), .mov (.tmp 7), none⟩,
  ⟨(some 39), .index (.tmp 37) (.tmp 38), none⟩,
  ⟨(some 40), .bin .eql (.tmp 39) (.const (.int .u8 40)), none⟩] none [27, 37, 38, 39])
  (.cond (.tmp 40)
  (.region [
  ⟨(some 41), .mov (.tmp 5), none⟩,
  ⟨(some 42), .bin .add (.tmp 41) (.const (.int .i64 1)), none⟩,
  ⟨(some 5), .mov (.mv 42), none⟩] none [40, 41, 42])
  .skip))
  (.seq
  (.seq
  (.region [
  ⟨(some 43), .mov (.tmp 0), none⟩,
  ⟨(some 44), .mov (.tmp 7), none⟩,
  ⟨(some 45), .index (.tmp 43) (.tmp 44), none⟩,
  ⟨(some 46), .bin .eql (.tmp 45) (.const (.int .u8 41)), none⟩] none [40, 43, 44, 45])
  (.cond (.tmp 46)
  (.region [
  ⟨(some 47), .mov (.tmp 5), none⟩,
  ⟨(some 48), .bin .sub (.tmp 47) (.const (.int .i64 1)), none⟩,
  ⟨(some 5), .mov (.mv 48), none⟩] none [46, 47, 48])
  .skip))
  (.seq
  (.region [
  ⟨(some 49), .mov (.tmp 5), none⟩,
  ⟨(some 50), .bin .lss (.tmp 49) (.const (.int .i64 0)), none⟩] none [46, 49])
  (.cond (.tmp 50)
  (.seq
  (.region [
  ⟨(some 2), .mov (.const (.nils)), none⟩,
  ⟨(some 3), .mov (.const (.bool false)), none⟩] none [0, 4, 5, 6, 7, 50])
  .ret)
  .skip))))))
  (.region [
  ⟨(some 12), .mov (.tmp 7), none⟩,
  ⟨(some 13), .bin .add (.tmp 12) (.const (.int .i64 1)), none⟩,
  ⟨(some 7), .mov (.mv 13), none⟩] none [12, 13, 50])))
/-- fugue/fugueref29.split -/
def a49 : AFun :=
  { nargs := 1, ntmps := 54, res := [.tmp 2, .tmp 3], gc := false, body :=
  (.seq
  (.region [
  ⟨(some 2), .mov (.const (.nils)), none⟩,
  ⟨(some 3), .mov (.const (.bool false)), none⟩] none [2, 3])
  (.seq
  (.region [
  ⟨(some 4), .mov (.const (.nils)), none⟩] none [])
  (.seq
  (.region [
  ⟨(some 5), .mov (.const (.int .i64 0)), none⟩] none [])
  (.seq
  (.region [
  ⟨(some 6), .mov (.const (.int .i64 0)), none⟩] none [])
  (.seq
  (.seq
  (.region [
  ⟨(some 7), .mov (.const (.int .i64 0)), none⟩] none [])
  (.block 0
  (.loop a49_l0)))
  (.seq
  (.region [
  ⟨(some 51), .mov (.mv 4), none⟩,
  ⟨(some 52), .mov (.mv 5), none⟩,
  ⟨(some 53), .bin .eql (.tmp 52) (.const (.int .i64 0)), none⟩,
  ⟨(some 2), .mov (.mv 51), none⟩,
  ⟨(some 3), .mov (.mv 53), none⟩] none [0, 4, 5, 6, 7, 11, 51, 52, 53])
  .ret)))))) }

def a50_l0 : ACode :=
  (.seq
  (.seq
  (.region [
  ⟨(some 17), .mov (.tmp 6), none⟩,
  ⟨(some 18), .mov (.tmp 0), none⟩,
  ⟨(some 19), .lenS (.tmp 18), none⟩,
  ⟨(some 20), .bin .lss (.tmp 17) (.tmp 19), none⟩,
  ⟨(some 21), .mov (.mv 20), none⟩,
  ⟨(some 22), .mov (.tmp 6), (some (21, true))⟩,
  ⟨(some 23), .bin .lss (.tmp 22) (.const (.int .i64 20)), (some (21, true))⟩,
  ⟨(some 24), .pick (.tmp 21) (.tmp 23) (.const (.bool false)), none⟩] none [17, 18, 19, 20, 21, 22, 23])
  (.cond (.tmp 24)
  .skip
  (.exit 0)))
  (.seq
  (.block 1
  (.seq
  (.region [
  ⟨(some 27), .mov (.tmp 0), none⟩,
  ⟨(some 28), .mov (.tmp 6), none⟩,
  ⟨(some 29), .index (.tmp 27) (.tmp 28), none⟩,
  ⟨(some 30), .toInt .i64 (.tmp 29), none⟩,
  ⟨(some 31), .bin .sub (.tmp 30) (.const (.int .i64 48)), none⟩,
  ⟨(some 7), .mov (.mv 31), none⟩] none [24, 27, 28, 29, 30, 31])
  (.seq
  (.seq
  (.region [
  ⟨(some 32), .mov (.tmp 7), none⟩,
  ⟨(some 33), .bin .lss (.tmp 32) (.const (.int .i64 0)), none⟩,
  ⟨(some 34), .mov (.mv 33), none⟩,
  ⟨(some 35), .mov (.tmp 7), (some (34, false))⟩,
  ⟨(some 36), .bin .gtr (.tmp 35) (.const (.int .i64 9)), (some (34, false))⟩,
  ⟨(some 37), .pick (.tmp 34) (.const (.bool true)) (.tmp 36), none⟩] none [32, 33, 34, 35, 36])
  (.cond (.tmp 37)
  (.seq
  (.region [
  ⟨(some 2), .mov (.const (.int .i64 0)), none⟩,
  ⟨(some 3), .mov (.const (.bool false)), none⟩] none [0, 4, 5, 6, 7, 37])
  .ret)
  .skip))
  (.region [
  ⟨(some 38), .mov (.tmp 4), none⟩,
  ⟨(some 39), .bin .mul (.const (.int .i64 10)) (.tmp 38), none⟩,
  ⟨(some 40), .mov (.tmp 7), none⟩,
  ⟨(some 41), .bin .sub (.tmp 39) (.tmp 40), none⟩,
  ⟨(some 4), .mov (.mv 41), none⟩] none [7, 37, 38, 39, 40, 41]))))
  (.region [
  ⟨(some 25), .mov (.tmp 6), none⟩,
  ⟨(some 26), .bin .add (.tmp 25) (.const (.int .i64 1)), none⟩,
  ⟨(some 6), .mov (.mv 26), none⟩] none [25, 26])))
/-- fugue/fugueref29.digits -/
def a50 : AFun :=
  { nargs := 1, ntmps := 57, res := [.tmp 2, .tmp 3], gc := false, body :=
  (.seq
  (.region [
  ⟨(some 2), .mov (.const (.int .i64 0)), none⟩,
  ⟨(some 3), .mov (.const (.bool false)), none⟩] none [2, 3])
  (.seq
  (.region [
  ⟨(some 4), .mov (.const (.int .i64 0)), none⟩] none [])
  (.seq
  (.region [
  ⟨(some 5), .mov (.const (.int .i64 0)), none⟩] none [])
  (.seq
  (.seq
  (.region [
  ⟨(some 8), .mov (.tmp 0), none⟩,
  ⟨(some 9), .lenS (.tmp 8), none⟩,
  ⟨(some 10), .bin .gtr (.tmp 9) (.const (.int .i64 0)), none⟩,
  ⟨(some 11), .mov (.mv 10), none⟩,
  ⟨(some 12), .mov (.tmp 0), (some (11, true))⟩,
  ⟨(some 13), .index (.tmp 12) (.const (.int .i64 0)), (some (11, true))⟩,
  ⟨(some 14), .bin .eql (.tmp 13) (.const (.int .u8 45)), (some (11, true))⟩,
  ⟨(some 15), .pick (.tmp 11) (.tmp 14) (.const (.bool false)), none⟩] none [8, 9, 10, 11, 12, 13, 14])
  (.cond (.tmp 15)
  (.region [
  ⟨(some 5), .mov (.const (.int .i64 1)), none⟩] none [15])
  .skip))
  (.seq
  (.seq
  (.region [
  ⟨(some 16), .mov (.tmp 5), none⟩,
  ⟨(some 6), .mov (.mv 16), none⟩] none [15, 16])
  (.block 0
  (.loop a50_l0)))
  (.seq
  (.seq
  (.region [
  ⟨(some 42), .mov (.tmp 5), none⟩,
  ⟨(some 43), .bin .eql (.tmp 42) (.const (.int .i64 0)), none⟩] none [6, 24, 42])
  (.cond (.tmp 43)
  (.region [
  ⟨(some 44), .mov (.tmp 4), none⟩,
  ⟨(some 45), .un .neg (.tmp 44), none⟩,
  ⟨(some 4), .mov (.mv 45), none⟩] none [43, 44, 45])
  .skip))
  (.seq
  (.region [
  ⟨(some 46), .mov (.tmp 4), none⟩,
  ⟨(some 47), .mov (.tmp 0), none⟩,
  ⟨(some 48), .lenS (.tmp 47), none⟩,
  ⟨(some 49), .mov (.mv 5), none⟩,
  ⟨(some 50), .bin .gtr (.tmp 48) (.tmp 49), none⟩,
  ⟨(some 51), .mov (.mv 50), none⟩,
  ⟨(some 52), .mov (.tmp 4), (some (51, true))⟩,
  ⟨(some 53), .call 45 [(.tmp 52)], (some (51, true))⟩,
  ⟨(some 54), .mov (.tmp 0), (some (51, true))⟩,
  ⟨(some 55), .bin .eql (.tmp 53) (.tmp 54), (some (51, true))⟩,
  ⟨(some 56), .pick (.tmp 51) (.tmp 55) (.const (.bool false)), none⟩,
  ⟨(some 2), .mov (.mv 46), none⟩,
  ⟨(some 3), .mov (.mv 56), none⟩] none [0, 4, 5, 43, 46, 47, 48, 49, 50, 51, 52, 53, 54, 55, 56])
  .ret))))))) }

/-- fugue/fugueref01.Upper -/
def a51 : AFun :=
  { nargs := 1, ntmps := 5, res := [.tmp 2], gc := false, body :=
  (.seq
  (.region [
  ⟨(some 2), .mov (.const (.bool false)), none⟩] none [2])
  (.seq
  (.region [
  ⟨(some 3), .mov (.mv 0), none⟩,
  ⟨(some 4), .call 59 [(.tmp 3), (.const (.int .u8 65)), (.const (.int .u8 90))], none⟩,
  ⟨(some 2), .mov (.mv 4), none⟩] none [0, 3, 4])
  .ret)) }

/-- fugue/chars.name$1 -/
def a52 : AFun :=
  { nargs := 4, ntmps := 19, res := [.tmp 6], gc := false, body :=
  (.seq
  (.region [
  ⟨(some 6), .mov (.const (.bool false)), none⟩] none [6])
  (.seq
  (.region [
  ⟨(some 7), .mov (.mv 0), none⟩,
  ⟨(some 8), .bin .gtr (.tmp 7) (.const (.int .i64 0)), none⟩,
  ⟨(some 9), .mov (.mv 8), none⟩,
  ⟨(some 10), .mov (.tmp 1), (some (9, false))⟩,
  ⟨(some 11), .load none false (.tmp 2), (some (9, false))⟩,
  ⟨(some 12), .bin .geq (.tmp 10) (.tmp 11), (some (9, false))⟩,
  ⟨(some 13), .mov (.mv 12), (some (9, false))⟩,
  ⟨(some 14), .mov (.tmp 1), (some (13, true))⟩,
  ⟨(some 15), .load none false (.tmp 3), (some (13, true))⟩,
  ⟨(some 16), .bin .leq (.tmp 14) (.tmp 15), (some (13, true))⟩,
  ⟨(some 17), .pick (.tmp 13) (.tmp 16) (.const (.bool false)), (some (9, false))⟩,
  ⟨(some 18), .pick (.tmp 9) (.const (.bool true)) (.tmp 17), none⟩,
  ⟨(some 6), .mov (.mv 18), none⟩] none [0, 1, 2, 3, 7, 8, 9, 10, 11, 12, 13, 14, 15, 16, 17, 18])
  .ret)) }

/-- fugue/chars.plain -/
def a53 : AFun :=
  { nargs := 1, ntmps := 25, res := [.tmp 2], gc := false, body :=
  (.seq
  (.region [
  ⟨(some 2), .mov (.const (.bool false)), none⟩] none [2])
  (.seq
  (.region [
  ⟨(some 3), .mov (.tmp 0), none⟩,
  ⟨(some 4), .bin .geq (.tmp 3) (.const (.int .u8 97)), none⟩,
  ⟨(some 5), .mov (.mv 4), none⟩,
  ⟨(some 6), .mov (.tmp 0), (some (5, true))⟩,
  ⟨(some 7), .bin .leq (.tmp 6) (.const (.int .u8 122)), (some (5, true))⟩,
  ⟨(some 8), .pick (.tmp 5) (.tmp 7) (.const (.bool false)), none⟩,
  ⟨(some 9), .mov (.mv 8), none⟩,
  ⟨(some 10), .mov (.tmp 0), (some (9, false))⟩,
  ⟨(some 11), .bin .geq (.tmp 10) (.const (.int .u8 65)), (some (9, false))⟩,
  ⟨(some 12), .mov (.mv 11), (some (9, false))⟩,
  ⟨(some 13), .mov (.tmp 0), (some (12, true))⟩,
  ⟨(some 14), .bin .leq (.tmp 13) (.const (.int .u8 90)), (some (12, true))⟩,
  ⟨(some 15), .pick (.tmp 12) (.tmp 14) (.const (.bool false)), (some (9, false))⟩,
  ⟨(some 16), .pick (.tmp 9) (.const (.bool true)) (.tmp 15), none⟩,
  ⟨(some 17), .mov (.mv 16), none⟩,
  ⟨(some 18), .mov (.tmp 0), (some (17, false))⟩,
  ⟨(some 19), .bin .geq (.tmp 18) (.const (.int .u8 48)), (some (17, false))⟩,
  ⟨(some 20), .mov (.mv 19), (some (17, false))⟩,
  ⟨(some 21), .mov (.tmp 0), (some (20, true))⟩,
  ⟨(some 22), .bin .leq (.tmp 21) (.const (.int .u8 57)), (some (20, true))⟩,
  ⟨(some 23), .pick (.tmp 20) (.tmp 22) (.const (.bool false)), (some (17, false))⟩,
  ⟨(some 24), .pick (.tmp 17) (.const (.bool true)) (.tmp 23), none⟩,
  ⟨(some 2), .mov (.mv 24), none⟩] none [0, 3, 4, 5, 6, 7, 8, 9, 10, 11, 12, 13, 14, 15, 16, 17, 18, 19, 20, 21, 22, 23, 24])
  .ret)) }

/-- (*fugue/show.reader).word -/
def a56 : AFun :=
  { nargs := 1, ntmps := 33, res := [.tmp 2], gc := false, body :=
  (.seq
  (.region [
  ⟨(some 2), .mov (.const (.str [])), none⟩] none [2])
  (.seq
  (.region [
  ⟨(some 5), .mov (.tmp 0), none⟩,
  ⟨(some 6), .nilCheck (.tmp 5), none⟩,
  ⟨(some 7), .fieldAddr 0 none (.tmp 6), none⟩,
  ⟨(some 8), .load none false (.tmp 7), none⟩,
  ⟨(some 9), .call 64 [(.tmp 8), (.const (.str [32, 41]))], none⟩,
  ⟨(some 3), .mov (.mv 9), none⟩] none [5, 6, 7, 8, 9])
  (.seq
  (.seq
  (.region [
  ⟨(some 10), .mov (.tmp 3), none⟩,
  ⟨(some 11), .bin .lss (.tmp 10) (.const (.int .i64 0)), none⟩] none [10])
  (.cond (.tmp 11)
  (.region [
  ⟨(some 12), .mov (.tmp 0), none⟩,
  ⟨(some 13), .nilCheck (.tmp 12), none⟩,
  ⟨(some 14), .fieldAddr 0 none (.tmp 13), none⟩,
  ⟨(some 15), .load none false (.tmp 14), none⟩,
  ⟨(some 16), .lenS (.tmp 15), none⟩,
  ⟨(some 3), .mov (.mv 16), none⟩] none [11, 12, 13, 14, 15, 16])
  .skip))
  (.seq
  (.region [
  ⟨(some 17), .mov (.tmp 0), none⟩,
  ⟨(some 18), .nilCheck (.tmp 17), none⟩,
  ⟨(some 19), .fieldAddr 0 none (.tmp 18), none⟩,
  ⟨(some 20), .load none false (.tmp 19), none⟩,
  ⟨(some 21), .mov (.tmp 3), none⟩,
  ⟨(some 22), .sliceS (.tmp 20) none (some (.tmp 21)), none⟩,
  ⟨(some 4), .mov (.mv 22), none⟩] none [11, 17, 18, 19, 20, 21, 22])
  (.seq
  (.region [
  ⟨(some 23), .mov (.tmp 0), none⟩,
  ⟨(some 24), .mov (.tmp 0), none⟩,
  ⟨(some 25), .nilCheck (.tmp 24), none⟩,
  ⟨(some 26), .fieldAddr 0 none (.tmp 25), none⟩,
  ⟨(some 27), .load none false (.tmp 26), none⟩,
  ⟨(some 28), .mov (.tmp 3), none⟩,
  ⟨(some 29), .sliceS (.tmp 27) (some (.tmp 28)) none, none⟩,
  ⟨(some 30), .nilCheck (.tmp 23), none⟩,
  ⟨(some 31), .fieldAddr 0 none (.tmp 30), none⟩,
  ⟨none, .store 1 (.tmp 31) (.mv 29), none⟩] none [0, 3, 23, 24, 25, 26, 27, 28, 29, 30, 31])
  (.seq
  (.region [
  ⟨(some 32), .mov (.mv 4), none⟩,
  ⟨(some 2), .mov (.mv 32), none⟩] none [4, 32])
  .ret)))))) }

/-- strconv.Atoi -/
def a57 : AFun :=
  { nargs := 1, ntmps := 18, res := [.tmp 2, .tmp 3], gc := false, body :=
  (.seq
  (.region [
  ⟨(some 2), .mov (.const (.int .i64 0)), none⟩,
  ⟨(some 3), .mov (.const (.niliface)), none⟩] none [2, 3])
  (.seq
  (.region [
  ⟨(some 7), .mov (.tmp 0), none⟩,
  ⟨(some 8), .call 65 [(.tmp 7)], none⟩,
  ⟨(some 6), .mov (.mv 8), none⟩,
  ⟨(some 9), .extract (.tmp 6) 0, none⟩,
  ⟨(some 10), .extract (.tmp 6) 1, none⟩,
  ⟨(some 4), .mov (.mv 9), none⟩,
  ⟨(some 5), .mov (.mv 10), none⟩] none [6, 7, 8, 9, 10])
  (.seq
  (.seq
  (.region [
  ⟨(some 11), .mov (.tmp 5), none⟩,
  ⟨(some 12), .isNil .neq (.tmp 11), none⟩] none [11])
  (.cond (.tmp 12)
  (.seq
  (.region [
  ⟨(some 13), .mov (.mv 4), none⟩,
  ⟨(some 14), .mov (.mv 0), none⟩,
  ⟨(some 15), .mov (.mv 5), none⟩,
  ⟨(some 16), .call 66 [(.const (.str [65, 116, 111, 105])), (.tmp 14), (.const (.int .i64 0)), (.const (.int .i64 0)), (.tmp 15)], none⟩,
  ⟨(some 2), .mov (.mv 13), none⟩,
  ⟨(some 3), .mov (.mv 16), none⟩] none [0, 4, 5, 12, 13, 14, 15, 16])
  .ret)
  .skip))
  (.seq
  (.region [
  ⟨(some 17), .mov (.mv 4), none⟩,
  ⟨(some 2), .mov (.mv 17), none⟩,
  ⟨(some 3), .mov (.const (.niliface)), none⟩] none [0, 4, 5, 12, 17])
  .ret)))) }

/-- internal/stringslite.CutPrefix -/
def a58 : AFun :=
  { nargs := 2, ntmps := 15, res := [.tmp 4, .tmp 5], gc := false, body :=
  (.seq
  (.region [
  ⟨(some 4), .mov (.const (.str [])), none⟩,
  ⟨(some 5), .mov (.const (.bool false)), none⟩] none [4, 5])
  (.seq
  (.seq
  (.region [
  ⟨(some 6), .mov (.tmp 0), none⟩,
  ⟨(some 7), .mov (.tmp 1), none⟩,
  ⟨(some 8), .call 67 [(.tmp 6), (.tmp 7)], none⟩,
  ⟨(some 9), .un .not (.tmp 8), none⟩] none [6, 7, 8])
  (.cond (.tmp 9)
  (.seq
  (.region [
  ⟨(some 10), .mov (.mv 0), none⟩,
  ⟨(some 4), .mov (.mv 10), none⟩,
  ⟨(some 5), .mov (.const (.bool false)), none⟩] none [0, 1, 9, 10])
  .ret)
  .skip))
  (.seq
  (.region [
  ⟨(some 11), .mov (.mv 0), none⟩,
  ⟨(some 12), .mov (.mv 1), none⟩,
  ⟨(some 13), .lenS (.tmp 12), none⟩,
  ⟨(some 14), .sliceS (.tmp 11) (some (.tmp 13)) none, none⟩,
  ⟨(some 4), .mov (.mv 14), none⟩,
  ⟨(some 5), .mov (.const (.bool true)), none⟩] none [0, 1, 9, 11, 12, 13, 14])
  .ret))) }

def a59_l0 : ACode :=
  (.seq
  (.seq
  (.region [
  ⟨(some 17), .mov (.tmp 7), none⟩,
  ⟨(some 18), .mov (.tmp 0), none⟩,
  ⟨(some 19), .lenS (.tmp 18), none⟩,
  ⟨(some 20), .bin .lss (.tmp 17) (.tmp 19), none⟩] none [17, 18, 19])
  (.cond (.tmp 20)
  .skip
  (.exit 0)))
  (.seq
  (.block 1
  (.seq
  (.region [
  ⟨(some 23), .mov (.tmp 0), none⟩,
  ⟨(some 24), .mov (.tmp 7), none⟩,
  ⟨(some 25), .index (.tmp 23) (.tmp 24), none⟩,
  ⟨(some 26), .call 68 [(.tmp 25)], none⟩,
  ⟨(some 8), .mov (.mv 26), none⟩] none [20, 23, 24, 25, 26])
  (.seq
  (.region [
  ⟨(some 27), .mov (.tmp 8), none⟩,
  ⟨(some 28), .un .not (.tmp 27), none⟩,
  ⟨(some 29), .mov (.mv 28), none⟩,
  ⟨(some 30), .mov (.tmp 0), (some (29, true))⟩,
  ⟨(some 31), .mov (.tmp 7), (some (29, true))⟩,
  ⟨(some 32), .index (.tmp 30) (.tmp 31), (some (29, true))⟩,
  ⟨(some 33), .bin .neq (.tmp 32) (.const (.int .u8 39)), (some (29, true))⟩,
  ⟨(some 34), .pick (.tmp 29) (.tmp 33) (.const (.bool false)), none⟩,
  ⟨(some 35), .mov (.mv 34), none⟩,
  ⟨(some 36), .mov (.tmp 0), (some (35, true))⟩,
  ⟨(some 37), .mov (.tmp 7), (some (35, true))⟩,
  ⟨(some 38), .index (.tmp 36) (.tmp 37), (some (35, true))⟩,
  ⟨(some 39), .bin .neq (.tmp 38) (.const (.int .u8 95)), (some (35, true))⟩,
  ⟨(some 40), .pick (.tmp 35) (.tmp 39) (.const (.bool false)), none⟩] none [8, 27, 28, 29, 30, 31, 32, 33, 34, 35, 36, 37, 38, 39])
  (.cond (.tmp 40)
  (.seq
  (.region [
  ⟨(some 6), .mov (.const (.bool false)), none⟩] none [0, 1, 2, 7, 40])
  .ret)
  .skip))))
  (.region [
  ⟨(some 21), .mov (.tmp 7), none⟩,
  ⟨(some 22), .bin .add (.tmp 21) (.const (.int .i64 1)), none⟩,
  ⟨(some 7), .mov (.mv 22), none⟩] none [21, 22, 40])))
/-- fugue/fugueref01.name -/
def a59 : AFun :=
  { nargs := 3, ntmps := 46, res := [.tmp 6], gc := false, body :=
  (.seq
  (.region [
  ⟨(some 6), .mov (.const (.bool false)), none⟩] none [6])
  (.seq
  (.seq
  (.region [
  ⟨(some 9), .mov (.tmp 0), none⟩,
  ⟨(some 10), .lenS (.tmp 9), none⟩,
  ⟨(some 11), .bin .eql (.tmp 10) (.const (.int .i64 0)), none⟩,
  ⟨(some 12), .mov (.mv 11), none⟩,
  ⟨(some 13), .mov (.tmp 0), (some (12, false))⟩,
  ⟨(some 14), .lenS (.tmp 13), (some (12, false))⟩,
  ⟨(some 15), .bin .gtr (.tmp 14) (.const (.int .i64 32)), (some (12, false))⟩,
  ⟨(some 16), .pick (.tmp 12) (.const (.bool true)) (.tmp 15), none⟩] none [9, 10, 11, 12, 13, 14, 15])
  (.cond (.tmp 16)
  (.seq
  (.region [
  ⟨(some 6), .mov (.const (.bool false)), none⟩] none [0, 1, 2, 16])
  .ret)
  .skip))
  (.seq
  (.seq
  (.region [
  ⟨(some 7), .mov (.const (.int .i64 0)), none⟩] none [16])
  (.block 0
  (.loop a59_l0)))
  (.seq
  (.region [
  ⟨(some 41), .mov (.mv 0), none⟩,
  ⟨(some 42), .index (.tmp 41) (.const (.int .i64 0)), none⟩,
  ⟨(some 43), .mov (.mv 1), none⟩,
  ⟨(some 44), .mov (.mv 2), none⟩,
  ⟨(some 45), .call 69 [(.tmp 42), (.tmp 43), (.tmp 44)], none⟩,
  ⟨(some 6), .mov (.mv 45), none⟩] none [0, 1, 2, 7, 20, 41, 42, 43, 44, 45])
  .ret)))) }

def a65_l0 : ACode :=
  (.seq
  (.region [
  ⟨(some 50), .bin .lss (.tmp 49) (.tmp 48), none⟩] none [])
  (.seq
  (.cond (.tmp 50)
  .skip
  (.exit 0))
  (.seq
  (.block 1
  (.seq
  (.region [
  ⟨(some 51), .indexAddr 1 (.tmp 47) (.tmp 49), none⟩,
  ⟨(some 52), .load none false (.tmp 51), none⟩,
  ⟨(some 8), .mov (.mv 52), none⟩] none [50, 51, 52])
  (.seq
  (.region [
  ⟨(some 53), .mov (.tmp 8), none⟩,
  ⟨(some 54), .bin .sub (.tmp 53) (.const (.int .u8 48)), none⟩,
  ⟨(some 8), .mov (.mv 54), none⟩] none [53, 54])
  (.seq
  (.seq
  (.region [
  ⟨(some 55), .mov (.tmp 8), none⟩,
  ⟨(some 56), .bin .gtr (.tmp 55) (.const (.int .u8 9)), none⟩] none [55])
  (.cond (.tmp 56)
  (.seq
  (.region [
  ⟨(some 57), .mkIface 105 (.const (.int .i64 2)), none⟩,
  ⟨(some 2), .mov (.const (.int .i64 0)), none⟩,
  ⟨(some 3), .mov (.mv 57), none⟩] none [5, 6, 8, 47, 48, 49, 56, 57])
  .ret)
  .skip))
  (.region [
  ⟨(some 58), .mov (.tmp 6), none⟩,
  ⟨(some 59), .bin .mul (.tmp 58) (.const (.int .i64 10)), none⟩,
  ⟨(some 60), .mov (.tmp 8), none⟩,
  ⟨(some 61), .toInt .i64 (.tmp 60), none⟩,
  ⟨(some 62), .bin .add (.tmp 59) (.tmp 61), none⟩,
  ⟨(some 6), .mov (.mv 62), none⟩] none [8, 56, 58, 59, 60, 61, 62])))))
  (.region [
  ⟨(some 63), .bin .add (.tmp 49) (.const (.int .i64 1)), none⟩,
  ⟨(some 49), .mov (.mv 63), none⟩] none [63]))))
/-- internal/strconv.Atoi -/
def a65 : AFun :=
  { nargs := 1, ntmps := 77, res := [.tmp 2, .tmp 3], gc := false, body :=
  (.seq
  (.region [
  ⟨(some 2), .mov (.const (.int .i64 0)), none⟩,
  ⟨(some 3), .mov (.const (.niliface)), none⟩] none [2, 3])
  (.seq
  (.region [
  ⟨(some 11), .mov (.tmp 0), none⟩,
  ⟨(some 12), .lenS (.tmp 11), none⟩,
  ⟨(some 4), .mov (.mv 12), none⟩] none [11, 12])
  (.seq
  (.seq
  (.region [
  ⟨(some 13), .mov (.const (.bool false)), none⟩,
  ⟨(some 14), .mov (.tmp 4), (some (13, true))⟩,
  ⟨(some 15), .bin .lss (.const (.int .i64 0)) (.tmp 14), (some (13, true))⟩,
  ⟨(some 16), .mov (.mv 15), (some (13, true))⟩,
  ⟨(some 17), .mov (.tmp 4), (some (16, true))⟩,
  ⟨(some 18), .bin .lss (.tmp 17) (.const (.int .i64 10)), (some (16, true))⟩,
  ⟨(some 19), .pick (.tmp 16) (.tmp 18) (.const (.bool false)), (some (13, true))⟩,
  ⟨(some 20), .pick (.tmp 13) (.tmp 19) (.const (.bool false)), none⟩,
  ⟨(some 21), .mov (.mv 20), none⟩,
  ⟨(some 22), .mov (.const (.bool true)), (some (21, false))⟩,
  ⟨(some 23), .mov (.tmp 4), (some (22, true))⟩,
  ⟨(some 24), .bin .lss (.const (.int .i64 0)) (.tmp 23), (some (22, true))⟩,
  ⟨(some 25), .mov (.mv 24), (some (22, true))⟩,
  ⟨(some 26), .mov (.tmp 4), (some (25, true))⟩,
  ⟨(some 27), .bin .lss (.tmp 26) (.const (.int .i64 19)), (some (25, true))⟩,
  ⟨(some 28), .pick (.tmp 25) (.tmp 27) (.const (.bool false)), (some (22, true))⟩,
  ⟨(some 29), .pick (.tmp 22) (.tmp 28) (.const (.bool false)), (some (21, false))⟩,
  ⟨(some 30), .pick (.tmp 21) (.const (.bool true)) (.tmp 29), none⟩] none [4, 13, 14, 15, 16, 17, 18, 19, 20, 21, 22, 23, 24, 25, 26, 27, 28, 29])
  (.cond (.tmp 30)
  (.seq
  (.region [
  ⟨(some 31), .mov (.tmp 0), none⟩,
  ⟨(some 5), .mov (.mv 31), none⟩] none [30, 31])
  (.seq
  (.seq
  (.region [
  ⟨(some 32), .mov (.tmp 0), none⟩,
  ⟨(some 33), .index (.tmp 32) (.const (.int .i64 0)), none⟩,
  ⟨(some 34), .bin .eql (.tmp 33) (.const (.int .u8 45)), none⟩,
  ⟨(some 35), .mov (.mv 34), none⟩,
  ⟨(some 36), .mov (.tmp 0), (some (35, false))⟩,
  ⟨(some 37), .index (.tmp 36) (.const (.int .i64 0)), (some (35, false))⟩,
  ⟨(some 38), .bin .eql (.tmp 37) (.const (.int .u8 43)), (some (35, false))⟩,
  ⟨(some 39), .pick (.tmp 35) (.const (.bool true)) (.tmp 38), none⟩] none [32, 33, 34, 35, 36, 37, 38])
  (.cond (.tmp 39)
  (.seq
  (.region [
  ⟨(some 40), .mov (.tmp 0), none⟩,
  ⟨(some 41), .sliceS (.tmp 40) (some (.const (.int .i64 1))) none, none⟩,
  ⟨(some 0), .mov (.mv 41), none⟩] none [39, 40, 41])
  (.seq
  (.region [
  ⟨(some 42), .mov (.tmp 0), none⟩,
  ⟨(some 43), .lenS (.tmp 42), none⟩,
  ⟨(some 44), .bin .lss (.tmp 43) (.const (.int .i64 1)), none⟩] none [42, 43])
  (.cond (.tmp 44)
  (.seq
  (.region [
  ⟨(some 45), .mkIface 105 (.const (.int .i64 2)), none⟩,
  ⟨(some 2), .mov (.const (.int .i64 0)), none⟩,
  ⟨(some 3), .mov (.mv 45), none⟩] none [0, 5, 44, 45])
  .ret)
  .skip)))
  .skip))
  (.seq
  (.region [
  ⟨(some 6), .mov (.const (.int .i64 0)), none⟩] none [39, 44])
  (.seq
  (.seq
  (.region [
  ⟨(some 46), .mov (.tmp 0), none⟩,
  ⟨(some 47), .strToBytes ⟨5, 1⟩ (.tmp 46), none⟩,
  ⟨(some 48), .len (.tmp 47), none⟩,
  ⟨(some 49), .mov (.const (.int .i64 0)), none⟩] none [0, 46])
  (.block 0
  (.loop a65_l0)))
  (.seq
  (.seq
  (.region [
  ⟨(some 64), .mov (.tmp 5), none⟩,
  ⟨(some 65), .index (.tmp 64) (.const (.int .i64 0)), none⟩,
  ⟨(some 66), .bin .eql (.tmp 65) (.const (.int .u8 45)), none⟩] none [5, 47, 48, 49, 50, 64, 65])
  (.cond (.tmp 66)
  (.region [
  ⟨(some 67), .mov (.tmp 6), none⟩,
  ⟨(some 68), .un .neg (.tmp 67), none⟩,
  ⟨(some 6), .mov (.mv 68), none⟩] none [66, 67, 68])
  .skip))
  (.seq
  (.region [
  ⟨(some 69), .mov (.mv 6), none⟩,
  ⟨(some 2), .mov (.mv 69), none⟩,
  ⟨(some 3), .mov (.const (.niliface)), none⟩] none [6, 66, 69])
  .ret))))))
  .skip))
  (.seq
  (.region [
  ⟨(some 71), .mov (.tmp 0), none⟩,
  ⟨(some 72), .call 79 [(.tmp 71), (.const (.int .i64 10)), (.const (.int .i64 0))], none⟩,
  ⟨(some 70), .mov (.mv 72), none⟩,
  ⟨(some 73), .extract (.tmp 70) 0, none⟩,
  ⟨(some 74), .extract (.tmp 70) 1, none⟩,
  ⟨(some 9), .mov (.mv 73), none⟩,
  ⟨(some 10), .mov (.mv 74), none⟩] none [0, 30, 70, 71, 72, 73, 74])
  (.seq
  (.region [
  ⟨(some 75), .mov (.mv 9), none⟩,
  ⟨(some 76), .mov (.mv 10), none⟩,
  ⟨(some 2), .mov (.mv 75), none⟩,
  ⟨(some 3), .mov (.mv 76), none⟩] none [9, 10, 75, 76])
  .ret))))) }

/-- internal/stringslite.HasPrefix -/
def a67 : AFun :=
  { nargs := 2, ntmps := 18, res := [.tmp 4], gc := false, body :=
  (.seq
  (.region [
  ⟨(some 4), .mov (.const (.bool false)), none⟩] none [4])
  (.seq
  (.region [
  ⟨(some 5), .mov (.tmp 0), none⟩,
  ⟨(some 6), .lenS (.tmp 5), none⟩,
  ⟨(some 7), .mov (.tmp 1), none⟩,
  ⟨(some 8), .lenS (.tmp 7), none⟩,
  ⟨(some 9), .bin .geq (.tmp 6) (.tmp 8), none⟩,
  ⟨(some 10), .mov (.mv 9), none⟩,
  ⟨(some 11), .mov (.tmp 0), (some (10, true))⟩,
  ⟨(some 12), .mov (.tmp 1), (some (10, true))⟩,
  ⟨(some 13), .lenS (.tmp 12), (some (10, true))⟩,
  ⟨(some 14), .sliceS (.tmp 11) none (some (.tmp 13)), (some (10, true))⟩,
  ⟨(some 15), .mov (.tmp 1), (some (10, true))⟩,
  ⟨(some 16), .bin .eql (.tmp 14) (.tmp 15), (some (10, true))⟩,
  ⟨(some 17), .pick (.tmp 10) (.tmp 16) (.const (.bool false)), none⟩,
  ⟨(some 4), .mov (.mv 17), none⟩] none [0, 1, 5, 6, 7, 8, 9, 10, 11, 12, 13, 14, 15, 16, 17])
  .ret)) }

/-- fugue/fugueref01.plain -/
def a68 : AFun :=
  { nargs := 1, ntmps := 13, res := [.tmp 2], gc := false, body :=
  (.seq
  (.region [
  ⟨(some 2), .mov (.const (.bool false)), none⟩] none [2])
  (.seq
  (.region [
  ⟨(some 3), .mov (.tmp 0), none⟩,
  ⟨(some 4), .call 69 [(.tmp 3), (.const (.int .u8 97)), (.const (.int .u8 122))], none⟩,
  ⟨(some 5), .mov (.mv 4), none⟩,
  ⟨(some 6), .mov (.tmp 0), (some (5, false))⟩,
  ⟨(some 7), .call 69 [(.tmp 6), (.const (.int .u8 65)), (.const (.int .u8 90))], (some (5, false))⟩,
  ⟨(some 8), .pick (.tmp 5) (.const (.bool true)) (.tmp 7), none⟩,
  ⟨(some 9), .mov (.mv 8), none⟩,
  ⟨(some 10), .mov (.tmp 0), (some (9, false))⟩,
  ⟨(some 11), .call 69 [(.tmp 10), (.const (.int .u8 48)), (.const (.int .u8 57))], (some (9, false))⟩,
  ⟨(some 12), .pick (.tmp 9) (.const (.bool true)) (.tmp 11), none⟩,
  ⟨(some 2), .mov (.mv 12), none⟩] none [0, 3, 4, 5, 6, 7, 8, 9, 10, 11, 12])
  .ret)) }

/-- fugue/fugueref01.within -/
def a69 : AFun :=
  { nargs := 3, ntmps := 15, res := [.tmp 6], gc := false, body :=
  (.seq
  (.region [
  ⟨(some 6), .mov (.const (.bool false)), none⟩] none [6])
  (.seq
  (.region [
  ⟨(some 7), .mov (.tmp 0), none⟩,
  ⟨(some 8), .mov (.mv 1), none⟩,
  ⟨(some 9), .bin .geq (.tmp 7) (.tmp 8), none⟩,
  ⟨(some 10), .mov (.mv 9), none⟩,
  ⟨(some 11), .mov (.tmp 0), (some (10, true))⟩,
  ⟨(some 12), .mov (.mv 2), (some (10, true))⟩,
  ⟨(some 13), .bin .leq (.tmp 11) (.tmp 12), (some (10, true))⟩,
  ⟨(some 14), .pick (.tmp 10) (.tmp 13) (.const (.bool false)), none⟩,
  ⟨(some 6), .mov (.mv 14), none⟩] none [0, 1, 2, 7, 8, 9, 10, 11, 12, 13, 14])
  .ret)) }

/-- internal/strconv.ParseInt -/
def a79 : AFun :=
  { nargs := 3, ntmps := 73, res := [.tmp 6, .tmp 7], gc := false, body :=
  (.seq
  (.region [
  ⟨(some 6), .mov (.const (.int .i64 0)), none⟩,
  ⟨(some 7), .mov (.const (.niliface)), none⟩] none [6, 7])
  (.seq
  (.seq
  (.region [
  ⟨(some 12), .mov (.tmp 0), none⟩,
  ⟨(some 13), .bin .eql (.tmp 12) (.const (.str [])), none⟩] none [12])
  (.cond (.tmp 13)
  (.seq
  (.region [
  ⟨(some 14), .mkIface 105 (.const (.int .i64 2)), none⟩,
  ⟨(some 6), .mov (.const (.int .i64 0)), none⟩,
  ⟨(some 7), .mov (.mv 14), none⟩] none [0, 1, 2, 13, 14])
  .ret)
  .skip))
  (.seq
  (.region [
  ⟨(some 8), .mov (.const (.bool false)), none⟩] none [13])
  (.seq
  (.seq
  (.region [
  ⟨(some 15), .mov (.tmp 0), none⟩,
  ⟨(some 16), .index (.tmp 15) (.const (.int .i64 0)), none⟩] none [15])
  (.block 0
  (.seq
  (.region [
  ⟨(some 18), .bin .eql (.tmp 16) (.const (.int .u8 43)), none⟩,
  ⟨(some 17), .mov (.mv 18), none⟩] none [18])
  (.cond (.tmp 17)
  (.region [
  ⟨(some 19), .mov (.tmp 0), none⟩,
  ⟨(some 20), .sliceS (.tmp 19) (some (.const (.int .i64 1))) none, none⟩,
  ⟨(some 0), .mov (.mv 20), none⟩] none [16, 17, 19, 20])
  (.seq
  (.region [
  ⟨(some 22), .bin .eql (.tmp 16) (.const (.int .u8 45)), none⟩,
  ⟨(some 21), .mov (.mv 22), none⟩] none [16, 17, 22])
  (.cond (.tmp 21)
  (.seq
  (.region [
  ⟨(some 23), .mov (.tmp 0), none⟩,
  ⟨(some 24), .sliceS (.tmp 23) (some (.const (.int .i64 1))) none, none⟩,
  ⟨(some 0), .mov (.mv 24), none⟩] none [8, 21, 23, 24])
  (.region [
  ⟨(some 8), .mov (.const (.bool true)), none⟩] none []))
  .skip))))))
  (.seq
  (.region [
  ⟨(some 9), .mov (.const (.int .u64 0)), none⟩] none [9, 21])
  (.seq
  (.region [
  ⟨(some 26), .mov (.tmp 0), none⟩,
  ⟨(some 27), .mov (.tmp 1), none⟩,
  ⟨(some 28), .mov (.tmp 2), none⟩,
  ⟨(some 29), .call 90 [(.tmp 26), (.tmp 27), (.tmp 28)], none⟩,
  ⟨(some 25), .mov (.mv 29), none⟩,
  ⟨(some 30), .extract (.tmp 25) 0, none⟩,
  ⟨(some 31), .extract (.tmp 25) 1, none⟩,
  ⟨(some 9), .mov (.mv 30), none⟩,
  ⟨(some 7), .mov (.mv 31), none⟩] none [0, 1, 25, 26, 27, 28, 29, 30, 31])
  (.seq
  (.seq
  (.region [
  ⟨(some 32), .mov (.tmp 7), none⟩,
  ⟨(some 33), .isNil .neq (.tmp 32), none⟩,
  ⟨(some 34), .mov (.mv 33), none⟩,
  ⟨(some 35), .mov (.tmp 7), (some (34, true))⟩,
  ⟨(some 36), .mkIface 105 (.const (.int .i64 1)), (some (34, true))⟩,
  ⟨(some 37), .bin .neq (.tmp 35) (.tmp 36), (some (34, true))⟩,
  ⟨(some 38), .pick (.tmp 34) (.tmp 37) (.const (.bool false)), none⟩] none [32, 33, 34, 35, 36, 37])
  (.cond (.tmp 38)
  (.seq
  (.region [
  ⟨(some 39), .mov (.tmp 7), none⟩,
  ⟨(some 6), .mov (.const (.int .i64 0)), none⟩,
  ⟨(some 7), .mov (.mv 39), none⟩] none [2, 8, 9, 38, 39])
  .ret)
  .skip))
  (.seq
  (.seq
  (.region [
  ⟨(some 40), .mov (.tmp 2), none⟩,
  ⟨(some 41), .bin .eql (.tmp 40) (.const (.int .i64 0)), none⟩] none [7, 38, 40])
  (.cond (.tmp 41)
  (.region [
  ⟨(some 2), .mov (.const (.int .i64 64)), none⟩] none [41])
  .skip))
  (.seq
  (.region [
  ⟨(some 42), .mov (.tmp 2), none⟩,
  ⟨(some 43), .bin .sub (.tmp 42) (.const (.int .i64 1)), none⟩,
  ⟨(some 44), .toInt .u64 (.tmp 43), none⟩,
  ⟨(some 45), .bin .shl (.const (.int .u64 1)) (.tmp 44), none⟩,
  ⟨(some 10), .mov (.mv 45), none⟩] none [2, 41, 42, 43, 44, 45])
  (.seq
  (.seq
  (.region [
  ⟨(some 46), .mov (.tmp 8), none⟩,
  ⟨(some 47), .un .not (.tmp 46), none⟩,
  ⟨(some 48), .mov (.mv 47), none⟩,
  ⟨(some 49), .mov (.tmp 9), (some (48, true))⟩,
  ⟨(some 50), .mov (.tmp 10), (some (48, true))⟩,
  ⟨(some 51), .bin .geq (.tmp 49) (.tmp 50), (some (48, true))⟩,
  ⟨(some 52), .pick (.tmp 48) (.tmp 51) (.const (.bool false)), none⟩] none [46, 47, 48, 49, 50, 51])
  (.cond (.tmp 52)
  (.seq
  (.region [
  ⟨(some 53), .mov (.mv 10), none⟩,
  ⟨(some 54), .bin .sub (.tmp 53) (.const (.int .u64 1)), none⟩,
  ⟨(some 55), .toInt .i64 (.tmp 54), none⟩,
  ⟨(some 56), .mkIface 105 (.const (.int .i64 1)), none⟩,
  ⟨(some 6), .mov (.mv 55), none⟩,
  ⟨(some 7), .mov (.mv 56), none⟩] none [8, 9, 10, 52, 53, 54, 55, 56])
  .ret)
  .skip))
  (.seq
  (.seq
  (.region [
  ⟨(some 57), .mov (.tmp 8), none⟩,
  ⟨(some 58), .mov (.mv 57), none⟩,
  ⟨(some 59), .mov (.tmp 9), (some (58, true))⟩,
  ⟨(some 60), .mov (.tmp 10), (some (58, true))⟩,
  ⟨(some 61), .bin .gtr (.tmp 59) (.tmp 60), (some (58, true))⟩,
  ⟨(some 62), .pick (.tmp 58) (.tmp 61) (.const (.bool false)), none⟩] none [52, 57, 58, 59, 60, 61])
  (.cond (.tmp 62)
  (.seq
  (.region [
  ⟨(some 63), .mov (.mv 10), none⟩,
  ⟨(some 64), .toInt .i64 (.tmp 63), none⟩,
  ⟨(some 65), .un .neg (.tmp 64), none⟩,
  ⟨(some 66), .mkIface 105 (.const (.int .i64 1)), none⟩,
  ⟨(some 6), .mov (.mv 65), none⟩,
  ⟨(some 7), .mov (.mv 66), none⟩] none [8, 9, 10, 62, 63, 64, 65, 66])
  .ret)
  .skip))
  (.seq
  (.region [
  ⟨(some 67), .mov (.tmp 9), none⟩,
  ⟨(some 68), .toInt .i64 (.tmp 67), none⟩,
  ⟨(some 11), .mov (.mv 68), none⟩] none [9, 10, 62, 67, 68])
  (.seq
  (.seq
  (.region [
  ⟨(some 69), .mov (.tmp 8), none⟩] none [8])
  (.cond (.tmp 69)
  (.region [
  ⟨(some 70), .mov (.tmp 11), none⟩,
  ⟨(some 71), .un .neg (.tmp 70), none⟩,
  ⟨(some 11), .mov (.mv 71), none⟩] none [69, 70, 71])
  .skip))
  (.seq
  (.region [
  ⟨(some 72), .mov (.mv 11), none⟩,
  ⟨(some 6), .mov (.mv 72), none⟩,
  ⟨(some 7), .mov (.const (.niliface)), none⟩] none [11, 69, 72])
  .ret)))))))))))))) }

def a90_l0 : ACode :=
  (.seq
  (.region [
  ⟨(some 102), .bin .lss (.tmp 101) (.tmp 100), none⟩] none [])
  (.seq
  (.cond (.tmp 102)
  .skip
  (.exit 3))
  (.seq
  (.block 4
  (.seq
  (.region [
  ⟨(some 103), .indexAddr 1 (.tmp 99) (.tmp 101), none⟩,
  ⟨(some 104), .load none false (.tmp 103), none⟩,
  ⟨(some 15), .mov (.mv 104), none⟩] none [102, 103, 104])
  (.seq
  (.region [
  ⟨(some 16), .mov (.const (.int .u8 0)), none⟩] none [16])
  (.seq
  (.block 5
  (.seq
  (.region [
  ⟨(some 107), .mov (.tmp 15), none⟩,
  ⟨(some 108), .bin .eql (.tmp 107) (.const (.int .u8 95)), none⟩,
  ⟨(some 109), .mov (.mv 108), none⟩,
  ⟨(some 110), .mov (.tmp 8), (some (109, true))⟩,
  ⟨(some 111), .pick (.tmp 109) (.tmp 110) (.const (.bool false)), none⟩,
  ⟨(some 106), .mov (.mv 111), none⟩] none [107, 108, 109, 110, 111])
  (.cond (.tmp 106)
  (.seq
  (.region [
  ⟨(some 12), .mov (.const (.bool true)), none⟩] none [15, 106])
  (.exit 4))
  (.seq
  (.region [
  ⟨(some 113), .mov (.tmp 15), none⟩,
  ⟨(some 114), .bin .leq (.const (.int .u8 48)) (.tmp 113), none⟩,
  ⟨(some 115), .mov (.mv 114), none⟩,
  ⟨(some 116), .mov (.tmp 15), (some (115, true))⟩,
  ⟨(some 117), .bin .leq (.tmp 116) (.const (.int .u8 57)), (some (115, true))⟩,
  ⟨(some 118), .pick (.tmp 115) (.tmp 117) (.const (.bool false)), none⟩,
  ⟨(some 112), .mov (.mv 118), none⟩] none [106, 113, 114, 115, 116, 117, 118])
  (.cond (.tmp 112)
  (.region [
  ⟨(some 119), .mov (.tmp 15), none⟩,
  ⟨(some 120), .bin .sub (.tmp 119) (.const (.int .u8 48)), none⟩,
  ⟨(some 16), .mov (.mv 120), none⟩] none [15, 112, 119, 120])
  (.seq
  (.region [
  ⟨(some 122), .mov (.tmp 15), none⟩,
  ⟨(some 123), .call 94 [(.tmp 122)], none⟩,
  ⟨(some 124), .bin .leq (.const (.int .u8 97)) (.tmp 123), none⟩,
  ⟨(some 125), .mov (.mv 124), none⟩,
  ⟨(some 126), .mov (.tmp 15), (some (125, true))⟩,
  ⟨(some 127), .call 94 [(.tmp 126)], (some (125, true))⟩,
  ⟨(some 128), .bin .leq (.tmp 127) (.const (.int .u8 122)), (some (125, true))⟩,
  ⟨(some 129), .pick (.tmp 125) (.tmp 128) (.const (.bool false)), none⟩,
  ⟨(some 121), .mov (.mv 129), none⟩] none [112, 122, 123, 124, 125, 126, 127, 128, 129])
  (.cond (.tmp 121)
  (.region [
  ⟨(some 130), .mov (.tmp 15), none⟩,
  ⟨(some 131), .call 94 [(.tmp 130)], none⟩,
  ⟨(some 132), .bin .sub (.tmp 131) (.const (.int .u8 97)), none⟩,
  ⟨(some 133), .bin .add (.tmp 132) (.const (.int .u8 10)), none⟩,
  ⟨(some 16), .mov (.mv 133), none⟩] none [15, 121, 130, 131, 132, 133])
  (.seq
  (.region [
  ⟨(some 105), .mkIface 105 (.const (.int .i64 2)), none⟩,
  ⟨(some 6), .mov (.const (.int .u64 0)), none⟩,
  ⟨(some 7), .mov (.mv 105), none⟩] none [1, 8, 9, 10, 11, 12, 13, 15, 99, 100, 101, 105, 121])
  .ret))))))))
  (.seq
  (.seq
  (.region [
  ⟨(some 134), .mov (.tmp 16), none⟩,
  ⟨(some 135), .mov (.tmp 1), none⟩,
  ⟨(some 136), .toInt .u8 (.tmp 135), none⟩,
  ⟨(some 137), .bin .geq (.tmp 134) (.tmp 136), none⟩] none [134, 135, 136])
  (.cond (.tmp 137)
  (.seq
  (.region [
  ⟨(some 138), .mkIface 105 (.const (.int .i64 2)), none⟩,
  ⟨(some 6), .mov (.const (.int .u64 0)), none⟩,
  ⟨(some 7), .mov (.mv 138), none⟩] none [1, 8, 9, 10, 11, 12, 13, 16, 99, 100, 101, 137, 138])
  .ret)
  .skip))
  (.seq
  (.seq
  (.region [
  ⟨(some 139), .mov (.tmp 13), none⟩,
  ⟨(some 140), .mov (.tmp 10), none⟩,
  ⟨(some 141), .bin .geq (.tmp 139) (.tmp 140), none⟩] none [137, 139, 140])
  (.cond (.tmp 141)
  (.seq
  (.region [
  ⟨(some 142), .mov (.mv 11), none⟩,
  ⟨(some 143), .mkIface 105 (.const (.int .i64 1)), none⟩,
  ⟨(some 6), .mov (.mv 142), none⟩,
  ⟨(some 7), .mov (.mv 143), none⟩] none [1, 8, 9, 10, 11, 12, 13, 16, 99, 100, 101, 141, 142, 143])
  .ret)
  .skip))
  (.seq
  (.region [
  ⟨(some 144), .mov (.tmp 13), none⟩,
  ⟨(some 145), .mov (.tmp 1), none⟩,
  ⟨(some 146), .toInt .u64 (.tmp 145), none⟩,
  ⟨(some 147), .bin .mul (.tmp 144) (.tmp 146), none⟩,
  ⟨(some 13), .mov (.mv 147), none⟩] none [141, 144, 145, 146, 147])
  (.seq
  (.region [
  ⟨(some 148), .mov (.tmp 13), none⟩,
  ⟨(some 149), .mov (.tmp 16), none⟩,
  ⟨(some 150), .toInt .u64 (.tmp 149), none⟩,
  ⟨(some 151), .bin .add (.tmp 148) (.tmp 150), none⟩,
  ⟨(some 17), .mov (.mv 151), none⟩] none [16, 148, 149, 150, 151])
  (.seq
  (.seq
  (.region [
  ⟨(some 152), .mov (.tmp 17), none⟩,
  ⟨(some 153), .mov (.tmp 13), none⟩,
  ⟨(some 154), .bin .lss (.tmp 152) (.tmp 153), none⟩,
  ⟨(some 155), .mov (.mv 154), none⟩,
  ⟨(some 156), .mov (.tmp 17), (some (155, false))⟩,
  ⟨(some 157), .mov (.tmp 11), (some (155, false))⟩,
  ⟨(some 158), .bin .gtr (.tmp 156) (.tmp 157), (some (155, false))⟩,
  ⟨(some 159), .pick (.tmp 155) (.const (.bool true)) (.tmp 158), none⟩] none [13, 152, 153, 154, 155, 156, 157, 158])
  (.cond (.tmp 159)
  (.seq
  (.region [
  ⟨(some 160), .mov (.mv 11), none⟩,
  ⟨(some 161), .mkIface 105 (.const (.int .i64 1)), none⟩,
  ⟨(some 6), .mov (.mv 160), none⟩,
  ⟨(some 7), .mov (.mv 161), none⟩] none [1, 8, 9, 10, 11, 12, 17, 99, 100, 101, 159, 160, 161])
  .ret)
  .skip))
  (.region [
  ⟨(some 162), .mov (.tmp 17), none⟩,
  ⟨(some 13), .mov (.mv 162), none⟩] none [17, 159, 162]))))))))))
  (.region [
  ⟨(some 163), .bin .add (.tmp 101) (.const (.int .i64 1)), none⟩,
  ⟨(some 101), .mov (.mv 163), none⟩] none [163]))))
/-- internal/strconv.ParseUint -/
def a90 : AFun :=
  { nargs := 3, ntmps := 172, res := [.tmp 6, .tmp 7], gc := false, body :=
  (.seq
  (.region [
  ⟨(some 6), .mov (.const (.int .u64 0)), none⟩,
  ⟨(some 7), .mov (.const (.niliface)), none⟩] none [6, 7])
  (.seq
  (.seq
  (.region [
  ⟨(some 18), .mov (.tmp 0), none⟩,
  ⟨(some 19), .bin .eql (.tmp 18) (.const (.str [])), none⟩] none [18])
  (.cond (.tmp 19)
  (.seq
  (.region [
  ⟨(some 20), .mkIface 105 (.const (.int .i64 2)), none⟩,
  ⟨(some 6), .mov (.const (.int .u64 0)), none⟩,
  ⟨(some 7), .mov (.mv 20), none⟩] none [0, 1, 2, 19, 20])
  .ret)
  .skip))
  (.seq
  (.region [
  ⟨(some 21), .mov (.tmp 1), none⟩,
  ⟨(some 22), .bin .eql (.tmp 21) (.const (.int .i64 0)), none⟩,
  ⟨(some 8), .mov (.mv 22), none⟩] none [19, 21, 22])
  (.seq
  (.region [
  ⟨(some 23), .mov (.tmp 0), none⟩,
  ⟨(some 9), .mov (.mv 23), none⟩] none [23])
  (.seq
  (.block 0
  (.seq
  (.region [
  ⟨(some 26), .mov (.tmp 1), none⟩,
  ⟨(some 27), .bin .leq (.const (.int .i64 2)) (.tmp 26), none⟩,
  ⟨(some 28), .mov (.mv 27), none⟩,
  ⟨(some 29), .mov (.tmp 1), (some (28, true))⟩,
  ⟨(some 30), .bin .leq (.tmp 29) (.const (.int .i64 36)), (some (28, true))⟩,
  ⟨(some 31), .pick (.tmp 28) (.tmp 30) (.const (.bool false)), none⟩,
  ⟨(some 25), .mov (.mv 31), none⟩] none [26, 27, 28, 29, 30, 31])
  (.cond (.tmp 25)
  .skip
  (.seq
  (.region [
  ⟨(some 33), .mov (.tmp 1), none⟩,
  ⟨(some 34), .bin .eql (.tmp 33) (.const (.int .i64 0)), none⟩,
  ⟨(some 32), .mov (.mv 34), none⟩] none [1, 25, 33, 34])
  (.cond (.tmp 32)
  (.seq
  (.region [
  ⟨(some 1), .mov (.const (.int .i64 10)), none⟩] none [32])
  (.seq
  (.region [
  ⟨(some 35), .mov (.tmp 0), none⟩,
  ⟨(some 36), .index (.tmp 35) (.const (.int .i64 0)), none⟩,
  ⟨(some 37), .bin .eql (.tmp 36) (.const (.int .u8 48)), none⟩] none [35, 36])
  (.cond (.tmp 37)
  (.block 1
  (.seq
  (.region [
  ⟨(some 41), .mov (.tmp 0), none⟩,
  ⟨(some 42), .lenS (.tmp 41), none⟩,
  ⟨(some 43), .bin .geq (.tmp 42) (.const (.int .i64 3)), none⟩,
  ⟨(some 44), .mov (.mv 43), none⟩,
  ⟨(some 45), .mov (.tmp 0), (some (44, true))⟩,
  ⟨(some 46), .index (.tmp 45) (.const (.int .i64 1)), (some (44, true))⟩,
  ⟨(some 47), .call 94 [(.tmp 46)], (some (44, true))⟩,
  ⟨(some 48), .bin .eql (.tmp 47) (.const (.int .u8 98)), (some (44, true))⟩,
  ⟨(some 49), .pick (.tmp 44) (.tmp 48) (.const (.bool false)), none⟩,
  ⟨(some 40), .mov (.mv 49), none⟩] none [1, 37, 41, 42, 43, 44, 45, 46, 47, 48, 49])
  (.cond (.tmp 40)
  (.seq
  (.region [
  ⟨(some 1), .mov (.const (.int .i64 2)), none⟩] none [40])
  (.region [
  ⟨(some 50), .mov (.tmp 0), none⟩,
  ⟨(some 51), .sliceS (.tmp 50) (some (.const (.int .i64 2))) none, none⟩,
  ⟨(some 0), .mov (.mv 51), none⟩] none [50, 51]))
  (.seq
  (.region [
  ⟨(some 53), .mov (.tmp 0), none⟩,
  ⟨(some 54), .lenS (.tmp 53), none⟩,
  ⟨(some 55), .bin .geq (.tmp 54) (.const (.int .i64 3)), none⟩,
  ⟨(some 56), .mov (.mv 55), none⟩,
  ⟨(some 57), .mov (.tmp 0), (some (56, true))⟩,
  ⟨(some 58), .index (.tmp 57) (.const (.int .i64 1)), (some (56, true))⟩,
  ⟨(some 59), .call 94 [(.tmp 58)], (some (56, true))⟩,
  ⟨(some 60), .bin .eql (.tmp 59) (.const (.int .u8 111)), (some (56, true))⟩,
  ⟨(some 61), .pick (.tmp 56) (.tmp 60) (.const (.bool false)), none⟩,
  ⟨(some 52), .mov (.mv 61), none⟩] none [40, 53, 54, 55, 56, 57, 58, 59, 60, 61])
  (.cond (.tmp 52)
  (.seq
  (.region [
  ⟨(some 1), .mov (.const (.int .i64 8)), none⟩] none [52])
  (.region [
  ⟨(some 62), .mov (.tmp 0), none⟩,
  ⟨(some 63), .sliceS (.tmp 62) (some (.const (.int .i64 2))) none, none⟩,
  ⟨(some 0), .mov (.mv 63), none⟩] none [62, 63]))
  (.seq
  (.region [
  ⟨(some 65), .mov (.tmp 0), none⟩,
  ⟨(some 66), .lenS (.tmp 65), none⟩,
  ⟨(some 67), .bin .geq (.tmp 66) (.const (.int .i64 3)), none⟩,
  ⟨(some 68), .mov (.mv 67), none⟩,
  ⟨(some 69), .mov (.tmp 0), (some (68, true))⟩,
  ⟨(some 70), .index (.tmp 69) (.const (.int .i64 1)), (some (68, true))⟩,
  ⟨(some 71), .call 94 [(.tmp 70)], (some (68, true))⟩,
  ⟨(some 72), .bin .eql (.tmp 71) (.const (.int .u8 120)), (some (68, true))⟩,
  ⟨(some 73), .pick (.tmp 68) (.tmp 72) (.const (.bool false)), none⟩,
  ⟨(some 64), .mov (.mv 73), none⟩] none [52, 65, 66, 67, 68, 69, 70, 71, 72, 73])
  (.cond (.tmp 64)
  (.seq
  (.region [
  ⟨(some 1), .mov (.const (.int .i64 16)), none⟩] none [64])
  (.region [
  ⟨(some 74), .mov (.tmp 0), none⟩,
  ⟨(some 75), .sliceS (.tmp 74) (some (.const (.int .i64 2))) none, none⟩,
  ⟨(some 0), .mov (.mv 75), none⟩] none [74, 75]))
  (.seq
  (.region [
  ⟨(some 1), .mov (.const (.int .i64 8)), none⟩] none [64])
  (.region [
  ⟨(some 38), .mov (.tmp 0), none⟩,
  ⟨(some 39), .sliceS (.tmp 38) (some (.const (.int .i64 1))) none, none⟩,
  ⟨(some 0), .mov (.mv 39), none⟩] none [38, 39])))))))))
  .skip)))
  (.seq
  (.region [
  ⟨(some 24), .mkIface 105 (.const (.int .i64 3)), none⟩,
  ⟨(some 6), .mov (.const (.int .u64 0)), none⟩,
  ⟨(some 7), .mov (.mv 24), none⟩] none [0, 2, 8, 9, 24, 32])
  .ret))))))
  (.seq
  (.seq
  (.region [
  ⟨(some 76), .mov (.tmp 2), none⟩,
  ⟨(some 77), .bin .eql (.tmp 76) (.const (.int .i64 0)), none⟩] none [25, 37, 76])
  (.cond (.tmp 77)
  (.region [
  ⟨(some 2), .mov (.const (.int .i64 64)), none⟩] none [77])
  (.seq
  (.region [
  ⟨(some 78), .mov (.tmp 2), none⟩,
  ⟨(some 79), .bin .lss (.tmp 78) (.const (.int .i64 0)), none⟩,
  ⟨(some 80), .mov (.mv 79), none⟩,
  ⟨(some 81), .mov (.tmp 2), (some (80, false))⟩,
  ⟨(some 82), .bin .gtr (.tmp 81) (.const (.int .i64 64)), (some (80, false))⟩,
  ⟨(some 83), .pick (.tmp 80) (.const (.bool true)) (.tmp 82), none⟩] none [77, 78, 79, 80, 81, 82])
  (.cond (.tmp 83)
  (.seq
  (.region [
  ⟨(some 84), .mkIface 105 (.const (.int .i64 4)), none⟩,
  ⟨(some 6), .mov (.const (.int .u64 0)), none⟩,
  ⟨(some 7), .mov (.mv 84), none⟩] none [0, 1, 2, 8, 9, 83, 84])
  .ret)
  .skip))))
  (.seq
  (.region [
  ⟨(some 10), .mov (.const (.int .u64 0)), none⟩] none [10, 83])
  (.seq
  (.seq
  (.region [
  ⟨(some 85), .mov (.tmp 1), none⟩] none [])
  (.block 2
  (.seq
  (.region [
  ⟨(some 91), .bin .eql (.tmp 85) (.const (.int .i64 10)), none⟩,
  ⟨(some 90), .mov (.mv 91), none⟩] none [91])
  (.cond (.tmp 90)
  (.region [
  ⟨(some 10), .mov (.const (.int .u64 1844674407370955162)), none⟩] none [85, 90])
  (.seq
  (.region [
  ⟨(some 93), .bin .eql (.tmp 85) (.const (.int .i64 16)), none⟩,
  ⟨(some 92), .mov (.mv 93), none⟩] none [85, 90, 93])
  (.cond (.tmp 92)
  (.region [
  ⟨(some 10), .mov (.const (.int .u64 1152921504606846976)), none⟩] none [92])
  (.region [
  ⟨(some 86), .mov (.tmp 1), none⟩,
  ⟨(some 87), .toInt .u64 (.tmp 86), none⟩,
  ⟨(some 88), .bin .quo (.const (.int .u64 18446744073709551615)) (.tmp 87), none⟩,
  ⟨(some 89), .bin .add (.tmp 88) (.const (.int .u64 1)), none⟩,
  ⟨(some 10), .mov (.mv 89), none⟩] none [86, 87, 88, 89, 92])))))))
  (.seq
  (.region [
  ⟨(some 94), .mov (.tmp 2), none⟩,
  ⟨(some 95), .toInt .u64 (.tmp 94), none⟩,
  ⟨(some 96), .bin .shl (.const (.int .u64 1)) (.tmp 95), none⟩,
  ⟨(some 97), .bin .sub (.tmp 96) (.const (.int .u64 1)), none⟩,
  ⟨(some 11), .mov (.mv 97), none⟩] none [2, 94, 95, 96, 97])
  (.seq
  (.region [
  ⟨(some 12), .mov (.const (.bool false)), none⟩] none [])
  (.seq
  (.region [
  ⟨(some 13), .mov (.const (.int .u64 0)), none⟩] none [])
  (.seq
  (.seq
  (.region [
  ⟨(some 98), .mov (.tmp 0), none⟩,
  ⟨(some 99), .strToBytes ⟨5, 1⟩ (.tmp 98), none⟩,
  ⟨(some 100), .len (.tmp 99), none⟩,
  ⟨(some 101), .mov (.const (.int .i64 0)), none⟩] none [0, 98])
  (.block 3
  (.loop a90_l0)))
  (.seq
  (.seq
  (.region [
  ⟨(some 164), .mov (.tmp 12), none⟩,
  ⟨(some 165), .mov (.mv 164), none⟩,
  ⟨(some 166), .mov (.tmp 9), (some (165, true))⟩,
  ⟨(some 167), .call 95 [(.tmp 166)], (some (165, true))⟩,
  ⟨(some 168), .un .not (.tmp 167), (some (165, true))⟩,
  ⟨(some 169), .pick (.tmp 165) (.tmp 168) (.const (.bool false)), none⟩] none [1, 8, 9, 10, 11, 12, 99, 100, 101, 102, 164, 165, 166, 167, 168])
  (.cond (.tmp 169)
  (.seq
  (.region [
  ⟨(some 170), .mkIface 105 (.const (.int .i64 2)), none⟩,
  ⟨(some 6), .mov (.const (.int .u64 0)), none⟩,
  ⟨(some 7), .mov (.mv 170), none⟩] none [13, 169, 170])
  .ret)
  .skip))
  (.seq
  (.region [
  ⟨(some 171), .mov (.mv 13), none⟩,
  ⟨(some 6), .mov (.mv 171), none⟩,
  ⟨(some 7), .mov (.const (.niliface)), none⟩] none [13, 169, 171])
  .ret)))))))))))))) }

/-- internal/strconv.lower -/
def a94 : AFun :=
  { nargs := 1, ntmps := 5, res := [.tmp 2], gc := false, body :=
  (.seq
  (.region [
  ⟨(some 2), .mov (.const (.int .u8 0)), none⟩] none [2])
  (.seq
  (.region [
  ⟨(some 3), .mov (.mv 0), none⟩,
  ⟨(some 4), .bin .or (.tmp 3) (.const (.int .u8 32)), none⟩,
  ⟨(some 2), .mov (.mv 4), none⟩] none [0, 3, 4])
  .ret)) }

def a95_l0 : ACode :=
  (.seq
  (.seq
  (.region [
  ⟨(some 51), .mov (.tmp 4), none⟩,
  ⟨(some 52), .mov (.tmp 0), none⟩,
  ⟨(some 53), .lenS (.tmp 52), none⟩,
  ⟨(some 54), .bin .lss (.tmp 51) (.tmp 53), none⟩] none [46, 51, 52, 53])
  (.cond (.tmp 54)
  .skip
  (.exit 0)))
  (.seq
  (.block 1
  (.seq
  (.seq
  (.region [
  ⟨(some 57), .mov (.tmp 0), none⟩,
  ⟨(some 58), .mov (.tmp 4), none⟩,
  ⟨(some 59), .index (.tmp 57) (.tmp 58), none⟩,
  ⟨(some 60), .bin .leq (.const (.int .u8 48)) (.tmp 59), none⟩,
  ⟨(some 61), .mov (.mv 60), none⟩,
  ⟨(some 62), .mov (.tmp 0), (some (61, true))⟩,
  ⟨(some 63), .mov (.tmp 4), (some (61, true))⟩,
  ⟨(some 64), .index (.tmp 62) (.tmp 63), (some (61, true))⟩,
  ⟨(some 65), .bin .leq (.tmp 64) (.const (.int .u8 57)), (some (61, true))⟩,
  ⟨(some 66), .pick (.tmp 61) (.tmp 65) (.const (.bool false)), none⟩,
  ⟨(some 67), .mov (.mv 66), none⟩,
  ⟨(some 68), .mov (.tmp 5), (some (67, false))⟩,
  ⟨(some 69), .mov (.mv 68), (some (67, false))⟩,
  ⟨(some 70), .mov (.tmp 0), (some (69, true))⟩,
  ⟨(some 71), .mov (.tmp 4), (some (69, true))⟩,
  ⟨(some 72), .index (.tmp 70) (.tmp 71), (some (69, true))⟩,
  ⟨(some 73), .call 94 [(.tmp 72)], (some (69, true))⟩,
  ⟨(some 74), .bin .leq (.const (.int .u8 97)) (.tmp 73), (some (69, true))⟩,
  ⟨(some 75), .pick (.tmp 69) (.tmp 74) (.const (.bool false)), (some (67, false))⟩,
  ⟨(some 76), .mov (.mv 75), (some (67, false))⟩,
  ⟨(some 77), .mov (.tmp 0), (some (76, true))⟩,
  ⟨(some 78), .mov (.tmp 4), (some (76, true))⟩,
  ⟨(some 79), .index (.tmp 77) (.tmp 78), (some (76, true))⟩,
  ⟨(some 80), .call 94 [(.tmp 79)], (some (76, true))⟩,
  ⟨(some 81), .bin .leq (.tmp 80) (.const (.int .u8 102)), (some (76, true))⟩,
  ⟨(some 82), .pick (.tmp 76) (.tmp 81) (.const (.bool false)), (some (67, false))⟩,
  ⟨(some 83), .pick (.tmp 67) (.const (.bool true)) (.tmp 82), none⟩] none [54, 57, 58, 59, 60, 61, 62, 63, 64, 65, 66, 67, 68, 69, 70, 71, 72, 73, 74, 75, 76, 77, 78, 79, 80, 81, 82])
  (.cond (.tmp 83)
  (.seq
  (.region [
  ⟨(some 3), .mov (.const (.int .i32 48)), none⟩] none [83])
  (.exit 1))
  .skip))
  (.seq
  (.seq
  (.region [
  ⟨(some 84), .mov (.tmp 0), none⟩,
  ⟨(some 85), .mov (.tmp 4), none⟩,
  ⟨(some 86), .index (.tmp 84) (.tmp 85), none⟩,
  ⟨(some 87), .bin .eql (.tmp 86) (.const (.int .u8 95)), none⟩] none [83, 84, 85, 86])
  (.cond (.tmp 87)
  (.seq
  (.seq
  (.region [
  ⟨(some 88), .mov (.tmp 3), none⟩,
  ⟨(some 89), .bin .neq (.tmp 88) (.const (.int .i32 48)), none⟩] none [3, 87, 88])
  (.cond (.tmp 89)
  (.seq
  (.region [
  ⟨(some 2), .mov (.const (.bool false)), none⟩] none [0, 4, 5, 89])
  .ret)
  .skip))
  (.seq
  (.region [
  ⟨(some 3), .mov (.const (.int .i32 95)), none⟩] none [89])
  (.exit 1)))
  .skip))
  (.seq
  (.seq
  (.region [
  ⟨(some 90), .mov (.tmp 3), none⟩,
  ⟨(some 91), .bin .eql (.tmp 90) (.const (.int .i32 95)), none⟩] none [3, 87, 90])
  (.cond (.tmp 91)
  (.seq
  (.region [
  ⟨(some 2), .mov (.const (.bool false)), none⟩] none [0, 4, 5, 91])
  .ret)
  .skip))
  (.region [
  ⟨(some 3), .mov (.const (.int .i32 33)), none⟩] none [91])))))
  (.region [
  ⟨(some 55), .mov (.tmp 4), none⟩,
  ⟨(some 56), .bin .add (.tmp 55) (.const (.int .i64 1)), none⟩,
  ⟨(some 4), .mov (.mv 56), none⟩] none [55, 56])))
/-- internal/strconv.underscoreOK -/
def a95 : AFun :=
  { nargs := 1, ntmps := 94, res := [.tmp 2], gc := false, body :=
  (.seq
  (.region [
  ⟨(some 2), .mov (.const (.bool false)), none⟩] none [2])
  (.seq
  (.region [
  ⟨(some 3), .mov (.const (.int .i32 94)), none⟩] none [])
  (.seq
  (.region [
  ⟨(some 4), .mov (.const (.int .i64 0)), none⟩] none [])
  (.seq
  (.seq
  (.region [
  ⟨(some 6), .mov (.tmp 0), none⟩,
  ⟨(some 7), .lenS (.tmp 6), none⟩,
  ⟨(some 8), .bin .geq (.tmp 7) (.const (.int .i64 1)), none⟩,
  ⟨(some 9), .mov (.mv 8), none⟩,
  ⟨(some 10), .mov (.tmp 0), (some (9, true))⟩,
  ⟨(some 11), .index (.tmp 10) (.const (.int .i64 0)), (some (9, true))⟩,
  ⟨(some 12), .bin .eql (.tmp 11) (.const (.int .u8 45)), (some (9, true))⟩,
  ⟨(some 13), .mov (.mv 12), (some (9, true))⟩,
  ⟨(some 14), .mov (.tmp 0), (some (13, false))⟩,
  ⟨(some 15), .index (.tmp 14) (.const (.int .i64 0)), (some (13, false))⟩,
  ⟨(some 16), .bin .eql (.tmp 15) (.const (.int .u8 43)), (some (13, false))⟩,
  ⟨(some 17), .pick (.tmp 13) (.const (.bool true)) (.tmp 16), (some (9, true))⟩,
  ⟨(some 18), .pick (.tmp 9) (.tmp 17) (.const (.bool false)), none⟩] none [6, 7, 8, 9, 10, 11, 12, 13, 14, 15, 16, 17])
  (.cond (.tmp 18)
  (.region [
  ⟨(some 19), .mov (.tmp 0), none⟩,
  ⟨(some 20), .sliceS (.tmp 19) (some (.const (.int .i64 1))) none, none⟩,
  ⟨(some 0), .mov (.mv 20), none⟩] none [18, 19, 20])
  .skip))
  (.seq
  (.region [
  ⟨(some 5), .mov (.const (.bool false)), none⟩] none [18])
  (.seq
  (.seq
  (.region [
  ⟨(some 21), .mov (.tmp 0), none⟩,
  ⟨(some 22), .lenS (.tmp 21), none⟩,
  ⟨(some 23), .bin .geq (.tmp 22) (.const (.int .i64 2)), none⟩,
  ⟨(some 24), .mov (.mv 23), none⟩,
  ⟨(some 25), .mov (.tmp 0), (some (24, true))⟩,
  ⟨(some 26), .index (.tmp 25) (.const (.int .i64 0)), (some (24, true))⟩,
  ⟨(some 27), .bin .eql (.tmp 26) (.const (.int .u8 48)), (some (24, true))⟩,
  ⟨(some 28), .pick (.tmp 24) (.tmp 27) (.const (.bool false)), none⟩,
  ⟨(some 29), .mov (.mv 28), none⟩,
  ⟨(some 30), .mov (.tmp 0), (some (29, true))⟩,
  ⟨(some 31), .index (.tmp 30) (.const (.int .i64 1)), (some (29, true))⟩,
  ⟨(some 32), .call 94 [(.tmp 31)], (some (29, true))⟩,
  ⟨(some 33), .bin .eql (.tmp 32) (.const (.int .u8 98)), (some (29, true))⟩,
  ⟨(some 34), .mov (.mv 33), (some (29, true))⟩,
  ⟨(some 35), .mov (.tmp 0), (some (34, false))⟩,
  ⟨(some 36), .index (.tmp 35) (.const (.int .i64 1)), (some (34, false))⟩,
  ⟨(some 37), .call 94 [(.tmp 36)], (some (34, false))⟩,
  ⟨(some 38), .bin .eql (.tmp 37) (.const (.int .u8 111)), (some (34, false))⟩,
  ⟨(some 39), .pick (.tmp 34) (.const (.bool true)) (.tmp 38), (some (29, true))⟩,
  ⟨(some 40), .mov (.mv 39), (some (29, true))⟩,
  ⟨(some 41), .mov (.tmp 0), (some (40, false))⟩,
  ⟨(some 42), .index (.tmp 41) (.const (.int .i64 1)), (some (40, false))⟩,
  ⟨(some 43), .call 94 [(.tmp 42)], (some (40, false))⟩,
  ⟨(some 44), .bin .eql (.tmp 43) (.const (.int .u8 120)), (some (40, false))⟩,
  ⟨(some 45), .pick (.tmp 40) (.const (.bool true)) (.tmp 44), (some (29, true))⟩,
  ⟨(some 46), .pick (.tmp 29) (.tmp 45) (.const (.bool false)), none⟩] none [21, 22, 23, 24, 25, 26, 27, 28, 29, 30, 31, 32, 33, 34, 35, 36, 37, 38, 39, 40, 41, 42, 43, 44, 45])
  (.cond (.tmp 46)
  (.seq
  (.region [
  ⟨(some 4), .mov (.const (.int .i64 2)), none⟩] none [3, 5, 46])
  (.seq
  (.region [
  ⟨(some 3), .mov (.const (.int .i32 48)), none⟩] none [])
  (.region [
  ⟨(some 47), .mov (.tmp 0), none⟩,
  ⟨(some 48), .index (.tmp 47) (.const (.int .i64 1)), none⟩,
  ⟨(some 49), .call 94 [(.tmp 48)], none⟩,
  ⟨(some 50), .bin .eql (.tmp 49) (.const (.int .u8 120)), none⟩,
  ⟨(some 5), .mov (.mv 50), none⟩] none [47, 48, 49, 50])))
  .skip))
  (.seq
  (.block 0
  (.loop a95_l0))
  (.seq
  (.region [
  ⟨(some 92), .mov (.mv 3), none⟩,
  ⟨(some 93), .bin .neq (.tmp 92) (.const (.int .i32 95)), none⟩,
  ⟨(some 2), .mov (.mv 93), none⟩] none [0, 3, 4, 5, 46, 54, 92, 93])
  .ret)))))))) }

/-- fugue/show.Read$1, behind recover -/
def r34 : ACode :=
  (.seq
  (.region [
  ⟨(some 4), .mov (.tmp 2), none⟩] none [])
  (.block 0
  (.seq
  (.region [
  ⟨(some 6), .isNil .eql (.tmp 4), none⟩] none [])
  (.cond (.tmp 6)
  .skip
  (.seq
  (.region [
  ⟨(some 7), .assertT 58 (.agg []) (.tmp 4), none⟩,
  ⟨(some 8), .extract (.tmp 7) 1, none⟩,
  ⟨(some 9), .extract (.tmp 7) 0, none⟩] none [4, 6, 7, 9])
  (.cond (.tmp 8)
  (.region [
  ⟨(some 10), .build [.int .i64 0, .int .i64 0, .str [], .nils] [], none⟩,
  ⟨none, .store 4 (.tmp 0) (.mv 10), none⟩,
  ⟨none, .store 1 (.tmp 1) (.const (.int .i64 12)), none⟩] none [0, 1, 2, 8, 10])
  (.region [
  ⟨(some 5), .mov (.tmp 2), none⟩,
  ⟨none, .panic (.tmp 5), none⟩] none [0, 1, 2, 5, 8])))))))

end Go.Proofs.YtdoppkjoemlhjaaDoor.Sh

