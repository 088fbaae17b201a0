/-
  A fresh builder's Grow, walked: a new row of bytes is its buffer, none of them its own yet.
-/
import Derived.Test.YtkgdpcnobfadaaaDoorFqString
import Derived.Test.YtkgdpcnobfadaaaDoorMzSteps
import Derived.Lib.Builder
import Derived.Lib.MakeNoZero
import Derived.Laws.Externs
import Derived.Laws.IdiomCopy
import Derived.Shelf.Strings.Builder2
set_option linter.unusedSimpArgs false
set_option linter.unusedVariables false
namespace Go.Fu
open Go Go.RowKit
/-- What is left by growing. -/
def Grown (b : Nat) (rest : List Value) (w w' : World) : Prop := w'.os = w.os ∧ w'.tape = w.tape ∧ w'.output = w.output ∧ w.heap.size < w'.heap.size ∧ (∀ i, i < w.heap.size → i ≠ b → w'.heap[i]? = w.heap[i]?) ∧
  ∃ cs : Array Value, cs.size ≤ maxLen ∧ w'.heap[w.heap.size]? = some (.cells cs 5 (0, 0)) ∧ w'.heap[b]? = some (.cells ⟨.pointer (some ⟨b, 0, none⟩) :: .slice (some ⟨w.heap.size, 0, none⟩) 0 cs.size :: rest⟩ t_strings_Builder (0, 0))
theorem grown_of {b : Nat} {rest : List Value} {cs : Array Value} {w w' : World} (hw' : w' = ((w.setCell ⟨b, 1, none⟩ (.slice (some ⟨w.heap.size, 0, none⟩) 0 cs.size)).alloc (.cells cs 5)).drew.drew.drew) (hm : cs.size ≤ maxLen) (hbk : w.heap[b]? = some (.cells ⟨.pointer (some ⟨b, 0, none⟩) :: .slice none 0 0 :: rest⟩ t_strings_Builder (0, 0))) :
    Grown b rest w w' := by
  have hlt : b < w.heap.size := (Array.getElem?_eq_some_iff.1 hbk).1
  have hs : (w.setCell ⟨b, 1, none⟩ (.slice (some ⟨w.heap.size, 0, none⟩) 0 cs.size)).heap.size = w.heap.size := by simp [World.setCell]
  have hh : w'.heap = (w.setCell ⟨b, 1, none⟩ (.slice (some ⟨w.heap.size, 0, none⟩) 0 cs.size)).heap.push (.cells cs 5) := by rw [hw']; rfl
  refine ⟨by rw [hw']; rfl, by rw [hw']; rfl, by rw [hw']; rfl, by rw [hh, Array.size_push, hs]; omega, fun i hi hne => ?_, cs, hm, ?_, ?_⟩
  · rw [hh, Array.getElem?_push, if_neg (by omega)]
    exact RowKit.Below.heap_setCell w ⟨b, 1, none⟩ _ i hne
  · rw [hh, Array.getElem?_push, if_pos hs.symm]
  · rw [hh, Array.getElem?_push, if_neg (by omega)]
    simp [World.setCell, Array.getElem?_modify, hbk]
set_option maxHeartbeats 2000000 in
set_option maxRecDepth 1000000 in
theorem grow_walk (b n : Nat) (rest : List Value) (w : World) (hbk : w.heap[b]? = some (.cells ⟨.pointer (some ⟨b, 0, none⟩) :: .slice none 0 0 :: rest⟩ t_strings_Builder (0, 0))) (hn : n ≤ 1099511627776) :
    Calls Go.Proofs.Tryd.prog 84 #[.pointer (some ⟨b, 0, none⟩), .int .i64 n] w fun e w' => e = .returned (.tuple #[]) ∧ Grown b rest w w' := by
  obtain ⟨cs, hrun, hle, hmax⟩ := Lib.run_makeNoZero (P := Go.Proofs.Tryd.prog) w.drew #[3] 70 5 Go.Proofs.Tryd.underlying70 n (by omega)
  have hw : IntKind.i64.wrap (IntKind.i64.wrap 0 + (n : Int)) = n := by
    rw [IntKind.wrap_i64, IntKind.wrap_i64]
    omega
  have hcall : (callFunc 95 #[.int .i64 (IntKind.i64.wrap (IntKind.i64.wrap 0 + (n : Int)))]).run Go.Proofs.Tryd.prog w.drew = .ok (.value (.slice (some ⟨w.drew.heap.size, 0, none⟩) n cs.size)) (w.drew.drew.drew.alloc (.cells cs 5)) := by
    rw [hw, run_callFunc_extern Go.Proofs.Tryd.func95 (by kernel_rfl) (by kernel_rfl) (by kernel_rfl) (e := Extern.BytealgMakeNoZero.makeNoZero #[3] #[70]) (by kernel_rfl), hrun]
    rfl
  have hlt : b < w.heap.size := (Array.getElem?_eq_some_iff.1 hbk).1
  have c1 : w.drew.cell? ⟨b, 1, none⟩ = some (.slice none 0 0) := by
    have : w.drew.heap[b]? = _ := hbk
    rw [Lib.cell_of_heap this]; rfl
  have c2 : (w.alloc (.cells cs 5)).cell? ⟨b, 1, none⟩ = some (.slice none 0 0) := by
    have : (w.alloc (.cells cs 5)).heap[b]? = _ := (Lib.alloc_old w _ b hlt).trans hbk
    rw [Lib.cell_of_heap this]; rfl
  have f2 : (w.alloc (.cells cs 5)).frozen? ⟨b, 1, none⟩ = false := Lib.frozen_of_heap ((Lib.alloc_old w _ b hlt).trans hbk) 1
  have hcopy : ∀ W : World, (Builtin.copy_ #[70, 70] 3 #[.slice (some ⟨w.heap.size, 0, none⟩) 0 cs.size, .slice none 0 0]).run Go.Proofs.Tryd.prog W = .ok (goInt 0) W :=
    fun W => run_copy_none W 70 70 3 5 _ _ 0 cs.size 0 0 Go.Proofs.Tryd.underlying70 (by kernel_rfl) rfl
  clear hw
  have mixed : Go.Proofs.Tryd.prog.follows .mixedOrders = true := by kernel_rfl
  have hmx : cs.size ≤ maxLen := hmax (by unfold maxLen; omega)
  go_enter Go.Proofs.Tryd.func84, Go.Proofs.Tryd.ntmps84
  go_wp2
  go_region_o
  all_goals (go_wp2; go_end0; exact ⟨rfl, grown_of rfl hmx hbk⟩)
end Go.Fu

/-
  A fresh builder's Grow, walked: the whole method.
-/
namespace Go.Fu
open Go Go.RowKit Go.Proofs
set_option maxHeartbeats 2000000 in
set_option maxRecDepth 1000000 in
theorem Grow_walk (b n : Nat) (rest : List Value) (w : World) (hbk : w.heap[b]? = some (.cells ⟨.pointer none :: .slice none 0 0 :: rest⟩ t_strings_Builder (0, 0))) (h0 : 0 < n) (hn : n ≤ 1099511627776) :
    Calls Go.Proofs.Tryd.prog 66 #[.pointer (some ⟨b, 0, none⟩), .int .i64 n] w fun e w' => e = .returned (.tuple #[]) ∧ Grown b rest (w.setCell ⟨b, 0, none⟩ (.pointer (some ⟨b, 0, none⟩))).drew w' := by
  have hbk1 : (w.setCell ⟨b, 0, none⟩ (.pointer (some ⟨b, 0, none⟩))).heap[b]? = some (.cells ⟨.pointer (some ⟨b, 0, none⟩) :: .slice none 0 0 :: rest⟩ t_strings_Builder (0, 0)) := by
    simp [World.setCell, Array.getElem?_modify, hbk]
  have c1 : (w.setCell ⟨b, 0, none⟩ (.pointer (some ⟨b, 0, none⟩))).cell? ⟨b, 1, none⟩ = some (.slice none 0 0) := by rw [Lib.cell_of_heap hbk1]; rfl
  have mixed : Go.Proofs.Tryd.prog.follows .mixedOrders = true := by kernel_rfl
  have e240 : ∀ args w, (callFunc 83 args).run Go.Proofs.Tryd.prog w = .ok (.enter 83 args) w := enters_of Go.Proofs.Tryd.func83 (by kernel_rfl) rfl
  have e241 : ∀ args w, (callFunc 84 args).run Go.Proofs.Tryd.prog w = .ok (.enter 84 args) w := enters_of Go.Proofs.Tryd.func84 (by kernel_rfl) rfl
  go_enter Go.Proofs.Tryd.func66, Go.Proofs.Tryd.ntmps66
  have c1' : (w.setCell ⟨b, 0, none⟩ (.pointer (some ⟨b, 0, none⟩))).drew.cell? ⟨b, 1, none⟩ = some (.slice none 0 0) := c1
  have f1 : ¬ ((n : Int) < 0) := by omega
  have f2 : (0 : Int) < (n : Int) := by omega
  go_wp2_with (go_at_fn 83; refine (copy_fresh b w (by rw [Lib.cell_of_heap hbk]; rfl) (n := rest.length + 2) (by omega) (by simp [World.shape?, hbk]) (Lib.frozen_of_heap hbk 0)).mono ?_; rintro e w' ⟨rfl, rfl⟩)
  go_region_o
  all_goals go_wp2_with (go_at_fn 84; refine (grow_walk b n rest (w.setCell ⟨b, 0, none⟩ (.pointer (some ⟨b, 0, none⟩))).drew hbk1 hn).mono ?_; rintro e w' ⟨rfl, h1⟩)
  all_goals first
    | (go_end0; exact ⟨rfl, h1⟩)
    | (exfalso; omega)
    | (go_end0; exfalso; simp_all; omega)
end Go.Fu

