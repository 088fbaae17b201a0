/-
  A builder's own check, walked: a fresh one lays its own place, a used one stays.
-/
import Derived.Test.YtkgdpcnobfadaaaDoorFqCode2
import Derived.Test.YtkgdpcnobfadaaaDoorProg
import Derived.WalkKit
import Derived.Lib.Builder
import Derived.Laws.Externs
import Derived.Lib.MakeNoZero
import Derived.Laws.IdiomCopy
import Derived.Shelf.Strings.Builder1
set_option linter.unusedSimpArgs false
set_option linter.unusedVariables false
namespace Go.Fu
open Go Go.RowKit
theorem lies_self {P : Program} {T : TypeId} {n : Nat} (hd : (P.depth == 0) = false) (hc : P.cellsOf T = 2) (hs : sameLayout P P.depth T T = true) (hn : 2 ≤ n) : liesAt P P.depth T (n / P.cellsOf T) 0 T 1 = true := by
  have h0 : P.depth ≠ 0 := by simpa using hd
  obtain ⟨d, hd⟩ : ∃ d, P.depth = d + 1 := ⟨P.depth - 1, by omega⟩
  have hk : 1 ≤ n / 2 := by omega
  rw [hd] at hs ⊢
  unfold liesAt
  rw [hd]
  unfold rowAt
  simp only [hc, hs, Nat.zero_div, Nat.zero_mod]
  simp [hk]
set_option maxHeartbeats 1000000 in
set_option maxRecDepth 100000 in
theorem copy_used (b : Nat) (w : World) (h0 : w.cell? ⟨b, 0, none⟩ = some (.pointer (some ⟨b, 0, none⟩))) :
    Calls Go.Proofs.Tryd.prog n_strings_Builder_copyCheck #[.pointer (some ⟨b, 0, none⟩)] w fun e w' => e = .returned (.tuple #[]) ∧ w' = w := by
  obtain ⟨j, hj, _⟩ := Option.map_eq_some_iff.1 (show (Go.Proofs.Tryd.prog.info? t_strings_Builder).map (·.size) = some 2 by kernel_rfl)
  go_enter Go.Proofs.Tryd.func83, Go.Proofs.Tryd.ntmps83
  go_wp2
  rw [Lib.run_neq_ptr_same w _ Go.Proofs.Tryd.underlying92 hj]
  go_wp2
  go_end0
  exact ⟨rfl, rfl⟩
set_option maxHeartbeats 1000000 in
set_option maxRecDepth 100000 in
theorem copy_fresh (b : Nat) (w : World) (h0 : w.cell? ⟨b, 0, none⟩ = some (.pointer none)) {n : Nat} (hn : 2 ≤ n) (hsh : w.shape? b = some (t_strings_Builder, n)) (hfz : w.frozen? ⟨b, 0, none⟩ = false) :
    Calls Go.Proofs.Tryd.prog n_strings_Builder_copyCheck #[.pointer (some ⟨b, 0, none⟩)] w fun e w' => e = .returned (.tuple #[]) ∧ w' = w.setCell ⟨b, 0, none⟩ (.pointer (some ⟨b, 0, none⟩)) := by
  obtain ⟨j, hj, hjs⟩ := Option.map_eq_some_iff.1 (show (Go.Proofs.Tryd.prog.info? t_strings_Builder).map (·.size) = some 2 by kernel_rfl)
  go_enter Go.Proofs.Tryd.func83, Go.Proofs.Tryd.ntmps83
  go_wp2
  rw [Lib.run_to_unsafe w ⟨b, 0, none⟩ Go.Proofs.Tryd.underlying92 Go.Proofs.Tryd.underlying127 hj (by rw [hjs]; decide) hsh (by show 0 < n; omega)]
  simp only [Result.andThen]
  rw [Oper.upon_value]
  go_wp2
  rw [run_callFunc_extern Go.Proofs.Tryd.func94 (by kernel_rfl) (by kernel_rfl) (by kernel_rfl) (e := Extern.AbiNoEscape.same) (by kernel_rfl)]
  rw [Lib.run_noEscape]
  simp only [Result.andThen]
  rw [Oper.upon_value]
  go_wp2
  rw [Lib.run_from_unsafe w ⟨b, 0, none⟩ Go.Proofs.Tryd.underlying127 Go.Proofs.Tryd.underlying92 hj hsh (lies_self (by kernel_rfl) (by kernel_rfl) (by kernel_rfl) hn)]
  simp only [Result.andThen]
  rw [Oper.upon_value]
  go_wp2
  go_end0
  exact ⟨rfl, rfl⟩
end Go.Fu

/-
  A builder's String, walked: the bytes that it holds; they are frozen in its buffer.
-/
namespace Go.Fu
open Go Go.RowKit
set_option maxHeartbeats 2000000 in
set_option maxRecDepth 100000 in
theorem string_walk (b g cap : Nat) (p : Value) (rest : List Value) (cur : Array Value) (l : List UInt8) (w : World) (h0 : l ≠ []) (hbk : w.heap[b]? = some (.cells ⟨p :: .slice (some ⟨g, 0, none⟩) l.length cap :: rest⟩ t_strings_Builder (0, 0))) (hg : w.heap[g]? = some (.cells cur 5 (0, 0)))
    (hnc : l.length ≤ cap) (hcm : cap ≤ maxLen) (hcs : cur.size = cap * 1) (hcells : ∀ (j : Nat) (x : UInt8), l[j]? = some x → w.cell? ⟨g, j, none⟩ = some (.int .u8 x.toNat)) :
    Calls Go.Proofs.Tryd.prog n_strings_Builder_String #[.pointer (some ⟨b, 0, none⟩)] w fun e w' => e = .returned (.string ⟨l.toArray⟩) ∧ w' = w.drew.freeze ⟨g, 0, none⟩ l.length := by
  have hl0 : l.length ≠ 0 := by simpa using h0
  have c1 : w.drew.cell? ⟨b, 1, none⟩ = some (.slice (some ⟨g, 0, none⟩) l.length cap) := by
    have : w.drew.heap[b]? = some (.cells ⟨p :: .slice (some ⟨g, 0, none⟩) l.length cap :: rest⟩ t_strings_Builder (0, 0)) := hbk
    rw [Lib.cell_of_heap this]; rfl
  have hSD : (Builtin.unsafeSliceData_ #[70] 116 #[.slice (some ⟨g, 0, none⟩) l.length cap]).run Go.Proofs.Tryd.prog w.drew = .ok (.pointer (some ⟨g, 0, none⟩)) w.drew :=
    Lib.run_unsafeSliceData_row _ _ _ _ _ _ (by omega)
  have hUS : (Builtin.unsafeString_ #[116, 3] 9 #[.pointer (some ⟨g, 0, none⟩), .int .i64 l.length]).run Go.Proofs.Tryd.prog w.drew = .ok (.string ⟨l.toArray⟩) (w.drew.freeze ⟨g, 0, none⟩ l.length) := by
    refine Lib.run_unsafeString_row w.drew 116 3 9 5 Go.Proofs.Tryd.underlying116 (by kernel_rfl) g cur.size (by have hg' : w.drew.heap[g]? = some (.cells cur 5 (0, 0)) := hg; simp [World.shape?, hg']) l h0 (by omega) (by unfold maxLen at hcm; omega) ?_
    intro j x hx
    have := hcells j x hx
    simpa [Addr.add_lit] using this
  clear hcells
  go_enter Go.Proofs.Tryd.func68, Go.Proofs.Tryd.ntmps68
  go_wp2
  go_region
  all_goals (go_wp2; go_ret; exact ⟨rfl, rfl⟩)
end Go.Fu

