/-
  What the rows of this seat share: the laid table, a world that fits, the shell of a law's proof.
-/
import Derived.Test.YtdoppkjoemlhjaaDoorCards
import Derived.Test.YtdoppkjoemlhjaaDoorTie
import Derived.WalkKit
import Derived.ProofKit
import Derived.Test.YtdoppkjoemlhjaaDoorMxRow
import Derived.Test.YtdoppkjoemlhjaaDoorShLaws
set_option linter.unusedSimpArgs false
set_option linter.unusedVariables false
namespace Go.Proofs.YtdoppkjoemlhjaaDoor.Sh
open Go Go.Mx Go.ChangeShapes Go.WideShapes Go.ChangeAt Go.RowKit
theorem own : ownKnob Tryd.prog.godebug = none := by kernel_rfl
theorem laidOut : laidOutB Tryd.prog = true := by kernel_rfl
theorem gTabType : (Tryd.prog.globals[0]?).map (·.type) = some 94 := by kernel_rfl
theorem cells94 : Tryd.prog.cellsOf 94 = 20 := by kernel_rfl
theorem cells83 : Tryd.prog.cellsOf 83 = 1 := by kernel_rfl
theorem cells3 : Tryd.prog.cellsOf 3 = 1 := by kernel_rfl
def laidList : List (String × DataW Unit) := [("math/bits.deBruijn32tab", Rows.laid_math_bits_deBruijn32tab), ("math/bits.deBruijn64tab", Rows.laid_math_bits_deBruijn64tab), ("internal/strconv.uint64pow10", Rows.laid_internal_strconv_uint64pow10), ("strconv.ErrRange", Rows.laid_strconv_ErrRange), ("strconv.ErrSyntax", Rows.laid_strconv_ErrSyntax)]
theorem table {W : World} (h : laidMetH Tryd.prog laidList W) : Lib.TabIs Tryd.prog W "internal/strconv.uint64pow10" .u64 Lib.pow10Tab := by
  have h0 : laidMet Tryd.prog laidList W := h
  unfold laidList at h0
  have h2 := h0.tail.tail
  exact Lib.tabIs_of_head gTab gTabType Tryd.underlying94 Tryd.underlying83 cells83 cells94 h2
theorem κ_n {W : World} (h : laidMetH Tryd.prog laidList W) : κ.n ≤ W.heap.size := by
  have ht := (table h).cell gTab 0 (by decide)
  exact World.block_lt_of_cell? _ _ ht
theorem κ_K {W : World} (h : laidMetH Tryd.prog laidList W) : κ.K W := table h
theorem listD_of {d : D} {xs : List Int} (h : IntRow kI d xs) : ListD d xs := h
theorem readable {fn : Func} (h : (fn.params.toList.all fun t => Tryd.prog.readableRec t && decide (t < Tryd.prog.types.size)) = true) : ∀ t ∈ fn.params.toList, Tryd.prog.readableRec t = true ∧ t < Tryd.prog.types.size := fun t ht => by
  have := List.all_eq_true.1 h t ht
  simpa using this
abbrev textR : ByteArray := { data := #[118, 97, 108, 117, 101, 32, 111, 117, 116, 32, 111, 102, 32, 114, 97, 110, 103, 101] }
abbrev textS : ByteArray := { data := #[105, 110, 118, 97, 108, 105, 100, 32, 115, 121, 110, 116, 97, 120] }
def tab8 (zs : List Int) : Array Value := (zs.map fun z => Value.int .u8 z).toArray
def zs32 : List Int := [0, 1, 28, 2, 29, 14, 24, 3, 30, 22, 20, 15, 25, 17, 4, 8, 31, 27, 13, 23, 21, 19, 16, 7, 26, 12, 18, 6, 11, 5, 10, 9]
def zs64 : List Int := [0, 1, 56, 2, 57, 49, 28, 3, 61, 58, 42, 50, 38, 29, 17, 4, 62, 47, 59, 36, 45, 43, 51, 22, 53, 39, 33, 30, 24, 18, 12, 5, 63, 55, 48, 27, 60, 41, 37, 16, 46, 35, 44, 21, 52, 32, 23, 11, 54, 26, 40, 15, 34, 20, 31, 10, 25, 14, 19, 9, 13, 8, 7, 6]
def put (h : Array Obj) (g : Nat) (cs : Array Value) : Array Obj := h.modify g fun
  | .cells _ t frozen => .cells cs t frozen
  | o => o
noncomputable def low : Nat := (World.holding Tryd.prog default ⟨#[], #[], []⟩).heap.size
noncomputable def laidWorld (os : Os) : World :=
  let w0 := World.holding Tryd.prog os ⟨#[.cells #[.string textR] 126, .cells #[.string textS] 126], #[], []⟩
  let h1 := put w0.heap 0 (Lib.pow10Tab.map fun z => Value.int .u64 z).toArray
  let h2 := put h1 3 (tab8 zs32)
  let h3 := put h2 4 (tab8 zs64)
  let h4 := put h3 2 #[.iface 124 (.pointer (some ⟨low, 0, none⟩))]
  let h5 := put h4 1 #[.iface 124 (.pointer (some ⟨low + 1, 0, none⟩))]
  { w0 with heap := h5 }
set_option maxRecDepth 100000
theorem laid_met (os : Os) (args : Array Value) : laidMet Tryd.prog laidList ((laidWorld os).forCall (fun _ _ => 0) ⟨#[], args, []⟩).memory :=
  laidMet_of_run3 8 (by kernel_rfl) (by kernel_rfl) (by kernel_rfl)
end Go.Proofs.YtdoppkjoemlhjaaDoor.Sh

