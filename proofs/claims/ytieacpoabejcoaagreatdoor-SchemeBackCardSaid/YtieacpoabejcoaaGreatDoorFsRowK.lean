/-
  What the rows of this seat share: the laid table, a world that fits, the shell of a law's proof.
-/
import Derived.Test.YtieacpoabejcoaaGreatDoorCards
import Derived.Test.YtieacpoabejcoaaGreatDoorTie
import Derived.WalkKit
import Derived.ProofKit
import Derived.Test.YtieacpoabejcoaaGreatDoorFsIds
import Derived.Test.YtieacpoabejcoaaGreatDoorFsT
set_option maxHeartbeats 4000000
set_option linter.unusedSimpArgs false
set_option linter.unusedVariables false
set_option linter.unusedSectionVars false
namespace Go.Fu
open Go Go.Mx Go.ChangeShapes Go.WideShapes Go.ChangeAt Go.RowKit Go.Proofs Go.Proofs.YtieacpoabejcoaaGreatDoor
theorem own : ownKnob Go.Proofs.Tryz.prog.godebug = none := by kernel_rfl
theorem zneb : laidOutB Go.Proofs.Tryz.prog = true := by kernel_rfl
theorem zi5b : (Go.Proofs.Tryz.prog.globals[0]?).map (·.type) = some 244 := by kernel_rfl
theorem zitb : Go.Proofs.Tryz.prog.cellsOf 244 = 20 := by kernel_rfl
theorem zo1b : Go.Proofs.Tryz.prog.cellsOf 216 = 1 := by kernel_rfl
theorem zfgb : Go.Proofs.Tryz.prog.cellsOf 3 = 1 := by kernel_rfl
def zg6 : List (String × DataW Unit) := [("math/bits.deBruijn32tab", Rows.laid_math_bits_deBruijn32tab), ("math/bits.deBruijn64tab", Rows.laid_math_bits_deBruijn64tab), ("internal/strconv.uint64pow10", Rows.laid_internal_strconv_uint64pow10)]
theorem κ_K {W : World} (h : laidMetH Go.Proofs.Tryz.prog zg6 W) : κ.K W := by
  have h0 : laidMet Go.Proofs.Tryz.prog zg6 W := h
  unfold zg6 at h0
  have h2 := h0.tail.tail
  exact Lib.tabIs_of_head gTab zi5b Go.Proofs.Tryz.underlying244 Go.Proofs.Tryz.underlying216 zo1b zitb h2
theorem κ_n {W : World} (h : laidMetH Go.Proofs.Tryz.prog zg6 W) : κ.n ≤ W.heap.size := by
  have hk := κ_K h
  have hk' : Lib.TabIs Go.Proofs.Tryz.prog W "internal/strconv.uint64pow10" .u64 Lib.pow10Tab := hk
  unfold Lib.TabIs World.var? at hk'
  rw [gTab] at hk'
  simp only [Option.bind_some] at hk'
  by_cases hlt : 0 < W.heap.size
  · exact hlt
  · rw [Array.getElem?_eq_none (by omega)] at hk'
    cases hk'
theorem zleb {fn : Func} (h : (fn.params.toList.all fun t => Go.Proofs.Tryz.prog.readableRec t && decide (t < Go.Proofs.Tryz.prog.types.size)) = true) : ∀ t ∈ fn.params.toList, Go.Proofs.Tryz.prog.readableRec t = true ∧ t < Go.Proofs.Tryz.prog.types.size := fun t ht => by
  have := List.all_eq_true.1 h t ht
  simpa using this
def tab8 (zs : List Int) : Array Value := (zs.map fun z => Value.int .u8 z).toArray
def zs32 : List Int := [0, 1, 28, 2, 29, 14, 24, 3, 30, 22, 20, 15, 25, 17, 4, 8, 31, 27, 13, 23, 21, 19, 16, 7, 26, 12, 18, 6, 11, 5, 10, 9]
def zs64 : List Int := [0, 1, 56, 2, 57, 49, 28, 3, 61, 58, 42, 50, 38, 29, 17, 4, 62, 47, 59, 36, 45, 43, 51, 22, 53, 39, 33, 30, 24, 18, 12, 5, 63, 55, 48, 27, 60, 41, 37, 16, 46, 35, 44, 21, 52, 32, 23, 11, 54, 26, 40, 15, 34, 20, 31, 10, 25, 14, 19, 9, 13, 8, 7, 6]
def putB (h : Array Obj) (g : Nat) (cs : Array Value) : Array Obj := h.modify g fun
  | .cells _ t frozen => .cells cs t frozen
  | o => o
noncomputable def laidWorld (os : Os) : World :=
  let w0 := World.holding Go.Proofs.Tryz.prog os ⟨#[], #[], []⟩
  let h1 := putB w0.heap 0 (Lib.pow10Tab.map fun z => Value.int .u64 z).toArray
  let h2 := putB h1 2 (tab8 zs32)
  let h3 := putB h2 3 (tab8 zs64)
  { w0 with heap := h3 }
set_option maxRecDepth 100000
theorem laid_met (os : Os) (args : Array Value) : laidMet Go.Proofs.Tryz.prog zg6 ((laidWorld os).forCall (fun _ _ => 0) ⟨#[], args, []⟩).memory :=
  laidMet_of_run3 8 (by kernel_rfl) (by kernel_rfl) (by kernel_rfl)
end Go.Fu
