/-
  DERIVED. GIVEN WITH THE SEED: THE CARDS: each row of YtjldgfgjbdogoaaGreatDoorRows.lean that lists a variable, with what it lists TIED to the program's text (the seventh form; the later family's looks); each row that meets fmt, with fmt's text TOLD by the authors' own Lean function (tested against real Go, not proved from fmt's source: count such statements apart). THE CARD IS WHAT COUNTS. Prove the row's statement (the work); the ties are given (YtjldgfgjbdogoaaGreatDoorTie.lean); close each card by the builder's one call (the guide's Derived/Test/ToyasCard.lean, 'card_holds'). Laid BY PROGRAM, IN A SANDBOX (cutbox-door.mjs). By AI agents, Wed Nov 11 2026. No macro, syntax, notation, axiom, sorry.
-/
import Derived.Test.YtjldgfgjbdogoaaGreatDoorRows
import GoSem.ClaimSeven
namespace Go.Proofs.YtjldgfgjbdogoaaGreatDoor
namespace Rows

/-- THE TIED CARD OF 'fuguelaw10.KindofPrelude'. -/
def kindofPreludeCard : Claim7 := { stood := { row := kindofPreludeRow, standIns := [], harness := (true, "d859a66fa9e666ba7fa2a6a31ffcd8ac4de28dbe43da31f7f29165152443c4df"), looks := true }, kinds := [], alts := [], laidByText := true, laidKinds := [.data, .data, .data], laidTests := true, laidLooks := .later }
def KindofPreludeCardSaid : Prop := Claim7.holds Tryz.pinned (.plain (OpenSpec.ofChange kindofPreludeSpec)) kindofPreludeCard

/-- THE SECOND FORM's CARD OF 'fuguelaw10.KindofPrelude'. -/
def kindofPreludeUptoCard : Claim7 := { stood := { row := kindofPreludeUptoRow, standIns := [], harness := (true, "d859a66fa9e666ba7fa2a6a31ffcd8ac4de28dbe43da31f7f29165152443c4df"), looks := true }, kinds := [], alts := [], laidByText := true, laidKinds := [.data, .data, .data], laidTests := true, laidLooks := .later }
def KindofPreludeUptoCardSaid : Prop := Claim7.holds Tryz.pinned (.plain (OpenSpec.upto kindofPreludeSpec)) kindofPreludeUptoCard
end Rows
end Go.Proofs.YtjldgfgjbdogoaaGreatDoor
