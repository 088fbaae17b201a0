/-
  DERIVED. GIVEN WITH THE SEED: THE CARDS: each row of YtmhedpkbfaginaaGreatDoorRows.lean that lists a variable, with what it lists TIED to the program's text (the seventh form; the later family's looks); each row that meets fmt, with fmt's text TOLD by the authors' own Lean function (tested against real Go, not proved from fmt's source: count such statements apart). THE CARD IS WHAT COUNTS. Prove the row's statement (the work); the ties are given (YtmhedpkbfaginaaGreatDoorTie.lean); close each card by the builder's one call (the guide's Derived/Test/ToyasCard.lean, 'card_holds'). Laid BY PROGRAM, IN A SANDBOX (cutbox-door.mjs). By AI agents, Wed Nov 11 2026. No macro, syntax, notation, axiom, sorry.
-/
import Derived.Test.YtmhedpkbfaginaaGreatDoorRows
import GoSem.ClaimSeven
namespace Go.Proofs.YtmhedpkbfaginaaGreatDoor
namespace Rows

/-- THE TIED CARD OF 'fuguelaw14.PatsUnknown'. -/
def patsUnknownCard : Claim7 := { stood := { row := patsUnknownRow, standIns := [], harness := (true, "58b0ee3625a60a6fd59fc03b327f66774a5582d7277a5e569a2fcce6b0cb4919"), looks := true }, kinds := [], alts := [], laidByText := true, laidKinds := [.data, .data, .data], laidTests := true, laidLooks := .later }
def PatsUnknownCardSaid : Prop := Claim7.holds Tryz.pinned (.plain (OpenSpec.ofChange patsUnknownSpec)) patsUnknownCard

/-- THE TIED CARD OF 'fuguelaw14.PatsTwice'. -/
def patsTwiceCard : Claim7 := { stood := { row := patsTwiceRow, standIns := [], harness := (true, "58b0ee3625a60a6fd59fc03b327f66774a5582d7277a5e569a2fcce6b0cb4919"), looks := true }, kinds := [], alts := [], laidByText := true, laidKinds := [.data, .data, .data], laidTests := true, laidLooks := .later }
def PatsTwiceCardSaid : Prop := Claim7.holds Tryz.pinned (.plain (OpenSpec.ofChange patsTwiceSpec)) patsTwiceCard

/-- THE TIED CARD OF 'fuguelaw14.PatsOrder'. -/
def patsOrderCard : Claim7 := { stood := { row := patsOrderRow, standIns := [], harness := (true, "58b0ee3625a60a6fd59fc03b327f66774a5582d7277a5e569a2fcce6b0cb4919"), looks := true }, kinds := [], alts := [], laidByText := true, laidKinds := [.data, .data, .data], laidTests := true, laidLooks := .later }
def PatsOrderCardSaid : Prop := Claim7.holds Tryz.pinned (.plain (OpenSpec.ofChange patsOrderSpec)) patsOrderCard

/-- THE TIED CARD OF 'fuguelaw14.PatsTells'. -/
def patsTellsCard : Claim7 := { stood := { row := patsTellsRow, standIns := [], harness := (true, "58b0ee3625a60a6fd59fc03b327f66774a5582d7277a5e569a2fcce6b0cb4919"), looks := true }, kinds := [], alts := [], laidByText := true, laidKinds := [.data, .data, .data], laidTests := true, laidLooks := .later }
def PatsTellsCardSaid : Prop := Claim7.holds Tryz.pinned (.plain (OpenSpec.ofChange patsTellsSpec)) patsTellsCard

/-- THE TIED CARD OF 'fuguelaw14.PatsKinds'. -/
def patsKindsCard : Claim7 := { stood := { row := patsKindsRow, standIns := [], harness := (true, "58b0ee3625a60a6fd59fc03b327f66774a5582d7277a5e569a2fcce6b0cb4919"), looks := true }, kinds := [], alts := [], laidByText := true, laidKinds := [.data, .data, .data], laidTests := true, laidLooks := .later }
def PatsKindsCardSaid : Prop := Claim7.holds Tryz.pinned (.plain (OpenSpec.ofChange patsKindsSpec)) patsKindsCard

/-- THE SECOND FORM's CARD OF 'fuguelaw14.PatsUnknown'. -/
def patsUnknownUptoCard : Claim7 := { stood := { row := patsUnknownUptoRow, standIns := [], harness := (true, "58b0ee3625a60a6fd59fc03b327f66774a5582d7277a5e569a2fcce6b0cb4919"), looks := true }, kinds := [], alts := [], laidByText := true, laidKinds := [.data, .data, .data], laidTests := true, laidLooks := .later }
def PatsUnknownUptoCardSaid : Prop := Claim7.holds Tryz.pinned (.plain (OpenSpec.upto patsUnknownSpec)) patsUnknownUptoCard

/-- THE SECOND FORM's CARD OF 'fuguelaw14.PatsTwice'. -/
def patsTwiceUptoCard : Claim7 := { stood := { row := patsTwiceUptoRow, standIns := [], harness := (true, "58b0ee3625a60a6fd59fc03b327f66774a5582d7277a5e569a2fcce6b0cb4919"), looks := true }, kinds := [], alts := [], laidByText := true, laidKinds := [.data, .data, .data], laidTests := true, laidLooks := .later }
def PatsTwiceUptoCardSaid : Prop := Claim7.holds Tryz.pinned (.plain (OpenSpec.upto patsTwiceSpec)) patsTwiceUptoCard

/-- THE SECOND FORM's CARD OF 'fuguelaw14.PatsOrder'. -/
def patsOrderUptoCard : Claim7 := { stood := { row := patsOrderUptoRow, standIns := [], harness := (true, "58b0ee3625a60a6fd59fc03b327f66774a5582d7277a5e569a2fcce6b0cb4919"), looks := true }, kinds := [], alts := [], laidByText := true, laidKinds := [.data, .data, .data], laidTests := true, laidLooks := .later }
def PatsOrderUptoCardSaid : Prop := Claim7.holds Tryz.pinned (.plain (OpenSpec.upto patsOrderSpec)) patsOrderUptoCard

/-- THE SECOND FORM's CARD OF 'fuguelaw14.PatsTells'. -/
def patsTellsUptoCard : Claim7 := { stood := { row := patsTellsUptoRow, standIns := [], harness := (true, "58b0ee3625a60a6fd59fc03b327f66774a5582d7277a5e569a2fcce6b0cb4919"), looks := true }, kinds := [], alts := [], laidByText := true, laidKinds := [.data, .data, .data], laidTests := true, laidLooks := .later }
def PatsTellsUptoCardSaid : Prop := Claim7.holds Tryz.pinned (.plain (OpenSpec.upto patsTellsSpec)) patsTellsUptoCard

/-- THE SECOND FORM's CARD OF 'fuguelaw14.PatsKinds'. -/
def patsKindsUptoCard : Claim7 := { stood := { row := patsKindsUptoRow, standIns := [], harness := (true, "58b0ee3625a60a6fd59fc03b327f66774a5582d7277a5e569a2fcce6b0cb4919"), looks := true }, kinds := [], alts := [], laidByText := true, laidKinds := [.data, .data, .data], laidTests := true, laidLooks := .later }
def PatsKindsUptoCardSaid : Prop := Claim7.holds Tryz.pinned (.plain (OpenSpec.upto patsKindsSpec)) patsKindsUptoCard
end Rows
end Go.Proofs.YtmhedpkbfaginaaGreatDoor
