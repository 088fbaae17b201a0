/-
  DERIVED. GIVEN WITH THE SEED: THE CARDS: each row of YtkgdpcnobfadaaaGreatDoorRows.lean that lists a variable, with what it lists TIED to the program's text (the seventh form; the later family's looks); each row that meets fmt, with fmt's text TOLD by the authors' own Lean function (tested against real Go, not proved from fmt's source: count such statements apart). THE CARD IS WHAT COUNTS. Prove the row's statement (the work); the ties are given (YtkgdpcnobfadaaaGreatDoorTie.lean); close each card by the builder's one call (the guide's Derived/Test/ToyasCard.lean, 'card_holds'). Laid BY PROGRAM, IN A SANDBOX (cutbox-door.mjs). By AI agents, Wed Nov 11 2026. No macro, syntax, notation, axiom, sorry.
-/
import Derived.Test.YtkgdpcnobfadaaaGreatDoorRows
import GoSem.ClaimSeven
namespace Go.Proofs.YtkgdpcnobfadaaaGreatDoor
namespace Rows

/-- THE TIED CARD OF 'fuguelaw13.SchemeFresh'. -/
def schemeFreshCard : Claim7 := { stood := { row := schemeFreshRow, standIns := [], harness := (true, "d97599d29a0f1cbf16cace960f6603bb5c85137afecea55df50858c4209436d3"), looks := true }, kinds := [], alts := [], laidByText := true, laidKinds := [.data, .data, .data], laidTests := true, laidLooks := .later }
def SchemeFreshCardSaid : Prop := Claim7.holds Tryz.pinned (.plain (OpenSpec.ofChange schemeFreshSpec)) schemeFreshCard

/-- THE TIED CARD OF 'fuguelaw13.SchemeNames'. -/
def schemeNamesCard : Claim7 := { stood := { row := schemeNamesRow, standIns := [], harness := (true, "d97599d29a0f1cbf16cace960f6603bb5c85137afecea55df50858c4209436d3"), looks := true }, kinds := [], alts := [], laidByText := true, laidKinds := [.data, .data, .data], laidTests := true, laidLooks := .later }
def SchemeNamesCardSaid : Prop := Claim7.holds Tryz.pinned (.plain (OpenSpec.ofChange schemeNamesSpec)) schemeNamesCard

/-- THE TIED CARD OF 'fuguelaw13.SchemeBack'. -/
def schemeBackCard : Claim7 := { stood := { row := schemeBackRow, standIns := [], harness := (true, "d97599d29a0f1cbf16cace960f6603bb5c85137afecea55df50858c4209436d3"), looks := true }, kinds := [], alts := [], laidByText := true, laidKinds := [.data, .data, .data], laidTests := true, laidLooks := .later }
def SchemeBackCardSaid : Prop := Claim7.holds Tryz.pinned (.plain (OpenSpec.ofChange schemeBackSpec)) schemeBackCard

/-- THE TIED CARD OF 'fuguelaw13.SchemeMatches'. -/
def schemeMatchesCard : Claim7 := { stood := { row := schemeMatchesRow, standIns := [], harness := (true, "d97599d29a0f1cbf16cace960f6603bb5c85137afecea55df50858c4209436d3"), looks := true }, kinds := [], alts := [], laidByText := true, laidKinds := [.data, .data, .data], laidTests := true, laidLooks := .later }
def SchemeMatchesCardSaid : Prop := Claim7.holds Tryz.pinned (.plain (OpenSpec.ofChange schemeMatchesSpec)) schemeMatchesCard

/-- THE TIED CARD OF 'fuguelaw13.SchemeInstance'. -/
def schemeInstanceCard : Claim7 := { stood := { row := schemeInstanceRow, standIns := [], harness := (true, "d97599d29a0f1cbf16cace960f6603bb5c85137afecea55df50858c4209436d3"), looks := true }, kinds := [], alts := [], laidByText := true, laidKinds := [.data, .data, .data], laidTests := true, laidLooks := .later }
def SchemeInstanceCardSaid : Prop := Claim7.holds Tryz.pinned (.plain (OpenSpec.ofChange schemeInstanceSpec)) schemeInstanceCard

/-- THE TIED CARD OF 'fuguelaw13.SchemeOrder'. -/
def schemeOrderCard : Claim7 := { stood := { row := schemeOrderRow, standIns := [], harness := (true, "d97599d29a0f1cbf16cace960f6603bb5c85137afecea55df50858c4209436d3"), looks := true }, kinds := [], alts := [], laidByText := true, laidKinds := [.data, .data, .data], laidTests := true, laidLooks := .later }
def SchemeOrderCardSaid : Prop := Claim7.holds Tryz.pinned (.plain (OpenSpec.ofChange schemeOrderSpec)) schemeOrderCard

/-- THE SECOND FORM's CARD OF 'fuguelaw13.SchemeFresh'. -/
def schemeFreshUptoCard : Claim7 := { stood := { row := schemeFreshUptoRow, standIns := [], harness := (true, "d97599d29a0f1cbf16cace960f6603bb5c85137afecea55df50858c4209436d3"), looks := true }, kinds := [], alts := [], laidByText := true, laidKinds := [.data, .data, .data], laidTests := true, laidLooks := .later }
def SchemeFreshUptoCardSaid : Prop := Claim7.holds Tryz.pinned (.plain (OpenSpec.upto schemeFreshSpec)) schemeFreshUptoCard

/-- THE SECOND FORM's CARD OF 'fuguelaw13.SchemeNames'. -/
def schemeNamesUptoCard : Claim7 := { stood := { row := schemeNamesUptoRow, standIns := [], harness := (true, "d97599d29a0f1cbf16cace960f6603bb5c85137afecea55df50858c4209436d3"), looks := true }, kinds := [], alts := [], laidByText := true, laidKinds := [.data, .data, .data], laidTests := true, laidLooks := .later }
def SchemeNamesUptoCardSaid : Prop := Claim7.holds Tryz.pinned (.plain (OpenSpec.upto schemeNamesSpec)) schemeNamesUptoCard

/-- THE SECOND FORM's CARD OF 'fuguelaw13.SchemeBack'. -/
def schemeBackUptoCard : Claim7 := { stood := { row := schemeBackUptoRow, standIns := [], harness := (true, "d97599d29a0f1cbf16cace960f6603bb5c85137afecea55df50858c4209436d3"), looks := true }, kinds := [], alts := [], laidByText := true, laidKinds := [.data, .data, .data], laidTests := true, laidLooks := .later }
def SchemeBackUptoCardSaid : Prop := Claim7.holds Tryz.pinned (.plain (OpenSpec.upto schemeBackSpec)) schemeBackUptoCard

/-- THE SECOND FORM's CARD OF 'fuguelaw13.SchemeMatches'. -/
def schemeMatchesUptoCard : Claim7 := { stood := { row := schemeMatchesUptoRow, standIns := [], harness := (true, "d97599d29a0f1cbf16cace960f6603bb5c85137afecea55df50858c4209436d3"), looks := true }, kinds := [], alts := [], laidByText := true, laidKinds := [.data, .data, .data], laidTests := true, laidLooks := .later }
def SchemeMatchesUptoCardSaid : Prop := Claim7.holds Tryz.pinned (.plain (OpenSpec.upto schemeMatchesSpec)) schemeMatchesUptoCard

/-- THE SECOND FORM's CARD OF 'fuguelaw13.SchemeInstance'. -/
def schemeInstanceUptoCard : Claim7 := { stood := { row := schemeInstanceUptoRow, standIns := [], harness := (true, "d97599d29a0f1cbf16cace960f6603bb5c85137afecea55df50858c4209436d3"), looks := true }, kinds := [], alts := [], laidByText := true, laidKinds := [.data, .data, .data], laidTests := true, laidLooks := .later }
def SchemeInstanceUptoCardSaid : Prop := Claim7.holds Tryz.pinned (.plain (OpenSpec.upto schemeInstanceSpec)) schemeInstanceUptoCard

/-- THE SECOND FORM's CARD OF 'fuguelaw13.SchemeOrder'. -/
def schemeOrderUptoCard : Claim7 := { stood := { row := schemeOrderUptoRow, standIns := [], harness := (true, "d97599d29a0f1cbf16cace960f6603bb5c85137afecea55df50858c4209436d3"), looks := true }, kinds := [], alts := [], laidByText := true, laidKinds := [.data, .data, .data], laidTests := true, laidLooks := .later }
def SchemeOrderUptoCardSaid : Prop := Claim7.holds Tryz.pinned (.plain (OpenSpec.upto schemeOrderSpec)) schemeOrderUptoCard
end Rows
end Go.Proofs.YtkgdpcnobfadaaaGreatDoor
