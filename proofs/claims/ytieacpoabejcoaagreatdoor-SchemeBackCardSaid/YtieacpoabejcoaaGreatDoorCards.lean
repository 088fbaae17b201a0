/-
  DERIVED. GIVEN WITH THE SEED: THE CARDS: each row of YtieacpoabejcoaaGreatDoorRows.lean that lists a variable, with what it lists TIED to the program's text (the seventh form; the later family's looks); each row that meets fmt, with fmt's text TOLD by the authors' own Lean function (tested against real Go, not proved from fmt's source: count such statements apart). THE CARD IS WHAT COUNTS. Prove the row's statement (the work); the ties are given (YtieacpoabejcoaaGreatDoorTie.lean); close each card by the builder's one call (the guide's Derived/Test/ToyasCard.lean, 'card_holds'). Laid BY PROGRAM, IN A SANDBOX (cutbox-door.mjs). By AI agents, Wed Nov 11 2026. No macro, syntax, notation, axiom, sorry.
-/
import Derived.Test.YtieacpoabejcoaaGreatDoorRows
import GoSem.ClaimSeven
namespace Go.Proofs.YtieacpoabejcoaaGreatDoor
namespace Rows

/-- THE TIED CARD OF 'fuguelaw13.SchemeBack'. -/
def schemeBackCard : Claim7 := { stood := { row := schemeBackRow, standIns := [], harness := (true, "7518b2d249ca37072ea729cd4f6d2084c7e8dac4211a6f1381af02e987b797b6"), looks := true }, kinds := [], alts := [], laidByText := true, laidKinds := [.data, .data, .data], laidTests := true, laidLooks := .later }
def SchemeBackCardSaid : Prop := Claim7.holds Tryz.pinned (.plain (OpenSpec.ofChange schemeBackSpec)) schemeBackCard

/-- THE TIED CARD OF 'fuguelaw13.SchemeMatches'. -/
def schemeMatchesCard : Claim7 := { stood := { row := schemeMatchesRow, standIns := [], harness := (true, "7518b2d249ca37072ea729cd4f6d2084c7e8dac4211a6f1381af02e987b797b6"), looks := true }, kinds := [], alts := [], laidByText := true, laidKinds := [.data, .data, .data], laidTests := true, laidLooks := .later }
def SchemeMatchesCardSaid : Prop := Claim7.holds Tryz.pinned (.plain (OpenSpec.ofChange schemeMatchesSpec)) schemeMatchesCard

/-- THE TIED CARD OF 'fuguelaw13.SchemeInstance'. -/
def schemeInstanceCard : Claim7 := { stood := { row := schemeInstanceRow, standIns := [], harness := (true, "7518b2d249ca37072ea729cd4f6d2084c7e8dac4211a6f1381af02e987b797b6"), looks := true }, kinds := [], alts := [], laidByText := true, laidKinds := [.data, .data, .data], laidTests := true, laidLooks := .later }
def SchemeInstanceCardSaid : Prop := Claim7.holds Tryz.pinned (.plain (OpenSpec.ofChange schemeInstanceSpec)) schemeInstanceCard

/-- THE TIED CARD OF 'fuguelaw13.SchemeOrder'. -/
def schemeOrderCard : Claim7 := { stood := { row := schemeOrderRow, standIns := [], harness := (true, "7518b2d249ca37072ea729cd4f6d2084c7e8dac4211a6f1381af02e987b797b6"), looks := true }, kinds := [], alts := [], laidByText := true, laidKinds := [.data, .data, .data], laidTests := true, laidLooks := .later }
def SchemeOrderCardSaid : Prop := Claim7.holds Tryz.pinned (.plain (OpenSpec.ofChange schemeOrderSpec)) schemeOrderCard

/-- THE SECOND FORM's CARD OF 'fuguelaw13.SchemeBack'. -/
def schemeBackUptoCard : Claim7 := { stood := { row := schemeBackUptoRow, standIns := [], harness := (true, "7518b2d249ca37072ea729cd4f6d2084c7e8dac4211a6f1381af02e987b797b6"), looks := true }, kinds := [], alts := [], laidByText := true, laidKinds := [.data, .data, .data], laidTests := true, laidLooks := .later }
def SchemeBackUptoCardSaid : Prop := Claim7.holds Tryz.pinned (.plain (OpenSpec.upto schemeBackSpec)) schemeBackUptoCard

/-- THE SECOND FORM's CARD OF 'fuguelaw13.SchemeMatches'. -/
def schemeMatchesUptoCard : Claim7 := { stood := { row := schemeMatchesUptoRow, standIns := [], harness := (true, "7518b2d249ca37072ea729cd4f6d2084c7e8dac4211a6f1381af02e987b797b6"), looks := true }, kinds := [], alts := [], laidByText := true, laidKinds := [.data, .data, .data], laidTests := true, laidLooks := .later }
def SchemeMatchesUptoCardSaid : Prop := Claim7.holds Tryz.pinned (.plain (OpenSpec.upto schemeMatchesSpec)) schemeMatchesUptoCard

/-- THE SECOND FORM's CARD OF 'fuguelaw13.SchemeInstance'. -/
def schemeInstanceUptoCard : Claim7 := { stood := { row := schemeInstanceUptoRow, standIns := [], harness := (true, "7518b2d249ca37072ea729cd4f6d2084c7e8dac4211a6f1381af02e987b797b6"), looks := true }, kinds := [], alts := [], laidByText := true, laidKinds := [.data, .data, .data], laidTests := true, laidLooks := .later }
def SchemeInstanceUptoCardSaid : Prop := Claim7.holds Tryz.pinned (.plain (OpenSpec.upto schemeInstanceSpec)) schemeInstanceUptoCard

/-- THE SECOND FORM's CARD OF 'fuguelaw13.SchemeOrder'. -/
def schemeOrderUptoCard : Claim7 := { stood := { row := schemeOrderUptoRow, standIns := [], harness := (true, "7518b2d249ca37072ea729cd4f6d2084c7e8dac4211a6f1381af02e987b797b6"), looks := true }, kinds := [], alts := [], laidByText := true, laidKinds := [.data, .data, .data], laidTests := true, laidLooks := .later }
def SchemeOrderUptoCardSaid : Prop := Claim7.holds Tryz.pinned (.plain (OpenSpec.upto schemeOrderSpec)) schemeOrderUptoCard
end Rows
end Go.Proofs.YtieacpoabejcoaaGreatDoor
