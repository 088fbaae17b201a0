/-
  DERIVED. GIVEN WITH THE SEED: THE CARDS: each row of YtkgdpcnobfadaaaDoorRows.lean that lists a variable, with what it lists TIED to the program's text (the seventh form; the later family's looks); each row that meets fmt, with fmt's text TOLD by the authors' own Lean function (tested against real Go, not proved from fmt's source: count such statements apart). THE CARD IS WHAT COUNTS. Prove the row's statement (the work); the ties are given (YtkgdpcnobfadaaaDoorTie.lean); close each card by the builder's one call (the guide's Derived/Test/ToyasCard.lean, 'card_holds'). Laid BY PROGRAM, IN A SANDBOX (cutbox-door.mjs). By AI agents, Wed Nov 11 2026. No macro, syntax, notation, axiom, sorry.
-/
import Derived.Test.YtkgdpcnobfadaaaDoorRows
import GoSem.ClaimSeven
namespace Go.Proofs.YtkgdpcnobfadaaaDoor
namespace Rows

/-- THE TIED CARD OF 'fuguelaw13.SchemeQuantify'. -/
def schemeQuantifyCard : Claim7 := { stood := { row := schemeQuantifyRow, standIns := [], harness := (true, "48904e4b9a5b29f5d2d830660d64963e9212d6a82b28dc81221b11da197053f6"), looks := false }, kinds := [], alts := [], laidByText := true, laidKinds := [.data, .data, .data], laidTests := true, laidLooks := .later }
def SchemeQuantifyCardSaid : Prop := Claim7.holds Tryd.pinned (.plain (OpenSpec.ofChange schemeQuantifySpec)) schemeQuantifyCard

/-- THE SECOND FORM's CARD OF 'fuguelaw13.SchemeQuantify'. -/
def schemeQuantifyUptoCard : Claim7 := { stood := { row := schemeQuantifyUptoRow, standIns := [], harness := (true, "48904e4b9a5b29f5d2d830660d64963e9212d6a82b28dc81221b11da197053f6"), looks := false }, kinds := [], alts := [], laidByText := true, laidKinds := [.data, .data, .data], laidTests := true, laidLooks := .later }
def SchemeQuantifyUptoCardSaid : Prop := Claim7.holds Tryd.pinned (.plain (OpenSpec.upto schemeQuantifySpec)) schemeQuantifyUptoCard
end Rows
end Go.Proofs.YtkgdpcnobfadaaaDoor
