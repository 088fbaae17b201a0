/-
  DERIVED. GIVEN WITH THE SEED: THE CARDS: each row of YtdoppkjoemlhjaaDoorRows.lean that lists a variable, with what it lists TIED to the program's text (the seventh form; the later family's looks); each row that meets fmt, with fmt's text TOLD by the authors' own Lean function (tested against real Go, not proved from fmt's source: count such statements apart). THE CARD IS WHAT COUNTS. Prove the row's statement (the work); the ties are given (YtdoppkjoemlhjaaDoorTie.lean); close each card by the builder's one call (the guide's Derived/Test/ToyasCard.lean, 'card_holds'). Laid BY PROGRAM, IN A SANDBOX (cutbox-door.mjs). By AI agents, Wed Nov 11 2026. No macro, syntax, notation, axiom, sorry.
-/
import Derived.Test.YtdoppkjoemlhjaaDoorRows
import GoSem.ClaimSeven
namespace Go.Proofs.YtdoppkjoemlhjaaDoor
namespace Rows

/-- THE TIED CARD OF 'fuguelaw29.ShowPrints'. -/
def showPrintsCard : Claim7 := { stood := { row := showPrintsRow, standIns := [], harness := (true, "89415d78e5f176911a274265b321c628afd6db5859cf732471837d2453d99183"), looks := true }, kinds := [], alts := [], laidByText := true, laidKinds := [.data, .data, .data, .sentinel, .sentinel], laidTests := true, laidLooks := .later }
def ShowPrintsCardSaid : Prop := Claim7.holds Tryd.pinned (.plain (OpenSpec.ofChange showPrintsSpec)) showPrintsCard

/-- THE TIED CARD OF 'fuguelaw29.ShowReads'. -/
def showReadsCard : Claim7 := { stood := { row := showReadsRow, standIns := [], harness := (true, "89415d78e5f176911a274265b321c628afd6db5859cf732471837d2453d99183"), looks := true }, kinds := [], alts := [], laidByText := true, laidKinds := [.data, .data, .data, .sentinel, .sentinel], laidTests := true, laidLooks := .later }
def ShowReadsCardSaid : Prop := Claim7.holds Tryd.pinned (.plain (OpenSpec.ofChange showReadsSpec)) showReadsCard

/-- THE TIED CARD OF 'fuguelaw29.ShowRound'. -/
def showRoundCard : Claim7 := { stood := { row := showRoundRow, standIns := [], harness := (true, "89415d78e5f176911a274265b321c628afd6db5859cf732471837d2453d99183"), looks := true }, kinds := [], alts := [], laidByText := true, laidKinds := [.data, .data, .data, .sentinel, .sentinel], laidTests := true, laidLooks := .later }
def ShowRoundCardSaid : Prop := Claim7.holds Tryd.pinned (.plain (OpenSpec.ofChange showRoundSpec)) showRoundCard

/-- THE TIED CARD OF 'fuguelaw29.ShowSame'. -/
def showSameCard : Claim7 := { stood := { row := showSameRow, standIns := [], harness := (true, "89415d78e5f176911a274265b321c628afd6db5859cf732471837d2453d99183"), looks := true }, kinds := [], alts := [], laidByText := true, laidKinds := [.data, .data, .data, .sentinel, .sentinel], laidTests := true, laidLooks := .later }
def ShowSameCardSaid : Prop := Claim7.holds Tryd.pinned (.plain (OpenSpec.ofChange showSameSpec)) showSameCard

/-- THE TIED CARD OF 'fuguelaw29.ShowCuts'. -/
def showCutsCard : Claim7 := { stood := { row := showCutsRow, standIns := [], harness := (true, "89415d78e5f176911a274265b321c628afd6db5859cf732471837d2453d99183"), looks := true }, kinds := [], alts := [], laidByText := true, laidKinds := [.data, .data, .data, .sentinel, .sentinel], laidTests := true, laidLooks := .later }
def ShowCutsCardSaid : Prop := Claim7.holds Tryd.pinned (.plain (OpenSpec.ofChange showCutsSpec)) showCutsCard

/-- THE TIED CARD OF 'fuguelaw29.ShowOrder'. -/
def showOrderCard : Claim7 := { stood := { row := showOrderRow, standIns := [], harness := (true, "89415d78e5f176911a274265b321c628afd6db5859cf732471837d2453d99183"), looks := true }, kinds := [], alts := [], laidByText := true, laidKinds := [.data, .data, .data, .sentinel, .sentinel], laidTests := true, laidLooks := .later }
def ShowOrderCardSaid : Prop := Claim7.holds Tryd.pinned (.plain (OpenSpec.ofChange showOrderSpec)) showOrderCard

/-- THE TIED CARD OF 'fuguelaw29.ShowNames'. -/
def showNamesCard : Claim7 := { stood := { row := showNamesRow, standIns := [], harness := (true, "89415d78e5f176911a274265b321c628afd6db5859cf732471837d2453d99183"), looks := true }, kinds := [], alts := [], laidByText := true, laidKinds := [.data, .data, .data, .sentinel, .sentinel], laidTests := true, laidLooks := .later }
def ShowNamesCardSaid : Prop := Claim7.holds Tryd.pinned (.plain (OpenSpec.ofChange showNamesSpec)) showNamesCard

/-- THE SECOND FORM's CARD OF 'fuguelaw29.ShowPrints'. -/
def showPrintsUptoCard : Claim7 := { stood := { row := showPrintsUptoRow, standIns := [], harness := (true, "89415d78e5f176911a274265b321c628afd6db5859cf732471837d2453d99183"), looks := true }, kinds := [], alts := [], laidByText := true, laidKinds := [.data, .data, .data, .sentinel, .sentinel], laidTests := true, laidLooks := .later }
def ShowPrintsUptoCardSaid : Prop := Claim7.holds Tryd.pinned (.plain (OpenSpec.upto showPrintsSpec)) showPrintsUptoCard

/-- THE SECOND FORM's CARD OF 'fuguelaw29.ShowReads'. -/
def showReadsUptoCard : Claim7 := { stood := { row := showReadsUptoRow, standIns := [], harness := (true, "89415d78e5f176911a274265b321c628afd6db5859cf732471837d2453d99183"), looks := true }, kinds := [], alts := [], laidByText := true, laidKinds := [.data, .data, .data, .sentinel, .sentinel], laidTests := true, laidLooks := .later }
def ShowReadsUptoCardSaid : Prop := Claim7.holds Tryd.pinned (.plain (OpenSpec.upto showReadsSpec)) showReadsUptoCard

/-- THE SECOND FORM's CARD OF 'fuguelaw29.ShowRound'. -/
def showRoundUptoCard : Claim7 := { stood := { row := showRoundUptoRow, standIns := [], harness := (true, "89415d78e5f176911a274265b321c628afd6db5859cf732471837d2453d99183"), looks := true }, kinds := [], alts := [], laidByText := true, laidKinds := [.data, .data, .data, .sentinel, .sentinel], laidTests := true, laidLooks := .later }
def ShowRoundUptoCardSaid : Prop := Claim7.holds Tryd.pinned (.plain (OpenSpec.upto showRoundSpec)) showRoundUptoCard

/-- THE SECOND FORM's CARD OF 'fuguelaw29.ShowSame'. -/
def showSameUptoCard : Claim7 := { stood := { row := showSameUptoRow, standIns := [], harness := (true, "89415d78e5f176911a274265b321c628afd6db5859cf732471837d2453d99183"), looks := true }, kinds := [], alts := [], laidByText := true, laidKinds := [.data, .data, .data, .sentinel, .sentinel], laidTests := true, laidLooks := .later }
def ShowSameUptoCardSaid : Prop := Claim7.holds Tryd.pinned (.plain (OpenSpec.upto showSameSpec)) showSameUptoCard

/-- THE SECOND FORM's CARD OF 'fuguelaw29.ShowCuts'. -/
def showCutsUptoCard : Claim7 := { stood := { row := showCutsUptoRow, standIns := [], harness := (true, "89415d78e5f176911a274265b321c628afd6db5859cf732471837d2453d99183"), looks := true }, kinds := [], alts := [], laidByText := true, laidKinds := [.data, .data, .data, .sentinel, .sentinel], laidTests := true, laidLooks := .later }
def ShowCutsUptoCardSaid : Prop := Claim7.holds Tryd.pinned (.plain (OpenSpec.upto showCutsSpec)) showCutsUptoCard

/-- THE SECOND FORM's CARD OF 'fuguelaw29.ShowOrder'. -/
def showOrderUptoCard : Claim7 := { stood := { row := showOrderUptoRow, standIns := [], harness := (true, "89415d78e5f176911a274265b321c628afd6db5859cf732471837d2453d99183"), looks := true }, kinds := [], alts := [], laidByText := true, laidKinds := [.data, .data, .data, .sentinel, .sentinel], laidTests := true, laidLooks := .later }
def ShowOrderUptoCardSaid : Prop := Claim7.holds Tryd.pinned (.plain (OpenSpec.upto showOrderSpec)) showOrderUptoCard

/-- THE SECOND FORM's CARD OF 'fuguelaw29.ShowNames'. -/
def showNamesUptoCard : Claim7 := { stood := { row := showNamesUptoRow, standIns := [], harness := (true, "89415d78e5f176911a274265b321c628afd6db5859cf732471837d2453d99183"), looks := true }, kinds := [], alts := [], laidByText := true, laidKinds := [.data, .data, .data, .sentinel, .sentinel], laidTests := true, laidLooks := .later }
def ShowNamesUptoCardSaid : Prop := Claim7.holds Tryd.pinned (.plain (OpenSpec.upto showNamesSpec)) showNamesUptoCard
end Rows
end Go.Proofs.YtdoppkjoemlhjaaDoor
