/-
  DERIVED. GIVEN WITH THE SEED: THE CARDS: each row of YtldfbnbckiifeaaGreatDoorRows.lean that lists a variable, with what it lists TIED to the program's text (the seventh form; the later family's looks); each row that meets fmt, with fmt's text TOLD by the authors' own Lean function (tested against real Go, not proved from fmt's source: count such statements apart). THE CARD IS WHAT COUNTS. Prove the row's statement (the work); the ties are given (YtldfbnbckiifeaaGreatDoorTie.lean); close each card by the builder's one call (the guide's Derived/Test/ToyasCard.lean, 'card_holds'). Laid BY PROGRAM, IN A SANDBOX (cutbox-door.mjs). By AI agents, Wed Nov 11 2026. No macro, syntax, notation, axiom, sorry.
-/
import Derived.Test.YtldfbnbckiifeaaGreatDoorRows
import GoSem.ClaimSeven
namespace Go.Proofs.YtldfbnbckiifeaaGreatDoor
namespace Rows

/-- THE TIED CARD OF 'fuguelaw26.GcodePrints'. -/
def gcodePrintsCard : Claim7 := { stood := { row := gcodePrintsRow, standIns := [], harness := (true, "b1d9233a7d576825bdbdcc82f443e73d079e95590c4bb733f4952463b7d0edd0"), looks := true }, kinds := [], alts := [], laidByText := true, laidKinds := [.data, .data, .data], laidTests := true, laidLooks := .later }
def GcodePrintsCardSaid : Prop := Claim7.holds Tryz.pinned (.plain (OpenSpec.ofChange gcodePrintsSpec)) gcodePrintsCard

/-- THE TIED CARD OF 'fuguelaw26.GcodeChecks'. -/
def gcodeChecksCard : Claim7 := { stood := { row := gcodeChecksRow, standIns := [], harness := (true, "b1d9233a7d576825bdbdcc82f443e73d079e95590c4bb733f4952463b7d0edd0"), looks := true }, kinds := [], alts := [], laidByText := true, laidKinds := [.data, .data, .data], laidTests := true, laidLooks := .later }
def GcodeChecksCardSaid : Prop := Claim7.holds Tryz.pinned (.plain (OpenSpec.ofChange gcodeChecksSpec)) gcodeChecksCard

/-- THE TIED CARD OF 'fuguelaw26.GcodeCompiles'. -/
def gcodeCompilesCard : Claim7 := { stood := { row := gcodeCompilesRow, standIns := [], harness := (true, "b1d9233a7d576825bdbdcc82f443e73d079e95590c4bb733f4952463b7d0edd0"), looks := true }, kinds := [], alts := [], laidByText := true, laidKinds := [.data, .data, .data], laidTests := true, laidLooks := .later }
def GcodeCompilesCardSaid : Prop := Claim7.holds Tryz.pinned (.plain (OpenSpec.ofChange gcodeCompilesSpec)) gcodeCompilesCard

/-- THE TIED CARD OF 'fuguelaw26.GcodeAdds'. -/
def gcodeAddsCard : Claim7 := { stood := { row := gcodeAddsRow, standIns := [], harness := (true, "b1d9233a7d576825bdbdcc82f443e73d079e95590c4bb733f4952463b7d0edd0"), looks := true }, kinds := [], alts := [], laidByText := true, laidKinds := [.data, .data, .data], laidTests := true, laidLooks := .later }
def GcodeAddsCardSaid : Prop := Claim7.holds Tryz.pinned (.plain (OpenSpec.ofChange gcodeAddsSpec)) gcodeAddsCard

/-- THE TIED CARD OF 'fuguelaw26.GcodeAlpha'. -/
def gcodeAlphaCard : Claim7 := { stood := { row := gcodeAlphaRow, standIns := [], harness := (true, "b1d9233a7d576825bdbdcc82f443e73d079e95590c4bb733f4952463b7d0edd0"), looks := true }, kinds := [], alts := [], laidByText := true, laidKinds := [.data, .data, .data], laidTests := true, laidLooks := .later }
def GcodeAlphaCardSaid : Prop := Claim7.holds Tryz.pinned (.plain (OpenSpec.ofChange gcodeAlphaSpec)) gcodeAlphaCard

/-- THE TIED CARD OF 'fuguelaw26.GcodeRow'. -/
def gcodeRowCard : Claim7 := { stood := { row := gcodeRowRow, standIns := [], harness := (true, "b1d9233a7d576825bdbdcc82f443e73d079e95590c4bb733f4952463b7d0edd0"), looks := true }, kinds := [], alts := [], laidByText := true, laidKinds := [.data, .data, .data], laidTests := true, laidLooks := .later }
def GcodeRowCardSaid : Prop := Claim7.holds Tryz.pinned (.plain (OpenSpec.ofChange gcodeRowSpec)) gcodeRowCard

/-- THE SECOND FORM's CARD OF 'fuguelaw26.GcodePrints'. -/
def gcodePrintsUptoCard : Claim7 := { stood := { row := gcodePrintsUptoRow, standIns := [], harness := (true, "b1d9233a7d576825bdbdcc82f443e73d079e95590c4bb733f4952463b7d0edd0"), looks := true }, kinds := [], alts := [], laidByText := true, laidKinds := [.data, .data, .data], laidTests := true, laidLooks := .later }
def GcodePrintsUptoCardSaid : Prop := Claim7.holds Tryz.pinned (.plain (OpenSpec.upto gcodePrintsSpec)) gcodePrintsUptoCard

/-- THE SECOND FORM's CARD OF 'fuguelaw26.GcodeChecks'. -/
def gcodeChecksUptoCard : Claim7 := { stood := { row := gcodeChecksUptoRow, standIns := [], harness := (true, "b1d9233a7d576825bdbdcc82f443e73d079e95590c4bb733f4952463b7d0edd0"), looks := true }, kinds := [], alts := [], laidByText := true, laidKinds := [.data, .data, .data], laidTests := true, laidLooks := .later }
def GcodeChecksUptoCardSaid : Prop := Claim7.holds Tryz.pinned (.plain (OpenSpec.upto gcodeChecksSpec)) gcodeChecksUptoCard

/-- THE SECOND FORM's CARD OF 'fuguelaw26.GcodeCompiles'. -/
def gcodeCompilesUptoCard : Claim7 := { stood := { row := gcodeCompilesUptoRow, standIns := [], harness := (true, "b1d9233a7d576825bdbdcc82f443e73d079e95590c4bb733f4952463b7d0edd0"), looks := true }, kinds := [], alts := [], laidByText := true, laidKinds := [.data, .data, .data], laidTests := true, laidLooks := .later }
def GcodeCompilesUptoCardSaid : Prop := Claim7.holds Tryz.pinned (.plain (OpenSpec.upto gcodeCompilesSpec)) gcodeCompilesUptoCard

/-- THE SECOND FORM's CARD OF 'fuguelaw26.GcodeAdds'. -/
def gcodeAddsUptoCard : Claim7 := { stood := { row := gcodeAddsUptoRow, standIns := [], harness := (true, "b1d9233a7d576825bdbdcc82f443e73d079e95590c4bb733f4952463b7d0edd0"), looks := true }, kinds := [], alts := [], laidByText := true, laidKinds := [.data, .data, .data], laidTests := true, laidLooks := .later }
def GcodeAddsUptoCardSaid : Prop := Claim7.holds Tryz.pinned (.plain (OpenSpec.upto gcodeAddsSpec)) gcodeAddsUptoCard

/-- THE SECOND FORM's CARD OF 'fuguelaw26.GcodeAlpha'. -/
def gcodeAlphaUptoCard : Claim7 := { stood := { row := gcodeAlphaUptoRow, standIns := [], harness := (true, "b1d9233a7d576825bdbdcc82f443e73d079e95590c4bb733f4952463b7d0edd0"), looks := true }, kinds := [], alts := [], laidByText := true, laidKinds := [.data, .data, .data], laidTests := true, laidLooks := .later }
def GcodeAlphaUptoCardSaid : Prop := Claim7.holds Tryz.pinned (.plain (OpenSpec.upto gcodeAlphaSpec)) gcodeAlphaUptoCard

/-- THE SECOND FORM's CARD OF 'fuguelaw26.GcodeRow'. -/
def gcodeRowUptoCard : Claim7 := { stood := { row := gcodeRowUptoRow, standIns := [], harness := (true, "b1d9233a7d576825bdbdcc82f443e73d079e95590c4bb733f4952463b7d0edd0"), looks := true }, kinds := [], alts := [], laidByText := true, laidKinds := [.data, .data, .data], laidTests := true, laidLooks := .later }
def GcodeRowUptoCardSaid : Prop := Claim7.holds Tryz.pinned (.plain (OpenSpec.upto gcodeRowSpec)) gcodeRowUptoCard
end Rows
end Go.Proofs.YtldfbnbckiifeaaGreatDoor
