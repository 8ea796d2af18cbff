/-
  DERIVED. GIVEN WITH THE SEED: THE CARDS: each row of YteegmpghbhmekaaGreatDoorRows.lean that lists a variable, with what it lists TIED to the program's text (the seventh form; the later family's looks); each row that meets fmt, with fmt's text TOLD by the authors' own Lean function (tested against real Go, not proved from fmt's source: count such statements apart). THE CARD IS WHAT COUNTS. Prove the row's statement (the work); the ties are given (YteegmpghbhmekaaGreatDoorTie.lean); close each card by the builder's one call (the guide's Derived/Test/ToyasCard.lean, 'card_holds'). Laid BY PROGRAM, IN A SANDBOX (cutbox-door.mjs). By AI agents, Wed Nov 11 2026. No macro, syntax, notation, axiom, sorry.
-/
import Derived.Test.YteegmpghbhmekaaGreatDoorRows
import GoSem.ClaimSeven
namespace Go.Proofs.YteegmpghbhmekaaGreatDoor
namespace Rows

/-- THE TIED CARD OF 'replevinlaw17.AsmAssembles'. -/
def asmAssemblesCard : Claim7 := { stood := { row := asmAssemblesRow, standIns := [], harness := (true, "46b9c62267e894401281cafb436cebd9fd4902ff97d88a5e33fb62baa3adfc13"), looks := true }, kinds := [], alts := [], laidByText := true, laidKinds := [.data, .data, .data, .data, .data, .sentinel, .sentinel, .pinned], laidTests := true, laidLooks := .later }
def AsmAssemblesCardSaid : Prop := Claim7.holds Tryz.pinned (.plain (OpenSpec.ofChange asmAssemblesSpec)) asmAssemblesCard

/-- THE TIED CARD OF 'replevinlaw17.AsmLimits'. -/
def asmLimitsCard : Claim7 := { stood := { row := asmLimitsRow, standIns := [], harness := (true, "46b9c62267e894401281cafb436cebd9fd4902ff97d88a5e33fb62baa3adfc13"), looks := true }, kinds := [], alts := [], laidByText := true, laidKinds := [.data, .data, .data, .data, .data, .sentinel, .sentinel, .pinned], laidTests := true, laidLooks := .later }
def AsmLimitsCardSaid : Prop := Claim7.holds Tryz.pinned (.plain (OpenSpec.ofChange asmLimitsSpec)) asmLimitsCard

/-- THE TIED CARD OF 'replevinlaw17.AsmChecks'. -/
def asmChecksCard : Claim7 := { stood := { row := asmChecksRow, standIns := [], harness := (true, "46b9c62267e894401281cafb436cebd9fd4902ff97d88a5e33fb62baa3adfc13"), looks := true }, kinds := [], alts := [], laidByText := true, laidKinds := [.data, .data, .data, .data, .data, .sentinel, .sentinel, .pinned], laidTests := true, laidLooks := .later }
def AsmChecksCardSaid : Prop := Claim7.holds Tryz.pinned (.plain (OpenSpec.ofChange asmChecksSpec)) asmChecksCard

/-- THE TIED CARD OF 'replevinlaw17.AsmNames'. -/
def asmNamesCard : Claim7 := { stood := { row := asmNamesRow, standIns := [], harness := (true, "46b9c62267e894401281cafb436cebd9fd4902ff97d88a5e33fb62baa3adfc13"), looks := true }, kinds := [], alts := [], laidByText := true, laidKinds := [.data, .data, .data, .data, .data, .sentinel, .sentinel, .pinned], laidTests := true, laidLooks := .later }
def AsmNamesCardSaid : Prop := Claim7.holds Tryz.pinned (.plain (OpenSpec.ofChange asmNamesSpec)) asmNamesCard

/-- THE TIED CARD OF 'replevinlaw17.AsmBlanks'. -/
def asmBlanksCard : Claim7 := { stood := { row := asmBlanksRow, standIns := [], harness := (true, "46b9c62267e894401281cafb436cebd9fd4902ff97d88a5e33fb62baa3adfc13"), looks := true }, kinds := [], alts := [], laidByText := true, laidKinds := [.data, .data, .data, .data, .data, .sentinel, .sentinel, .pinned], laidTests := true, laidLooks := .later }
def AsmBlanksCardSaid : Prop := Claim7.holds Tryz.pinned (.plain (OpenSpec.ofChange asmBlanksSpec)) asmBlanksCard

/-- THE TIED CARD OF 'replevinlaw17.AsmEquals'. -/
def asmEqualsCard : Claim7 := { stood := { row := asmEqualsRow, standIns := [], harness := (true, "46b9c62267e894401281cafb436cebd9fd4902ff97d88a5e33fb62baa3adfc13"), looks := true }, kinds := [], alts := [], laidByText := true, laidKinds := [.data, .data, .data, .data, .data, .sentinel, .sentinel, .pinned], laidTests := true, laidLooks := .later }
def AsmEqualsCardSaid : Prop := Claim7.holds Tryz.pinned (.plain (OpenSpec.ofChange asmEqualsSpec)) asmEqualsCard

/-- THE TIED CARD OF 'replevinlaw17.AsmQuotes'. -/
def asmQuotesCard : Claim7 := { stood := { row := asmQuotesRow, standIns := [], harness := (true, "46b9c62267e894401281cafb436cebd9fd4902ff97d88a5e33fb62baa3adfc13"), looks := true }, kinds := [], alts := [], laidByText := true, laidKinds := [.data, .data, .data, .data, .data, .sentinel, .sentinel, .pinned], laidTests := true, laidLooks := .later }
def AsmQuotesCardSaid : Prop := Claim7.holds Tryz.pinned (.plain (OpenSpec.ofChange asmQuotesSpec)) asmQuotesCard

/-- THE TIED CARD OF 'replevinlaw17.AsmLines'. -/
def asmLinesCard : Claim7 := { stood := { row := asmLinesRow, standIns := [], harness := (true, "46b9c62267e894401281cafb436cebd9fd4902ff97d88a5e33fb62baa3adfc13"), looks := true }, kinds := [], alts := [], laidByText := true, laidKinds := [.data, .data, .data, .data, .data, .sentinel, .sentinel, .pinned], laidTests := true, laidLooks := .later }
def AsmLinesCardSaid : Prop := Claim7.holds Tryz.pinned (.plain (OpenSpec.ofChange asmLinesSpec)) asmLinesCard

/-- THE TIED CARD OF 'replevinlaw17.AsmPrints'. -/
def asmPrintsCard : Claim7 := { stood := { row := asmPrintsRow, standIns := [], harness := (true, "46b9c62267e894401281cafb436cebd9fd4902ff97d88a5e33fb62baa3adfc13"), looks := true }, kinds := [], alts := [], laidByText := true, laidKinds := [.data, .data, .data, .data, .data, .sentinel, .sentinel, .pinned], laidTests := true, laidLooks := .later }
def AsmPrintsCardSaid : Prop := Claim7.holds Tryz.pinned (.plain (OpenSpec.ofChange asmPrintsSpec)) asmPrintsCard

/-- THE TIED CARD OF 'replevinlaw17.AsmValid'. -/
def asmValidCard : Claim7 := { stood := { row := asmValidRow, standIns := [], harness := (true, "46b9c62267e894401281cafb436cebd9fd4902ff97d88a5e33fb62baa3adfc13"), looks := true }, kinds := [], alts := [], laidByText := true, laidKinds := [.data, .data, .data, .data, .data, .sentinel, .sentinel, .pinned], laidTests := true, laidLooks := .later }
def AsmValidCardSaid : Prop := Claim7.holds Tryz.pinned (.plain (OpenSpec.ofChange asmValidSpec)) asmValidCard

/-- THE SECOND FORM's CARD OF 'replevinlaw17.AsmAssembles'. -/
def asmAssemblesUptoCard : Claim7 := { stood := { row := asmAssemblesUptoRow, standIns := [], harness := (true, "46b9c62267e894401281cafb436cebd9fd4902ff97d88a5e33fb62baa3adfc13"), looks := true }, kinds := [], alts := [], laidByText := true, laidKinds := [.data, .data, .data, .data, .data, .sentinel, .sentinel, .pinned], laidTests := true, laidLooks := .later }
def AsmAssemblesUptoCardSaid : Prop := Claim7.holds Tryz.pinned (.plain (OpenSpec.upto asmAssemblesSpec)) asmAssemblesUptoCard

/-- THE SECOND FORM's CARD OF 'replevinlaw17.AsmLimits'. -/
def asmLimitsUptoCard : Claim7 := { stood := { row := asmLimitsUptoRow, standIns := [], harness := (true, "46b9c62267e894401281cafb436cebd9fd4902ff97d88a5e33fb62baa3adfc13"), looks := true }, kinds := [], alts := [], laidByText := true, laidKinds := [.data, .data, .data, .data, .data, .sentinel, .sentinel, .pinned], laidTests := true, laidLooks := .later }
def AsmLimitsUptoCardSaid : Prop := Claim7.holds Tryz.pinned (.plain (OpenSpec.upto asmLimitsSpec)) asmLimitsUptoCard

/-- THE SECOND FORM's CARD OF 'replevinlaw17.AsmChecks'. -/
def asmChecksUptoCard : Claim7 := { stood := { row := asmChecksUptoRow, standIns := [], harness := (true, "46b9c62267e894401281cafb436cebd9fd4902ff97d88a5e33fb62baa3adfc13"), looks := true }, kinds := [], alts := [], laidByText := true, laidKinds := [.data, .data, .data, .data, .data, .sentinel, .sentinel, .pinned], laidTests := true, laidLooks := .later }
def AsmChecksUptoCardSaid : Prop := Claim7.holds Tryz.pinned (.plain (OpenSpec.upto asmChecksSpec)) asmChecksUptoCard

/-- THE SECOND FORM's CARD OF 'replevinlaw17.AsmNames'. -/
def asmNamesUptoCard : Claim7 := { stood := { row := asmNamesUptoRow, standIns := [], harness := (true, "46b9c62267e894401281cafb436cebd9fd4902ff97d88a5e33fb62baa3adfc13"), looks := true }, kinds := [], alts := [], laidByText := true, laidKinds := [.data, .data, .data, .data, .data, .sentinel, .sentinel, .pinned], laidTests := true, laidLooks := .later }
def AsmNamesUptoCardSaid : Prop := Claim7.holds Tryz.pinned (.plain (OpenSpec.upto asmNamesSpec)) asmNamesUptoCard

/-- THE SECOND FORM's CARD OF 'replevinlaw17.AsmBlanks'. -/
def asmBlanksUptoCard : Claim7 := { stood := { row := asmBlanksUptoRow, standIns := [], harness := (true, "46b9c62267e894401281cafb436cebd9fd4902ff97d88a5e33fb62baa3adfc13"), looks := true }, kinds := [], alts := [], laidByText := true, laidKinds := [.data, .data, .data, .data, .data, .sentinel, .sentinel, .pinned], laidTests := true, laidLooks := .later }
def AsmBlanksUptoCardSaid : Prop := Claim7.holds Tryz.pinned (.plain (OpenSpec.upto asmBlanksSpec)) asmBlanksUptoCard

/-- THE SECOND FORM's CARD OF 'replevinlaw17.AsmEquals'. -/
def asmEqualsUptoCard : Claim7 := { stood := { row := asmEqualsUptoRow, standIns := [], harness := (true, "46b9c62267e894401281cafb436cebd9fd4902ff97d88a5e33fb62baa3adfc13"), looks := true }, kinds := [], alts := [], laidByText := true, laidKinds := [.data, .data, .data, .data, .data, .sentinel, .sentinel, .pinned], laidTests := true, laidLooks := .later }
def AsmEqualsUptoCardSaid : Prop := Claim7.holds Tryz.pinned (.plain (OpenSpec.upto asmEqualsSpec)) asmEqualsUptoCard

/-- THE SECOND FORM's CARD OF 'replevinlaw17.AsmQuotes'. -/
def asmQuotesUptoCard : Claim7 := { stood := { row := asmQuotesUptoRow, standIns := [], harness := (true, "46b9c62267e894401281cafb436cebd9fd4902ff97d88a5e33fb62baa3adfc13"), looks := true }, kinds := [], alts := [], laidByText := true, laidKinds := [.data, .data, .data, .data, .data, .sentinel, .sentinel, .pinned], laidTests := true, laidLooks := .later }
def AsmQuotesUptoCardSaid : Prop := Claim7.holds Tryz.pinned (.plain (OpenSpec.upto asmQuotesSpec)) asmQuotesUptoCard

/-- THE SECOND FORM's CARD OF 'replevinlaw17.AsmLines'. -/
def asmLinesUptoCard : Claim7 := { stood := { row := asmLinesUptoRow, standIns := [], harness := (true, "46b9c62267e894401281cafb436cebd9fd4902ff97d88a5e33fb62baa3adfc13"), looks := true }, kinds := [], alts := [], laidByText := true, laidKinds := [.data, .data, .data, .data, .data, .sentinel, .sentinel, .pinned], laidTests := true, laidLooks := .later }
def AsmLinesUptoCardSaid : Prop := Claim7.holds Tryz.pinned (.plain (OpenSpec.upto asmLinesSpec)) asmLinesUptoCard

/-- THE SECOND FORM's CARD OF 'replevinlaw17.AsmPrints'. -/
def asmPrintsUptoCard : Claim7 := { stood := { row := asmPrintsUptoRow, standIns := [], harness := (true, "46b9c62267e894401281cafb436cebd9fd4902ff97d88a5e33fb62baa3adfc13"), looks := true }, kinds := [], alts := [], laidByText := true, laidKinds := [.data, .data, .data, .data, .data, .sentinel, .sentinel, .pinned], laidTests := true, laidLooks := .later }
def AsmPrintsUptoCardSaid : Prop := Claim7.holds Tryz.pinned (.plain (OpenSpec.upto asmPrintsSpec)) asmPrintsUptoCard

/-- THE SECOND FORM's CARD OF 'replevinlaw17.AsmValid'. -/
def asmValidUptoCard : Claim7 := { stood := { row := asmValidUptoRow, standIns := [], harness := (true, "46b9c62267e894401281cafb436cebd9fd4902ff97d88a5e33fb62baa3adfc13"), looks := true }, kinds := [], alts := [], laidByText := true, laidKinds := [.data, .data, .data, .data, .data, .sentinel, .sentinel, .pinned], laidTests := true, laidLooks := .later }
def AsmValidUptoCardSaid : Prop := Claim7.holds Tryz.pinned (.plain (OpenSpec.upto asmValidSpec)) asmValidUptoCard
end Rows
end Go.Proofs.YteegmpghbhmekaaGreatDoor
