/-
  DERIVED. GIVEN WITH THE SEED: THE CARDS: each row of YtifjnoabmbckpaaGreatDoorRows.lean that lists a variable, with what it lists TIED to the program's text (the seventh form; the later family's looks); each row that meets fmt, with fmt's text TOLD by the authors' own Lean function (tested against real Go, not proved from fmt's source: count such statements apart). THE CARD IS WHAT COUNTS. Prove the row's statement (the work); the ties are given (YtifjnoabmbckpaaGreatDoorTie.lean); close each card by the builder's one call (the guide's Derived/Test/ToyasCard.lean, 'card_holds'). Laid BY PROGRAM, IN A SANDBOX (cutbox-door.mjs). By AI agents, Wed Nov 11 2026. No macro, syntax, notation, axiom, sorry.
-/
import Derived.Test.YtifjnoabmbckpaaGreatDoorRows
import GoSem.ClaimSeven
namespace Go.Proofs.YtifjnoabmbckpaaGreatDoor
namespace Rows

/-- THE TIED CARD OF 'replevinlaw22.SyntaxParses'. -/
def syntaxParsesCard : Claim7 := { stood := { row := syntaxParsesRow, standIns := [], harness := (true, "33e956df2d5ce3cb75580759504cd398b3a01fb9bb3cf05a8504fb1000d4ee27"), looks := false }, kinds := [], alts := [], laidByText := true, laidKinds := [.data, .data, .data, .data], laidTests := true, laidLooks := .later }
def SyntaxParsesCardSaid : Prop := Claim7.holds Tryz.pinned (.plain (OpenSpec.ofChange syntaxParsesSpec)) syntaxParsesCard

/-- THE TIED CARD OF 'replevinlaw22.SyntaxChecks'. -/
def syntaxChecksCard : Claim7 := { stood := { row := syntaxChecksRow, standIns := [], harness := (true, "33e956df2d5ce3cb75580759504cd398b3a01fb9bb3cf05a8504fb1000d4ee27"), looks := false }, kinds := [], alts := [], laidByText := true, laidKinds := [.data, .data, .data, .data], laidTests := true, laidLooks := .later }
def SyntaxChecksCardSaid : Prop := Claim7.holds Tryz.pinned (.plain (OpenSpec.ofChange syntaxChecksSpec)) syntaxChecksCard

/-- THE TIED CARD OF 'replevinlaw22.SyntaxExpressions'. -/
def syntaxExpressionsCard : Claim7 := { stood := { row := syntaxExpressionsRow, standIns := [], harness := (true, "33e956df2d5ce3cb75580759504cd398b3a01fb9bb3cf05a8504fb1000d4ee27"), looks := false }, kinds := [], alts := [], laidByText := true, laidKinds := [.data, .data, .data, .data], laidTests := true, laidLooks := .later }
def SyntaxExpressionsCardSaid : Prop := Claim7.holds Tryz.pinned (.plain (OpenSpec.ofChange syntaxExpressionsSpec)) syntaxExpressionsCard

/-- THE TIED CARD OF 'replevinlaw22.SyntaxNests'. -/
def syntaxNestsCard : Claim7 := { stood := { row := syntaxNestsRow, standIns := [], harness := (true, "33e956df2d5ce3cb75580759504cd398b3a01fb9bb3cf05a8504fb1000d4ee27"), looks := false }, kinds := [], alts := [], laidByText := true, laidKinds := [.data, .data, .data, .data], laidTests := true, laidLooks := .later }
def SyntaxNestsCardSaid : Prop := Claim7.holds Tryz.pinned (.plain (OpenSpec.ofChange syntaxNestsSpec)) syntaxNestsCard

/-- THE TIED CARD OF 'replevinlaw22.SyntaxWords'. -/
def syntaxWordsCard : Claim7 := { stood := { row := syntaxWordsRow, standIns := [], harness := (true, "33e956df2d5ce3cb75580759504cd398b3a01fb9bb3cf05a8504fb1000d4ee27"), looks := false }, kinds := [], alts := [], laidByText := true, laidKinds := [.data, .data, .data, .data], laidTests := true, laidLooks := .later }
def SyntaxWordsCardSaid : Prop := Claim7.holds Tryz.pinned (.plain (OpenSpec.ofChange syntaxWordsSpec)) syntaxWordsCard

/-- THE TIED CARD OF 'replevinlaw22.SyntaxLimits'. -/
def syntaxLimitsCard : Claim7 := { stood := { row := syntaxLimitsRow, standIns := [], harness := (true, "33e956df2d5ce3cb75580759504cd398b3a01fb9bb3cf05a8504fb1000d4ee27"), looks := false }, kinds := [], alts := [], laidByText := true, laidKinds := [.data, .data, .data, .data], laidTests := true, laidLooks := .later }
def SyntaxLimitsCardSaid : Prop := Claim7.holds Tryz.pinned (.plain (OpenSpec.ofChange syntaxLimitsSpec)) syntaxLimitsCard

/-- THE TIED CARD OF 'replevinlaw22.SyntaxStrings'. -/
def syntaxStringsCard : Claim7 := { stood := { row := syntaxStringsRow, standIns := [], harness := (true, "33e956df2d5ce3cb75580759504cd398b3a01fb9bb3cf05a8504fb1000d4ee27"), looks := false }, kinds := [], alts := [], laidByText := true, laidKinds := [.data, .data, .data, .data], laidTests := true, laidLooks := .later }
def SyntaxStringsCardSaid : Prop := Claim7.holds Tryz.pinned (.plain (OpenSpec.ofChange syntaxStringsSpec)) syntaxStringsCard

/-- THE TIED CARD OF 'replevinlaw22.SyntaxBlanks'. -/
def syntaxBlanksCard : Claim7 := { stood := { row := syntaxBlanksRow, standIns := [], harness := (true, "33e956df2d5ce3cb75580759504cd398b3a01fb9bb3cf05a8504fb1000d4ee27"), looks := false }, kinds := [], alts := [], laidByText := true, laidKinds := [.data, .data, .data, .data], laidTests := true, laidLooks := .later }
def SyntaxBlanksCardSaid : Prop := Claim7.holds Tryz.pinned (.plain (OpenSpec.ofChange syntaxBlanksSpec)) syntaxBlanksCard

/-- THE TIED CARD OF 'replevinlaw22.SyntaxSames'. -/
def syntaxSamesCard : Claim7 := { stood := { row := syntaxSamesRow, standIns := [], harness := (true, "33e956df2d5ce3cb75580759504cd398b3a01fb9bb3cf05a8504fb1000d4ee27"), looks := false }, kinds := [], alts := [], laidByText := true, laidKinds := [.data, .data, .data, .data], laidTests := true, laidLooks := .later }
def SyntaxSamesCardSaid : Prop := Claim7.holds Tryz.pinned (.plain (OpenSpec.ofChange syntaxSamesSpec)) syntaxSamesCard

/-- THE TIED CARD OF 'replevinlaw22.SyntaxPrints'. -/
def syntaxPrintsCard : Claim7 := { stood := { row := syntaxPrintsRow, standIns := [], harness := (true, "33e956df2d5ce3cb75580759504cd398b3a01fb9bb3cf05a8504fb1000d4ee27"), looks := false }, kinds := [], alts := [], laidByText := true, laidKinds := [.data, .data, .data, .data], laidTests := true, laidLooks := .later }
def SyntaxPrintsCardSaid : Prop := Claim7.holds Tryz.pinned (.plain (OpenSpec.ofChange syntaxPrintsSpec)) syntaxPrintsCard

/-- THE SECOND FORM's CARD OF 'replevinlaw22.SyntaxParses'. -/
def syntaxParsesUptoCard : Claim7 := { stood := { row := syntaxParsesUptoRow, standIns := [], harness := (true, "33e956df2d5ce3cb75580759504cd398b3a01fb9bb3cf05a8504fb1000d4ee27"), looks := false }, kinds := [], alts := [], laidByText := true, laidKinds := [.data, .data, .data, .data], laidTests := true, laidLooks := .later }
def SyntaxParsesUptoCardSaid : Prop := Claim7.holds Tryz.pinned (.plain (OpenSpec.upto syntaxParsesSpec)) syntaxParsesUptoCard

/-- THE SECOND FORM's CARD OF 'replevinlaw22.SyntaxChecks'. -/
def syntaxChecksUptoCard : Claim7 := { stood := { row := syntaxChecksUptoRow, standIns := [], harness := (true, "33e956df2d5ce3cb75580759504cd398b3a01fb9bb3cf05a8504fb1000d4ee27"), looks := false }, kinds := [], alts := [], laidByText := true, laidKinds := [.data, .data, .data, .data], laidTests := true, laidLooks := .later }
def SyntaxChecksUptoCardSaid : Prop := Claim7.holds Tryz.pinned (.plain (OpenSpec.upto syntaxChecksSpec)) syntaxChecksUptoCard

/-- THE SECOND FORM's CARD OF 'replevinlaw22.SyntaxExpressions'. -/
def syntaxExpressionsUptoCard : Claim7 := { stood := { row := syntaxExpressionsUptoRow, standIns := [], harness := (true, "33e956df2d5ce3cb75580759504cd398b3a01fb9bb3cf05a8504fb1000d4ee27"), looks := false }, kinds := [], alts := [], laidByText := true, laidKinds := [.data, .data, .data, .data], laidTests := true, laidLooks := .later }
def SyntaxExpressionsUptoCardSaid : Prop := Claim7.holds Tryz.pinned (.plain (OpenSpec.upto syntaxExpressionsSpec)) syntaxExpressionsUptoCard

/-- THE SECOND FORM's CARD OF 'replevinlaw22.SyntaxNests'. -/
def syntaxNestsUptoCard : Claim7 := { stood := { row := syntaxNestsUptoRow, standIns := [], harness := (true, "33e956df2d5ce3cb75580759504cd398b3a01fb9bb3cf05a8504fb1000d4ee27"), looks := false }, kinds := [], alts := [], laidByText := true, laidKinds := [.data, .data, .data, .data], laidTests := true, laidLooks := .later }
def SyntaxNestsUptoCardSaid : Prop := Claim7.holds Tryz.pinned (.plain (OpenSpec.upto syntaxNestsSpec)) syntaxNestsUptoCard

/-- THE SECOND FORM's CARD OF 'replevinlaw22.SyntaxWords'. -/
def syntaxWordsUptoCard : Claim7 := { stood := { row := syntaxWordsUptoRow, standIns := [], harness := (true, "33e956df2d5ce3cb75580759504cd398b3a01fb9bb3cf05a8504fb1000d4ee27"), looks := false }, kinds := [], alts := [], laidByText := true, laidKinds := [.data, .data, .data, .data], laidTests := true, laidLooks := .later }
def SyntaxWordsUptoCardSaid : Prop := Claim7.holds Tryz.pinned (.plain (OpenSpec.upto syntaxWordsSpec)) syntaxWordsUptoCard

/-- THE SECOND FORM's CARD OF 'replevinlaw22.SyntaxLimits'. -/
def syntaxLimitsUptoCard : Claim7 := { stood := { row := syntaxLimitsUptoRow, standIns := [], harness := (true, "33e956df2d5ce3cb75580759504cd398b3a01fb9bb3cf05a8504fb1000d4ee27"), looks := false }, kinds := [], alts := [], laidByText := true, laidKinds := [.data, .data, .data, .data], laidTests := true, laidLooks := .later }
def SyntaxLimitsUptoCardSaid : Prop := Claim7.holds Tryz.pinned (.plain (OpenSpec.upto syntaxLimitsSpec)) syntaxLimitsUptoCard

/-- THE SECOND FORM's CARD OF 'replevinlaw22.SyntaxStrings'. -/
def syntaxStringsUptoCard : Claim7 := { stood := { row := syntaxStringsUptoRow, standIns := [], harness := (true, "33e956df2d5ce3cb75580759504cd398b3a01fb9bb3cf05a8504fb1000d4ee27"), looks := false }, kinds := [], alts := [], laidByText := true, laidKinds := [.data, .data, .data, .data], laidTests := true, laidLooks := .later }
def SyntaxStringsUptoCardSaid : Prop := Claim7.holds Tryz.pinned (.plain (OpenSpec.upto syntaxStringsSpec)) syntaxStringsUptoCard

/-- THE SECOND FORM's CARD OF 'replevinlaw22.SyntaxBlanks'. -/
def syntaxBlanksUptoCard : Claim7 := { stood := { row := syntaxBlanksUptoRow, standIns := [], harness := (true, "33e956df2d5ce3cb75580759504cd398b3a01fb9bb3cf05a8504fb1000d4ee27"), looks := false }, kinds := [], alts := [], laidByText := true, laidKinds := [.data, .data, .data, .data], laidTests := true, laidLooks := .later }
def SyntaxBlanksUptoCardSaid : Prop := Claim7.holds Tryz.pinned (.plain (OpenSpec.upto syntaxBlanksSpec)) syntaxBlanksUptoCard

/-- THE SECOND FORM's CARD OF 'replevinlaw22.SyntaxSames'. -/
def syntaxSamesUptoCard : Claim7 := { stood := { row := syntaxSamesUptoRow, standIns := [], harness := (true, "33e956df2d5ce3cb75580759504cd398b3a01fb9bb3cf05a8504fb1000d4ee27"), looks := false }, kinds := [], alts := [], laidByText := true, laidKinds := [.data, .data, .data, .data], laidTests := true, laidLooks := .later }
def SyntaxSamesUptoCardSaid : Prop := Claim7.holds Tryz.pinned (.plain (OpenSpec.upto syntaxSamesSpec)) syntaxSamesUptoCard

/-- THE SECOND FORM's CARD OF 'replevinlaw22.SyntaxPrints'. -/
def syntaxPrintsUptoCard : Claim7 := { stood := { row := syntaxPrintsUptoRow, standIns := [], harness := (true, "33e956df2d5ce3cb75580759504cd398b3a01fb9bb3cf05a8504fb1000d4ee27"), looks := false }, kinds := [], alts := [], laidByText := true, laidKinds := [.data, .data, .data, .data], laidTests := true, laidLooks := .later }
def SyntaxPrintsUptoCardSaid : Prop := Claim7.holds Tryz.pinned (.plain (OpenSpec.upto syntaxPrintsSpec)) syntaxPrintsUptoCard
end Rows
end Go.Proofs.YtifjnoabmbckpaaGreatDoor
