/-
  DERIVED. GIVEN WITH THE SEED: THE CARDS: each row of YtmebpgggfppmhaaDoorRows.lean that lists a variable, with what it lists TIED to the program's text (the seventh form; the later family's looks); each row that meets fmt, with fmt's text TOLD by the authors' own Lean function (tested against real Go, not proved from fmt's source: count such statements apart). THE CARD IS WHAT COUNTS. Prove the row's statement (the work); the ties are given (YtmebpgggfppmhaaDoorTie.lean); close each card by the builder's one call (the guide's Derived/Test/ToyasCard.lean, 'card_holds'). Laid BY PROGRAM, IN A SANDBOX (cutbox-door.mjs). By AI agents, Wed Nov 11 2026. No macro, syntax, notation, axiom, sorry.
-/
import Derived.Test.YtmebpgggfppmhaaDoorRows
import GoSem.ClaimSeven
namespace Go.Proofs.YtmebpgggfppmhaaDoor
namespace Rows

/-- THE TIED CARD OF 'backstaylaw11.RuleRewrites'. -/
def ruleRewritesCard : Claim7 := { stood := { row := ruleRewritesRow, standIns := [], harness := (true, "cb977d3ec52faf4efd8ff65c33113a879df8dc1dd6e7cf72a2e808229e4ab0a6"), looks := false }, kinds := [], alts := [], laidByText := true, laidKinds := [.data], laidTests := true, laidLooks := .later }
def RuleRewritesCardSaid : Prop := Claim7.holds Tryd.pinned (.plain (OpenSpec.ofChange ruleRewritesSpec)) ruleRewritesCard

/-- THE TIED CARD OF 'backstaylaw11.RuleTurns'. -/
def ruleTurnsCard : Claim7 := { stood := { row := ruleTurnsRow, standIns := [], harness := (true, "cb977d3ec52faf4efd8ff65c33113a879df8dc1dd6e7cf72a2e808229e4ab0a6"), looks := false }, kinds := [], alts := [], laidByText := true, laidKinds := [.data], laidTests := true, laidLooks := .later }
def RuleTurnsCardSaid : Prop := Claim7.holds Tryd.pinned (.plain (OpenSpec.ofChange ruleTurnsSpec)) ruleTurnsCard

/-- THE TIED CARD OF 'backstaylaw11.RuleValidates'. -/
def ruleValidatesCard : Claim7 := { stood := { row := ruleValidatesRow, standIns := [], harness := (true, "cb977d3ec52faf4efd8ff65c33113a879df8dc1dd6e7cf72a2e808229e4ab0a6"), looks := false }, kinds := [], alts := [], laidByText := true, laidKinds := [.data], laidTests := true, laidLooks := .later }
def RuleValidatesCardSaid : Prop := Claim7.holds Tryd.pinned (.plain (OpenSpec.ofChange ruleValidatesSpec)) ruleValidatesCard

/-- THE TIED CARD OF 'backstaylaw11.RuleMatches'. -/
def ruleMatchesCard : Claim7 := { stood := { row := ruleMatchesRow, standIns := [], harness := (true, "cb977d3ec52faf4efd8ff65c33113a879df8dc1dd6e7cf72a2e808229e4ab0a6"), looks := false }, kinds := [], alts := [], laidByText := true, laidKinds := [.data], laidTests := true, laidLooks := .later }
def RuleMatchesCardSaid : Prop := Claim7.holds Tryd.pinned (.plain (OpenSpec.ofChange ruleMatchesSpec)) ruleMatchesCard

/-- THE TIED CARD OF 'backstaylaw11.RuleMeets'. -/
def ruleMeetsCard : Claim7 := { stood := { row := ruleMeetsRow, standIns := [], harness := (true, "cb977d3ec52faf4efd8ff65c33113a879df8dc1dd6e7cf72a2e808229e4ab0a6"), looks := false }, kinds := [], alts := [], laidByText := true, laidKinds := [.data], laidTests := true, laidLooks := .later }
def RuleMeetsCardSaid : Prop := Claim7.holds Tryd.pinned (.plain (OpenSpec.ofChange ruleMeetsSpec)) ruleMeetsCard

/-- THE TIED CARD OF 'backstaylaw11.RuleSides'. -/
def ruleSidesCard : Claim7 := { stood := { row := ruleSidesRow, standIns := [], harness := (true, "cb977d3ec52faf4efd8ff65c33113a879df8dc1dd6e7cf72a2e808229e4ab0a6"), looks := false }, kinds := [], alts := [], laidByText := true, laidKinds := [.data], laidTests := true, laidLooks := .later }
def RuleSidesCardSaid : Prop := Claim7.holds Tryd.pinned (.plain (OpenSpec.ofChange ruleSidesSpec)) ruleSidesCard

/-- THE TIED CARD OF 'backstaylaw11.RuleReturns'. -/
def ruleReturnsCard : Claim7 := { stood := { row := ruleReturnsRow, standIns := [], harness := (true, "cb977d3ec52faf4efd8ff65c33113a879df8dc1dd6e7cf72a2e808229e4ab0a6"), looks := false }, kinds := [], alts := [], laidByText := true, laidKinds := [.data], laidTests := true, laidLooks := .later }
def RuleReturnsCardSaid : Prop := Claim7.holds Tryd.pinned (.plain (OpenSpec.ofChange ruleReturnsSpec)) ruleReturnsCard

/-- THE SECOND FORM's CARD OF 'backstaylaw11.RuleRewrites'. -/
def ruleRewritesUptoCard : Claim7 := { stood := { row := ruleRewritesUptoRow, standIns := [], harness := (true, "cb977d3ec52faf4efd8ff65c33113a879df8dc1dd6e7cf72a2e808229e4ab0a6"), looks := false }, kinds := [], alts := [], laidByText := true, laidKinds := [.data], laidTests := true, laidLooks := .later }
def RuleRewritesUptoCardSaid : Prop := Claim7.holds Tryd.pinned (.plain (OpenSpec.upto ruleRewritesSpec)) ruleRewritesUptoCard

/-- THE SECOND FORM's CARD OF 'backstaylaw11.RuleTurns'. -/
def ruleTurnsUptoCard : Claim7 := { stood := { row := ruleTurnsUptoRow, standIns := [], harness := (true, "cb977d3ec52faf4efd8ff65c33113a879df8dc1dd6e7cf72a2e808229e4ab0a6"), looks := false }, kinds := [], alts := [], laidByText := true, laidKinds := [.data], laidTests := true, laidLooks := .later }
def RuleTurnsUptoCardSaid : Prop := Claim7.holds Tryd.pinned (.plain (OpenSpec.upto ruleTurnsSpec)) ruleTurnsUptoCard

/-- THE SECOND FORM's CARD OF 'backstaylaw11.RuleValidates'. -/
def ruleValidatesUptoCard : Claim7 := { stood := { row := ruleValidatesUptoRow, standIns := [], harness := (true, "cb977d3ec52faf4efd8ff65c33113a879df8dc1dd6e7cf72a2e808229e4ab0a6"), looks := false }, kinds := [], alts := [], laidByText := true, laidKinds := [.data], laidTests := true, laidLooks := .later }
def RuleValidatesUptoCardSaid : Prop := Claim7.holds Tryd.pinned (.plain (OpenSpec.upto ruleValidatesSpec)) ruleValidatesUptoCard

/-- THE SECOND FORM's CARD OF 'backstaylaw11.RuleMatches'. -/
def ruleMatchesUptoCard : Claim7 := { stood := { row := ruleMatchesUptoRow, standIns := [], harness := (true, "cb977d3ec52faf4efd8ff65c33113a879df8dc1dd6e7cf72a2e808229e4ab0a6"), looks := false }, kinds := [], alts := [], laidByText := true, laidKinds := [.data], laidTests := true, laidLooks := .later }
def RuleMatchesUptoCardSaid : Prop := Claim7.holds Tryd.pinned (.plain (OpenSpec.upto ruleMatchesSpec)) ruleMatchesUptoCard

/-- THE SECOND FORM's CARD OF 'backstaylaw11.RuleMeets'. -/
def ruleMeetsUptoCard : Claim7 := { stood := { row := ruleMeetsUptoRow, standIns := [], harness := (true, "cb977d3ec52faf4efd8ff65c33113a879df8dc1dd6e7cf72a2e808229e4ab0a6"), looks := false }, kinds := [], alts := [], laidByText := true, laidKinds := [.data], laidTests := true, laidLooks := .later }
def RuleMeetsUptoCardSaid : Prop := Claim7.holds Tryd.pinned (.plain (OpenSpec.upto ruleMeetsSpec)) ruleMeetsUptoCard

/-- THE SECOND FORM's CARD OF 'backstaylaw11.RuleSides'. -/
def ruleSidesUptoCard : Claim7 := { stood := { row := ruleSidesUptoRow, standIns := [], harness := (true, "cb977d3ec52faf4efd8ff65c33113a879df8dc1dd6e7cf72a2e808229e4ab0a6"), looks := false }, kinds := [], alts := [], laidByText := true, laidKinds := [.data], laidTests := true, laidLooks := .later }
def RuleSidesUptoCardSaid : Prop := Claim7.holds Tryd.pinned (.plain (OpenSpec.upto ruleSidesSpec)) ruleSidesUptoCard

/-- THE SECOND FORM's CARD OF 'backstaylaw11.RuleReturns'. -/
def ruleReturnsUptoCard : Claim7 := { stood := { row := ruleReturnsUptoRow, standIns := [], harness := (true, "cb977d3ec52faf4efd8ff65c33113a879df8dc1dd6e7cf72a2e808229e4ab0a6"), looks := false }, kinds := [], alts := [], laidByText := true, laidKinds := [.data], laidTests := true, laidLooks := .later }
def RuleReturnsUptoCardSaid : Prop := Claim7.holds Tryd.pinned (.plain (OpenSpec.upto ruleReturnsSpec)) ruleReturnsUptoCard
end Rows
end Go.Proofs.YtmebpgggfppmhaaDoor
