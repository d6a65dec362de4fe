/-
  DERIVED. GIVEN WITH THE SEED: THE CARDS: each row of YtbiopedpceddeaaGreatDoorRows.lean that lists a variable, with what it lists TIED to the program's text (the seventh form; the later family's looks); each row that meets fmt, with fmt's text TOLD by the authors' own Lean function (tested against real Go, not proved from fmt's source: count such statements apart). THE CARD IS WHAT COUNTS. Prove the row's statement (the work); the ties are given (YtbiopedpceddeaaGreatDoorTie.lean); close each card by the builder's one call (the guide's Derived/Test/ToyasCard.lean, 'card_holds'). Laid BY PROGRAM, IN A SANDBOX (cutbox-door.mjs). By AI agents, Wed Nov 11 2026. No macro, syntax, notation, axiom, sorry.
-/
import Derived.Test.YtbiopedpceddeaaGreatDoorRows
import GoSem.ClaimSeven
namespace Go.Proofs.YtbiopedpceddeaaGreatDoor
namespace Rows

/-- THE TIED CARD OF 'backstaylaw11.RuleValues'. -/
def ruleValuesCard : Claim7 := { stood := { row := ruleValuesRow, standIns := [], harness := (true, "129fe639cdc0f92df0948292d6e13e2e1a5eeb397f9856e57ce90d106835c796"), looks := true }, kinds := [], alts := [], laidByText := true, laidKinds := [.data], laidTests := true, laidLooks := .later }
def RuleValuesCardSaid : Prop := Claim7.holds Tryz.pinned (.plain (OpenSpec.ofChange ruleValuesSpec)) ruleValuesCard

/-- THE TIED CARD OF 'backstaylaw11.RuleKeys'. -/
def ruleKeysCard : Claim7 := { stood := { row := ruleKeysRow, standIns := [], harness := (true, "129fe639cdc0f92df0948292d6e13e2e1a5eeb397f9856e57ce90d106835c796"), looks := true }, kinds := [], alts := [], laidByText := true, laidKinds := [.data, .data, .data], laidTests := true, laidLooks := .later }
def RuleKeysCardSaid : Prop := Claim7.holds Tryz.pinned (.plain (OpenSpec.ofChange ruleKeysSpec)) ruleKeysCard

/-- THE TIED CARD OF 'backstaylaw26.KeepTexts'. -/
def keepTextsCard : Claim7 := { stood := { row := keepTextsRow, standIns := [], harness := (true, "129fe639cdc0f92df0948292d6e13e2e1a5eeb397f9856e57ce90d106835c796"), looks := true }, kinds := [], alts := [], laidByText := true, laidKinds := [.data, .data, .data, .data, .sentinel, .sentinel, .pinned], laidTests := true, laidLooks := .later }
def KeepTextsCardSaid : Prop := Claim7.holds Tryz.pinned (.plain (OpenSpec.ofChange keepTextsSpec)) keepTextsCard

/-- THE TIED CARD OF 'backstaylaw26.KeepParses'. -/
def keepParsesCard : Claim7 := { stood := { row := keepParsesRow, standIns := [], harness := (true, "129fe639cdc0f92df0948292d6e13e2e1a5eeb397f9856e57ce90d106835c796"), looks := true }, kinds := [], alts := [], laidByText := true, laidKinds := [.data, .data, .data, .data, .sentinel, .sentinel, .pinned], laidTests := true, laidLooks := .later }
def KeepParsesCardSaid : Prop := Claim7.holds Tryz.pinned (.plain (OpenSpec.ofChange keepParsesSpec)) keepParsesCard

/-- THE TIED CARD OF 'backstaylaw26.KeepSums'. -/
def keepSumsCard : Claim7 := { stood := { row := keepSumsRow, standIns := [], harness := (true, "129fe639cdc0f92df0948292d6e13e2e1a5eeb397f9856e57ce90d106835c796"), looks := true }, kinds := [], alts := [], laidByText := true, laidKinds := [.data, .data, .data, .data, .sentinel, .sentinel, .pinned], laidTests := true, laidLooks := .later }
def KeepSumsCardSaid : Prop := Claim7.holds Tryz.pinned (.plain (OpenSpec.ofChange keepSumsSpec)) keepSumsCard

/-- THE TIED CARD OF 'backstaylaw26.KeepWrites'. -/
def keepWritesCard : Claim7 := { stood := { row := keepWritesRow, standIns := [], harness := (true, "129fe639cdc0f92df0948292d6e13e2e1a5eeb397f9856e57ce90d106835c796"), looks := true }, kinds := [], alts := [], laidByText := true, laidKinds := [.data, .data, .data, .data, .sentinel, .sentinel, .pinned], laidTests := true, laidLooks := .later }
def KeepWritesCardSaid : Prop := Claim7.holds Tryz.pinned (.plain (OpenSpec.ofChange keepWritesSpec)) keepWritesCard

/-- THE TIED CARD OF 'backstaylaw26.KeepReads'. -/
def keepReadsCard : Claim7 := { stood := { row := keepReadsRow, standIns := [], harness := (true, "129fe639cdc0f92df0948292d6e13e2e1a5eeb397f9856e57ce90d106835c796"), looks := true }, kinds := [], alts := [], laidByText := true, laidKinds := [.data, .data, .data, .data, .sentinel, .sentinel, .pinned], laidTests := true, laidLooks := .later }
def KeepReadsCardSaid : Prop := Claim7.holds Tryz.pinned (.plain (OpenSpec.ofChange keepReadsSpec)) keepReadsCard

/-- THE TIED CARD OF 'backstaylaw26.KeepAdds'. -/
def keepAddsCard : Claim7 := { stood := { row := keepAddsRow, standIns := [], harness := (true, "129fe639cdc0f92df0948292d6e13e2e1a5eeb397f9856e57ce90d106835c796"), looks := true }, kinds := [], alts := [], laidByText := true, laidKinds := [.data, .data, .data, .data, .sentinel, .sentinel, .pinned], laidTests := true, laidLooks := .later }
def KeepAddsCardSaid : Prop := Claim7.holds Tryz.pinned (.plain (OpenSpec.ofChange keepAddsSpec)) keepAddsCard

/-- THE TIED CARD OF 'backstaylaw26.KeepTears'. -/
def keepTearsCard : Claim7 := { stood := { row := keepTearsRow, standIns := [], harness := (true, "129fe639cdc0f92df0948292d6e13e2e1a5eeb397f9856e57ce90d106835c796"), looks := true }, kinds := [], alts := [], laidByText := true, laidKinds := [.data, .data, .data, .data, .sentinel, .sentinel, .pinned], laidTests := true, laidLooks := .later }
def KeepTearsCardSaid : Prop := Claim7.holds Tryz.pinned (.plain (OpenSpec.ofChange keepTearsSpec)) keepTearsCard

/-- THE TIED CARD OF 'backstaylaw26.KeepMerges'. -/
def keepMergesCard : Claim7 := { stood := { row := keepMergesRow, standIns := [], harness := (true, "129fe639cdc0f92df0948292d6e13e2e1a5eeb397f9856e57ce90d106835c796"), looks := true }, kinds := [], alts := [], laidByText := true, laidKinds := [.data, .data, .data, .data, .sentinel, .sentinel, .pinned], laidTests := true, laidLooks := .later }
def KeepMergesCardSaid : Prop := Claim7.holds Tryz.pinned (.plain (OpenSpec.ofChange keepMergesSpec)) keepMergesCard

/-- THE SECOND FORM's CARD OF 'backstaylaw11.RuleValues'. -/
def ruleValuesUptoCard : Claim7 := { stood := { row := ruleValuesUptoRow, standIns := [], harness := (true, "129fe639cdc0f92df0948292d6e13e2e1a5eeb397f9856e57ce90d106835c796"), looks := true }, kinds := [], alts := [], laidByText := true, laidKinds := [.data], laidTests := true, laidLooks := .later }
def RuleValuesUptoCardSaid : Prop := Claim7.holds Tryz.pinned (.plain (OpenSpec.upto ruleValuesSpec)) ruleValuesUptoCard

/-- THE SECOND FORM's CARD OF 'backstaylaw11.RuleKeys'. -/
def ruleKeysUptoCard : Claim7 := { stood := { row := ruleKeysUptoRow, standIns := [], harness := (true, "129fe639cdc0f92df0948292d6e13e2e1a5eeb397f9856e57ce90d106835c796"), looks := true }, kinds := [], alts := [], laidByText := true, laidKinds := [.data, .data, .data], laidTests := true, laidLooks := .later }
def RuleKeysUptoCardSaid : Prop := Claim7.holds Tryz.pinned (.plain (OpenSpec.upto ruleKeysSpec)) ruleKeysUptoCard

/-- THE SECOND FORM's CARD OF 'backstaylaw26.KeepTexts'. -/
def keepTextsUptoCard : Claim7 := { stood := { row := keepTextsUptoRow, standIns := [], harness := (true, "129fe639cdc0f92df0948292d6e13e2e1a5eeb397f9856e57ce90d106835c796"), looks := true }, kinds := [], alts := [], laidByText := true, laidKinds := [.data, .data, .data, .data, .sentinel, .sentinel, .pinned], laidTests := true, laidLooks := .later }
def KeepTextsUptoCardSaid : Prop := Claim7.holds Tryz.pinned (.plain (OpenSpec.upto keepTextsSpec)) keepTextsUptoCard

/-- THE SECOND FORM's CARD OF 'backstaylaw26.KeepParses'. -/
def keepParsesUptoCard : Claim7 := { stood := { row := keepParsesUptoRow, standIns := [], harness := (true, "129fe639cdc0f92df0948292d6e13e2e1a5eeb397f9856e57ce90d106835c796"), looks := true }, kinds := [], alts := [], laidByText := true, laidKinds := [.data, .data, .data, .data, .sentinel, .sentinel, .pinned], laidTests := true, laidLooks := .later }
def KeepParsesUptoCardSaid : Prop := Claim7.holds Tryz.pinned (.plain (OpenSpec.upto keepParsesSpec)) keepParsesUptoCard

/-- THE SECOND FORM's CARD OF 'backstaylaw26.KeepSums'. -/
def keepSumsUptoCard : Claim7 := { stood := { row := keepSumsUptoRow, standIns := [], harness := (true, "129fe639cdc0f92df0948292d6e13e2e1a5eeb397f9856e57ce90d106835c796"), looks := true }, kinds := [], alts := [], laidByText := true, laidKinds := [.data, .data, .data, .data, .sentinel, .sentinel, .pinned], laidTests := true, laidLooks := .later }
def KeepSumsUptoCardSaid : Prop := Claim7.holds Tryz.pinned (.plain (OpenSpec.upto keepSumsSpec)) keepSumsUptoCard

/-- THE SECOND FORM's CARD OF 'backstaylaw26.KeepWrites'. -/
def keepWritesUptoCard : Claim7 := { stood := { row := keepWritesUptoRow, standIns := [], harness := (true, "129fe639cdc0f92df0948292d6e13e2e1a5eeb397f9856e57ce90d106835c796"), looks := true }, kinds := [], alts := [], laidByText := true, laidKinds := [.data, .data, .data, .data, .sentinel, .sentinel, .pinned], laidTests := true, laidLooks := .later }
def KeepWritesUptoCardSaid : Prop := Claim7.holds Tryz.pinned (.plain (OpenSpec.upto keepWritesSpec)) keepWritesUptoCard

/-- THE SECOND FORM's CARD OF 'backstaylaw26.KeepReads'. -/
def keepReadsUptoCard : Claim7 := { stood := { row := keepReadsUptoRow, standIns := [], harness := (true, "129fe639cdc0f92df0948292d6e13e2e1a5eeb397f9856e57ce90d106835c796"), looks := true }, kinds := [], alts := [], laidByText := true, laidKinds := [.data, .data, .data, .data, .sentinel, .sentinel, .pinned], laidTests := true, laidLooks := .later }
def KeepReadsUptoCardSaid : Prop := Claim7.holds Tryz.pinned (.plain (OpenSpec.upto keepReadsSpec)) keepReadsUptoCard

/-- THE SECOND FORM's CARD OF 'backstaylaw26.KeepAdds'. -/
def keepAddsUptoCard : Claim7 := { stood := { row := keepAddsUptoRow, standIns := [], harness := (true, "129fe639cdc0f92df0948292d6e13e2e1a5eeb397f9856e57ce90d106835c796"), looks := true }, kinds := [], alts := [], laidByText := true, laidKinds := [.data, .data, .data, .data, .sentinel, .sentinel, .pinned], laidTests := true, laidLooks := .later }
def KeepAddsUptoCardSaid : Prop := Claim7.holds Tryz.pinned (.plain (OpenSpec.upto keepAddsSpec)) keepAddsUptoCard

/-- THE SECOND FORM's CARD OF 'backstaylaw26.KeepTears'. -/
def keepTearsUptoCard : Claim7 := { stood := { row := keepTearsUptoRow, standIns := [], harness := (true, "129fe639cdc0f92df0948292d6e13e2e1a5eeb397f9856e57ce90d106835c796"), looks := true }, kinds := [], alts := [], laidByText := true, laidKinds := [.data, .data, .data, .data, .sentinel, .sentinel, .pinned], laidTests := true, laidLooks := .later }
def KeepTearsUptoCardSaid : Prop := Claim7.holds Tryz.pinned (.plain (OpenSpec.upto keepTearsSpec)) keepTearsUptoCard

/-- THE SECOND FORM's CARD OF 'backstaylaw26.KeepMerges'. -/
def keepMergesUptoCard : Claim7 := { stood := { row := keepMergesUptoRow, standIns := [], harness := (true, "129fe639cdc0f92df0948292d6e13e2e1a5eeb397f9856e57ce90d106835c796"), looks := true }, kinds := [], alts := [], laidByText := true, laidKinds := [.data, .data, .data, .data, .sentinel, .sentinel, .pinned], laidTests := true, laidLooks := .later }
def KeepMergesUptoCardSaid : Prop := Claim7.holds Tryz.pinned (.plain (OpenSpec.upto keepMergesSpec)) keepMergesUptoCard
end Rows
end Go.Proofs.YtbiopedpceddeaaGreatDoor
