/-
  DERIVED. GIVEN WITH THE SEED: THE CARDS: each row of YtejeplcandhgdaaDoorRows.lean that lists a variable, with what it lists TIED to the program's text (the seventh form; the later family's looks); each row that meets fmt, with fmt's text TOLD by the authors' own Lean function (tested against real Go, not proved from fmt's source: count such statements apart). THE CARD IS WHAT COUNTS. Prove the row's statement (the work); the ties are given (YtejeplcandhgdaaDoorTie.lean); close each card by the builder's one call (the guide's Derived/Test/ToyasCard.lean, 'card_holds'). Laid BY PROGRAM, IN A SANDBOX (cutbox-door.mjs). By AI agents, Wed Nov 11 2026. No macro, syntax, notation, axiom, sorry.
-/
import Derived.Test.YtejeplcandhgdaaDoorRows
import GoSem.ClaimSeven
namespace Go.Proofs.YtejeplcandhgdaaDoor
namespace Rows

/-- THE TIED CARD OF 'reticentlaw24.MutantDiffers'. -/
def mutantDiffersCard : Claim7 := { stood := { row := mutantDiffersRow, standIns := [], harness := (true, "b2a7901bf1b36a4510647d84a877aa01b88292d1fbf9323311f7666bec0d9c4d"), looks := true }, kinds := [], alts := [], laidByText := true, laidKinds := [.data], laidTests := true, laidLooks := .later }
def MutantDiffersCardSaid : Prop := Claim7.holds Tryd.pinned (.plain (OpenSpec.ofChange mutantDiffersSpec)) mutantDiffersCard

/-- THE TIED CARD OF 'reticentlaw08.CodeReads'. -/
def codeReadsCard : Claim7 := { stood := { row := codeReadsRow, standIns := [], harness := (true, "b2a7901bf1b36a4510647d84a877aa01b88292d1fbf9323311f7666bec0d9c4d"), looks := true }, kinds := [], alts := [], laidByText := true, laidKinds := [.widerDeep], laidTests := true, laidLooks := .later }
def CodeReadsCardSaid : Prop := Claim7.holds Tryd.pinned (.plain (OpenSpec.ofChange codeReadsSpec)) codeReadsCard

/-- THE TIED CARD OF 'reticentlaw06.TableNames'. -/
def tableNamesCard : Claim7 := { stood := { row := tableNamesRow, standIns := [], harness := (true, "b2a7901bf1b36a4510647d84a877aa01b88292d1fbf9323311f7666bec0d9c4d"), looks := true }, kinds := [], alts := [], laidByText := true, laidKinds := [.widerDeep, .data], laidTests := true, laidLooks := .later }
def TableNamesCardSaid : Prop := Claim7.holds Tryd.pinned (.plain (OpenSpec.ofChange tableNamesSpec)) tableNamesCard

/-- THE TIED CARD OF 'reticentlaw10.StepRules'. -/
def stepRulesCard : Claim7 := { stood := { row := stepRulesRow, standIns := [], harness := (true, "b2a7901bf1b36a4510647d84a877aa01b88292d1fbf9323311f7666bec0d9c4d"), looks := true }, kinds := [], alts := [], laidByText := true, laidKinds := [.data], laidTests := true, laidLooks := .later }
def StepRulesCardSaid : Prop := Claim7.holds Tryd.pinned (.plain (OpenSpec.ofChange stepRulesSpec)) stepRulesCard

/-- THE TIED CARD OF 'reticentlaw10.StepStays'. -/
def stepStaysCard : Claim7 := { stood := { row := stepStaysRow, standIns := [], harness := (true, "b2a7901bf1b36a4510647d84a877aa01b88292d1fbf9323311f7666bec0d9c4d"), looks := true }, kinds := [], alts := [], laidByText := true, laidKinds := [.data], laidTests := true, laidLooks := .later }
def StepStaysCardSaid : Prop := Claim7.holds Tryd.pinned (.plain (OpenSpec.ofChange stepStaysSpec)) stepStaysCard

/-- THE TIED CARD OF 'reticentlaw06.TableBack'. -/
def tableBackCard : Claim7 := { stood := { row := tableBackRow, standIns := [], harness := (true, "b2a7901bf1b36a4510647d84a877aa01b88292d1fbf9323311f7666bec0d9c4d"), looks := true }, kinds := [], alts := [], laidByText := true, laidKinds := [.widerDeep, .data], laidTests := true, laidLooks := .later }
def TableBackCardSaid : Prop := Claim7.holds Tryd.pinned (.plain (OpenSpec.ofChange tableBackSpec)) tableBackCard

/-- THE TIED CARD OF 'reticentlaw11.RunParts'. -/
def runPartsCard : Claim7 := { stood := { row := runPartsRow, standIns := [], harness := (true, "b2a7901bf1b36a4510647d84a877aa01b88292d1fbf9323311f7666bec0d9c4d"), looks := true }, kinds := [], alts := [], laidByText := true, laidKinds := [.data], laidTests := true, laidLooks := .later }
def RunPartsCardSaid : Prop := Claim7.holds Tryd.pinned (.plain (OpenSpec.ofChange runPartsSpec)) runPartsCard

/-- THE TIED CARD OF 'reticentlaw08.CodeBack'. -/
def codeBackCard : Claim7 := { stood := { row := codeBackRow, standIns := [], harness := (true, "b2a7901bf1b36a4510647d84a877aa01b88292d1fbf9323311f7666bec0d9c4d"), looks := true }, kinds := [], alts := [], laidByText := true, laidKinds := [.data, .data, .data, .widerDeep], laidTests := true, laidLooks := .later }
def CodeBackCardSaid : Prop := Claim7.holds Tryd.pinned (.plain (OpenSpec.ofChange codeBackSpec)) codeBackCard

/-- THE SECOND FORM's CARD OF 'reticentlaw24.MutantDiffers'. -/
def mutantDiffersUptoCard : Claim7 := { stood := { row := mutantDiffersUptoRow, standIns := [], harness := (true, "b2a7901bf1b36a4510647d84a877aa01b88292d1fbf9323311f7666bec0d9c4d"), looks := true }, kinds := [], alts := [], laidByText := true, laidKinds := [.data], laidTests := true, laidLooks := .later }
def MutantDiffersUptoCardSaid : Prop := Claim7.holds Tryd.pinned (.plain (OpenSpec.upto mutantDiffersSpec)) mutantDiffersUptoCard

/-- THE SECOND FORM's CARD OF 'reticentlaw08.CodeReads'. -/
def codeReadsUptoCard : Claim7 := { stood := { row := codeReadsUptoRow, standIns := [], harness := (true, "b2a7901bf1b36a4510647d84a877aa01b88292d1fbf9323311f7666bec0d9c4d"), looks := true }, kinds := [], alts := [], laidByText := true, laidKinds := [.widerDeep], laidTests := true, laidLooks := .later }
def CodeReadsUptoCardSaid : Prop := Claim7.holds Tryd.pinned (.plain (OpenSpec.upto codeReadsSpec)) codeReadsUptoCard

/-- THE SECOND FORM's CARD OF 'reticentlaw06.TableNames'. -/
def tableNamesUptoCard : Claim7 := { stood := { row := tableNamesUptoRow, standIns := [], harness := (true, "b2a7901bf1b36a4510647d84a877aa01b88292d1fbf9323311f7666bec0d9c4d"), looks := true }, kinds := [], alts := [], laidByText := true, laidKinds := [.widerDeep, .data], laidTests := true, laidLooks := .later }
def TableNamesUptoCardSaid : Prop := Claim7.holds Tryd.pinned (.plain (OpenSpec.upto tableNamesSpec)) tableNamesUptoCard

/-- THE SECOND FORM's CARD OF 'reticentlaw10.StepRules'. -/
def stepRulesUptoCard : Claim7 := { stood := { row := stepRulesUptoRow, standIns := [], harness := (true, "b2a7901bf1b36a4510647d84a877aa01b88292d1fbf9323311f7666bec0d9c4d"), looks := true }, kinds := [], alts := [], laidByText := true, laidKinds := [.data], laidTests := true, laidLooks := .later }
def StepRulesUptoCardSaid : Prop := Claim7.holds Tryd.pinned (.plain (OpenSpec.upto stepRulesSpec)) stepRulesUptoCard

/-- THE SECOND FORM's CARD OF 'reticentlaw10.StepStays'. -/
def stepStaysUptoCard : Claim7 := { stood := { row := stepStaysUptoRow, standIns := [], harness := (true, "b2a7901bf1b36a4510647d84a877aa01b88292d1fbf9323311f7666bec0d9c4d"), looks := true }, kinds := [], alts := [], laidByText := true, laidKinds := [.data], laidTests := true, laidLooks := .later }
def StepStaysUptoCardSaid : Prop := Claim7.holds Tryd.pinned (.plain (OpenSpec.upto stepStaysSpec)) stepStaysUptoCard

/-- THE SECOND FORM's CARD OF 'reticentlaw06.TableBack'. -/
def tableBackUptoCard : Claim7 := { stood := { row := tableBackUptoRow, standIns := [], harness := (true, "b2a7901bf1b36a4510647d84a877aa01b88292d1fbf9323311f7666bec0d9c4d"), looks := true }, kinds := [], alts := [], laidByText := true, laidKinds := [.widerDeep, .data], laidTests := true, laidLooks := .later }
def TableBackUptoCardSaid : Prop := Claim7.holds Tryd.pinned (.plain (OpenSpec.upto tableBackSpec)) tableBackUptoCard

/-- THE SECOND FORM's CARD OF 'reticentlaw11.RunParts'. -/
def runPartsUptoCard : Claim7 := { stood := { row := runPartsUptoRow, standIns := [], harness := (true, "b2a7901bf1b36a4510647d84a877aa01b88292d1fbf9323311f7666bec0d9c4d"), looks := true }, kinds := [], alts := [], laidByText := true, laidKinds := [.data], laidTests := true, laidLooks := .later }
def RunPartsUptoCardSaid : Prop := Claim7.holds Tryd.pinned (.plain (OpenSpec.upto runPartsSpec)) runPartsUptoCard

/-- THE SECOND FORM's CARD OF 'reticentlaw08.CodeBack'. -/
def codeBackUptoCard : Claim7 := { stood := { row := codeBackUptoRow, standIns := [], harness := (true, "b2a7901bf1b36a4510647d84a877aa01b88292d1fbf9323311f7666bec0d9c4d"), looks := true }, kinds := [], alts := [], laidByText := true, laidKinds := [.data, .data, .data, .widerDeep], laidTests := true, laidLooks := .later }
def CodeBackUptoCardSaid : Prop := Claim7.holds Tryd.pinned (.plain (OpenSpec.upto codeBackSpec)) codeBackUptoCard
end Rows
end Go.Proofs.YtejeplcandhgdaaDoor
