/-
  DERIVED. GIVEN WITH THE SEED: THE CARDS: each row of YtimfbibaoppfcaaGreatDoorRows.lean that lists a variable, with what it lists TIED to the program's text (the seventh form; the later family's looks); each row that meets fmt, with fmt's text TOLD by the authors' own Lean function (tested against real Go, not proved from fmt's source: count such statements apart). THE CARD IS WHAT COUNTS. Prove the row's statement (the work); the ties are given (YtimfbibaoppfcaaGreatDoorTie.lean); close each card by the builder's one call (the guide's Derived/Test/ToyasCard.lean, 'card_holds'). Laid BY PROGRAM, IN A SANDBOX (cutbox-door.mjs). By AI agents, Wed Nov 11 2026. No macro, syntax, notation, axiom, sorry.
-/
import Derived.Test.YtimfbibaoppfcaaGreatDoorRows
import GoSem.ClaimSeven
namespace Go.Proofs.YtimfbibaoppfcaaGreatDoor
namespace Rows

/-- THE TIED CARD OF 'pagewatchlaw28.AnswerCodes'. -/
def answerCodesCard : Claim7 := { stood := { row := answerCodesRow, standIns := [], harness := (true, "ddfe7f11466df766bc8e385012723adffd3c62b70344b62bfc92a1e8fc58ff64"), looks := true }, kinds := [], alts := [], laidByText := true, laidKinds := [.data, .data, .data, .data, .sentinel, .sentinel, .pinned], laidTests := true, laidLooks := .later }
def AnswerCodesCardSaid : Prop := Claim7.holds Tryz.pinned (.plain (OpenSpec.ofChange answerCodesSpec)) answerCodesCard

/-- THE TIED CARD OF 'pagewatchlaw28.AnswerTexts'. -/
def answerTextsCard : Claim7 := { stood := { row := answerTextsRow, standIns := [], harness := (true, "ddfe7f11466df766bc8e385012723adffd3c62b70344b62bfc92a1e8fc58ff64"), looks := true }, kinds := [], alts := [], laidByText := true, laidKinds := [.data, .data, .data, .data, .sentinel, .sentinel, .pinned], laidTests := true, laidLooks := .later }
def AnswerTextsCardSaid : Prop := Claim7.holds Tryz.pinned (.plain (OpenSpec.ofChange answerTextsSpec)) answerTextsCard

/-- THE TIED CARD OF 'pagewatchlaw28.AnswerBack'. -/
def answerBackCard : Claim7 := { stood := { row := answerBackRow, standIns := [], harness := (true, "ddfe7f11466df766bc8e385012723adffd3c62b70344b62bfc92a1e8fc58ff64"), looks := true }, kinds := [], alts := [], laidByText := true, laidKinds := [.data, .data, .data, .data, .sentinel, .sentinel, .pinned], laidTests := true, laidLooks := .later }
def AnswerBackCardSaid : Prop := Claim7.holds Tryz.pinned (.plain (OpenSpec.ofChange answerBackSpec)) answerBackCard

/-- THE TIED CARD OF 'pagewatchlaw28.AnswerLists'. -/
def answerListsCard : Claim7 := { stood := { row := answerListsRow, standIns := [], harness := (true, "ddfe7f11466df766bc8e385012723adffd3c62b70344b62bfc92a1e8fc58ff64"), looks := true }, kinds := [], alts := [], laidByText := true, laidKinds := [.data, .data, .data, .data, .sentinel, .sentinel, .pinned], laidTests := true, laidLooks := .later }
def AnswerListsCardSaid : Prop := Claim7.holds Tryz.pinned (.plain (OpenSpec.ofChange answerListsSpec)) answerListsCard

/-- THE TIED CARD OF 'pagewatchlaw28.AnswerOrders'. -/
def answerOrdersCard : Claim7 := { stood := { row := answerOrdersRow, standIns := [], harness := (true, "ddfe7f11466df766bc8e385012723adffd3c62b70344b62bfc92a1e8fc58ff64"), looks := true }, kinds := [], alts := [], laidByText := true, laidKinds := [.data, .data, .data, .data, .sentinel, .sentinel, .pinned], laidTests := true, laidLooks := .later }
def AnswerOrdersCardSaid : Prop := Claim7.holds Tryz.pinned (.plain (OpenSpec.ofChange answerOrdersSpec)) answerOrdersCard

/-- THE TIED CARD OF 'pagewatchlaw25.PolicyBack'. -/
def policyBackCard : Claim7 := { stood := { row := policyBackRow, standIns := [], harness := (true, "ddfe7f11466df766bc8e385012723adffd3c62b70344b62bfc92a1e8fc58ff64"), looks := true }, kinds := [], alts := [], laidByText := true, laidKinds := [.data, .data, .data, .data, .sentinel, .sentinel, .pinned], laidTests := true, laidLooks := .later }
def PolicyBackCardSaid : Prop := Claim7.holds Tryz.pinned (.plain (OpenSpec.ofChange policyBackSpec)) policyBackCard

/-- THE SECOND FORM's CARD OF 'pagewatchlaw28.AnswerCodes'. -/
def answerCodesUptoCard : Claim7 := { stood := { row := answerCodesUptoRow, standIns := [], harness := (true, "ddfe7f11466df766bc8e385012723adffd3c62b70344b62bfc92a1e8fc58ff64"), looks := true }, kinds := [], alts := [], laidByText := true, laidKinds := [.data, .data, .data, .data, .sentinel, .sentinel, .pinned], laidTests := true, laidLooks := .later }
def AnswerCodesUptoCardSaid : Prop := Claim7.holds Tryz.pinned (.plain (OpenSpec.upto answerCodesSpec)) answerCodesUptoCard

/-- THE SECOND FORM's CARD OF 'pagewatchlaw28.AnswerTexts'. -/
def answerTextsUptoCard : Claim7 := { stood := { row := answerTextsUptoRow, standIns := [], harness := (true, "ddfe7f11466df766bc8e385012723adffd3c62b70344b62bfc92a1e8fc58ff64"), looks := true }, kinds := [], alts := [], laidByText := true, laidKinds := [.data, .data, .data, .data, .sentinel, .sentinel, .pinned], laidTests := true, laidLooks := .later }
def AnswerTextsUptoCardSaid : Prop := Claim7.holds Tryz.pinned (.plain (OpenSpec.upto answerTextsSpec)) answerTextsUptoCard

/-- THE SECOND FORM's CARD OF 'pagewatchlaw28.AnswerBack'. -/
def answerBackUptoCard : Claim7 := { stood := { row := answerBackUptoRow, standIns := [], harness := (true, "ddfe7f11466df766bc8e385012723adffd3c62b70344b62bfc92a1e8fc58ff64"), looks := true }, kinds := [], alts := [], laidByText := true, laidKinds := [.data, .data, .data, .data, .sentinel, .sentinel, .pinned], laidTests := true, laidLooks := .later }
def AnswerBackUptoCardSaid : Prop := Claim7.holds Tryz.pinned (.plain (OpenSpec.upto answerBackSpec)) answerBackUptoCard

/-- THE SECOND FORM's CARD OF 'pagewatchlaw28.AnswerLists'. -/
def answerListsUptoCard : Claim7 := { stood := { row := answerListsUptoRow, standIns := [], harness := (true, "ddfe7f11466df766bc8e385012723adffd3c62b70344b62bfc92a1e8fc58ff64"), looks := true }, kinds := [], alts := [], laidByText := true, laidKinds := [.data, .data, .data, .data, .sentinel, .sentinel, .pinned], laidTests := true, laidLooks := .later }
def AnswerListsUptoCardSaid : Prop := Claim7.holds Tryz.pinned (.plain (OpenSpec.upto answerListsSpec)) answerListsUptoCard

/-- THE SECOND FORM's CARD OF 'pagewatchlaw28.AnswerOrders'. -/
def answerOrdersUptoCard : Claim7 := { stood := { row := answerOrdersUptoRow, standIns := [], harness := (true, "ddfe7f11466df766bc8e385012723adffd3c62b70344b62bfc92a1e8fc58ff64"), looks := true }, kinds := [], alts := [], laidByText := true, laidKinds := [.data, .data, .data, .data, .sentinel, .sentinel, .pinned], laidTests := true, laidLooks := .later }
def AnswerOrdersUptoCardSaid : Prop := Claim7.holds Tryz.pinned (.plain (OpenSpec.upto answerOrdersSpec)) answerOrdersUptoCard

/-- THE SECOND FORM's CARD OF 'pagewatchlaw25.PolicyBack'. -/
def policyBackUptoCard : Claim7 := { stood := { row := policyBackUptoRow, standIns := [], harness := (true, "ddfe7f11466df766bc8e385012723adffd3c62b70344b62bfc92a1e8fc58ff64"), looks := true }, kinds := [], alts := [], laidByText := true, laidKinds := [.data, .data, .data, .data, .sentinel, .sentinel, .pinned], laidTests := true, laidLooks := .later }
def PolicyBackUptoCardSaid : Prop := Claim7.holds Tryz.pinned (.plain (OpenSpec.upto policyBackSpec)) policyBackUptoCard
end Rows
end Go.Proofs.YtimfbibaoppfcaaGreatDoor
