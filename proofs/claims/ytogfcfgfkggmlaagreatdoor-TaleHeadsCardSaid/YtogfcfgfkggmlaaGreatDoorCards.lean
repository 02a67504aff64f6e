/-
  DERIVED. GIVEN WITH THE SEED: THE CARDS: each row of YtogfcfgfkggmlaaGreatDoorRows.lean that lists a variable, with what it lists TIED to the program's text (the seventh form; the later family's looks); each row that meets fmt, with fmt's text TOLD by the authors' own Lean function (tested against real Go, not proved from fmt's source: count such statements apart). THE CARD IS WHAT COUNTS. Prove the row's statement (the work); the ties are given (YtogfcfgfkggmlaaGreatDoorTie.lean); close each card by the builder's one call (the guide's Derived/Test/ToyasCard.lean, 'card_holds'). Laid BY PROGRAM, IN A SANDBOX (cutbox-door.mjs). By AI agents, Wed Nov 11 2026. No macro, syntax, notation, axiom, sorry.
-/
import Derived.Test.YtogfcfgfkggmlaaGreatDoorRows
import GoSem.ClaimSeven
namespace Go.Proofs.YtogfcfgfkggmlaaGreatDoor
namespace Rows

/-- THE TIED CARD OF 'oakumlaw08.OverAgain'. -/
def overAgainCard : Claim7 := { stood := { row := overAgainRow, standIns := [], harness := (true, "98918528d5c3dd34990c950c6fc90098f222c312a6b4614ce450f520ad65e104"), looks := true }, kinds := [], alts := [], laidByText := true, laidKinds := [.data, .data, .data, .data, .sentinel, .sentinel, .pinned], laidTests := true, laidLooks := .later }
def OverAgainCardSaid : Prop := Claim7.holds Tryz.pinned (.plain (OpenSpec.ofChange overAgainSpec)) overAgainCard

/-- THE TIED CARD OF 'oakumlaw08.OverLays'. -/
def overLaysCard : Claim7 := { stood := { row := overLaysRow, standIns := [], harness := (true, "98918528d5c3dd34990c950c6fc90098f222c312a6b4614ce450f520ad65e104"), looks := true }, kinds := [], alts := [], laidByText := true, laidKinds := [.data, .data, .data, .data, .sentinel, .sentinel, .pinned], laidTests := true, laidLooks := .later }
def OverLaysCardSaid : Prop := Claim7.holds Tryz.pinned (.plain (OpenSpec.ofChange overLaysSpec)) overLaysCard

/-- THE TIED CARD OF 'oakumlaw32.CrcFinds'. -/
def crcFindsCard : Claim7 := { stood := { row := crcFindsRow, standIns := [], harness := (true, "98918528d5c3dd34990c950c6fc90098f222c312a6b4614ce450f520ad65e104"), looks := true }, kinds := [], alts := [], laidByText := true, laidKinds := [.data, .data, .data, .data, .sentinel, .sentinel, .pinned], laidTests := true, laidLooks := .later }
def CrcFindsCardSaid : Prop := Claim7.holds Tryz.pinned (.plain (OpenSpec.ofChange crcFindsSpec)) crcFindsCard

/-- THE TIED CARD OF 'oakumlaw39.LintMore'. -/
def lintMoreCard : Claim7 := { stood := { row := lintMoreRow, standIns := [], harness := (true, "98918528d5c3dd34990c950c6fc90098f222c312a6b4614ce450f520ad65e104"), looks := true }, kinds := [], alts := [], laidByText := true, laidKinds := [.data, .data, .data, .data, .sentinel, .sentinel, .pinned], laidTests := true, laidLooks := .later }
def LintMoreCardSaid : Prop := Claim7.holds Tryz.pinned (.plain (OpenSpec.ofChange lintMoreSpec)) lintMoreCard

/-- THE TIED CARD OF 'oakumlaw39.LintTexts'. -/
def lintTextsCard : Claim7 := { stood := { row := lintTextsRow, standIns := [], harness := (true, "98918528d5c3dd34990c950c6fc90098f222c312a6b4614ce450f520ad65e104"), looks := true }, kinds := [], alts := [], laidByText := true, laidKinds := [.data, .data, .data, .data, .sentinel, .sentinel, .pinned], laidTests := true, laidLooks := .later }
def LintTextsCardSaid : Prop := Claim7.holds Tryz.pinned (.plain (OpenSpec.ofChange lintTextsSpec)) lintTextsCard

/-- THE TIED CARD OF 'oakumlaw39.LintAll'. -/
def lintAllCard : Claim7 := { stood := { row := lintAllRow, standIns := [], harness := (true, "98918528d5c3dd34990c950c6fc90098f222c312a6b4614ce450f520ad65e104"), looks := true }, kinds := [], alts := [], laidByText := true, laidKinds := [.data, .data, .data, .data, .sentinel, .sentinel, .pinned], laidTests := true, laidLooks := .later }
def LintAllCardSaid : Prop := Claim7.holds Tryz.pinned (.plain (OpenSpec.ofChange lintAllSpec)) lintAllCard

/-- THE TIED CARD OF 'oakumlaw40.OrderLays'. -/
def orderLaysCard : Claim7 := { stood := { row := orderLaysRow, standIns := [], harness := (true, "98918528d5c3dd34990c950c6fc90098f222c312a6b4614ce450f520ad65e104"), looks := true }, kinds := [], alts := [], laidByText := true, laidKinds := [.data, .data, .data, .data, .sentinel, .sentinel, .pinned], laidTests := true, laidLooks := .later }
def OrderLaysCardSaid : Prop := Claim7.holds Tryz.pinned (.plain (OpenSpec.ofChange orderLaysSpec)) orderLaysCard

/-- THE TIED CARD OF 'oakumlaw20.TaleHeads'. -/
def taleHeadsCard : Claim7 := { stood := { row := taleHeadsRow, standIns := [], harness := (true, "98918528d5c3dd34990c950c6fc90098f222c312a6b4614ce450f520ad65e104"), looks := true }, kinds := [], alts := [], laidByText := true, laidKinds := [.data, .data, .data, .data, .sentinel, .sentinel, .pinned], laidTests := true, laidLooks := .later }
def TaleHeadsCardSaid : Prop := Claim7.holds Tryz.pinned (.plain (OpenSpec.ofChange taleHeadsSpec)) taleHeadsCard

/-- THE TIED CARD OF 'oakumlaw20.TaleBack'. -/
def taleBackCard : Claim7 := { stood := { row := taleBackRow, standIns := [], harness := (true, "98918528d5c3dd34990c950c6fc90098f222c312a6b4614ce450f520ad65e104"), looks := true }, kinds := [], alts := [], laidByText := true, laidKinds := [.data, .data, .data, .data, .sentinel, .sentinel, .pinned], laidTests := true, laidLooks := .later }
def TaleBackCardSaid : Prop := Claim7.holds Tryz.pinned (.plain (OpenSpec.ofChange taleBackSpec)) taleBackCard

/-- THE TIED CARD OF 'oakumlaw20.TaleLines'. -/
def taleLinesCard : Claim7 := { stood := { row := taleLinesRow, standIns := [], harness := (true, "98918528d5c3dd34990c950c6fc90098f222c312a6b4614ce450f520ad65e104"), looks := true }, kinds := [], alts := [], laidByText := true, laidKinds := [.data, .data, .data, .data, .sentinel, .sentinel, .pinned], laidTests := true, laidLooks := .later }
def TaleLinesCardSaid : Prop := Claim7.holds Tryz.pinned (.plain (OpenSpec.ofChange taleLinesSpec)) taleLinesCard

/-- THE TIED CARD OF 'oakumlaw20.TaleOutcomes'. -/
def taleOutcomesCard : Claim7 := { stood := { row := taleOutcomesRow, standIns := [], harness := (true, "98918528d5c3dd34990c950c6fc90098f222c312a6b4614ce450f520ad65e104"), looks := true }, kinds := [], alts := [], laidByText := true, laidKinds := [.data, .data, .data, .data, .sentinel, .sentinel, .pinned], laidTests := true, laidLooks := .later }
def TaleOutcomesCardSaid : Prop := Claim7.holds Tryz.pinned (.plain (OpenSpec.ofChange taleOutcomesSpec)) taleOutcomesCard

/-- THE TIED CARD OF 'oakumlaw36.SparsePacks'. -/
def sparsePacksCard : Claim7 := { stood := { row := sparsePacksRow, standIns := [], harness := (true, "98918528d5c3dd34990c950c6fc90098f222c312a6b4614ce450f520ad65e104"), looks := true }, kinds := [], alts := [], laidByText := true, laidKinds := [.data, .data, .data, .data, .sentinel, .sentinel, .sentinel, .pinned], laidTests := true, laidLooks := .later }
def SparsePacksCardSaid : Prop := Claim7.holds Tryz.pinned (.plain (OpenSpec.ofChange sparsePacksSpec)) sparsePacksCard

/-- THE SECOND FORM's CARD OF 'oakumlaw08.OverAgain'. -/
def overAgainUptoCard : Claim7 := { stood := { row := overAgainUptoRow, standIns := [], harness := (true, "98918528d5c3dd34990c950c6fc90098f222c312a6b4614ce450f520ad65e104"), looks := true }, kinds := [], alts := [], laidByText := true, laidKinds := [.data, .data, .data, .data, .sentinel, .sentinel, .pinned], laidTests := true, laidLooks := .later }
def OverAgainUptoCardSaid : Prop := Claim7.holds Tryz.pinned (.plain (OpenSpec.upto overAgainSpec)) overAgainUptoCard

/-- THE SECOND FORM's CARD OF 'oakumlaw08.OverLays'. -/
def overLaysUptoCard : Claim7 := { stood := { row := overLaysUptoRow, standIns := [], harness := (true, "98918528d5c3dd34990c950c6fc90098f222c312a6b4614ce450f520ad65e104"), looks := true }, kinds := [], alts := [], laidByText := true, laidKinds := [.data, .data, .data, .data, .sentinel, .sentinel, .pinned], laidTests := true, laidLooks := .later }
def OverLaysUptoCardSaid : Prop := Claim7.holds Tryz.pinned (.plain (OpenSpec.upto overLaysSpec)) overLaysUptoCard

/-- THE SECOND FORM's CARD OF 'oakumlaw32.CrcFinds'. -/
def crcFindsUptoCard : Claim7 := { stood := { row := crcFindsUptoRow, standIns := [], harness := (true, "98918528d5c3dd34990c950c6fc90098f222c312a6b4614ce450f520ad65e104"), looks := true }, kinds := [], alts := [], laidByText := true, laidKinds := [.data, .data, .data, .data, .sentinel, .sentinel, .pinned], laidTests := true, laidLooks := .later }
def CrcFindsUptoCardSaid : Prop := Claim7.holds Tryz.pinned (.plain (OpenSpec.upto crcFindsSpec)) crcFindsUptoCard

/-- THE SECOND FORM's CARD OF 'oakumlaw39.LintMore'. -/
def lintMoreUptoCard : Claim7 := { stood := { row := lintMoreUptoRow, standIns := [], harness := (true, "98918528d5c3dd34990c950c6fc90098f222c312a6b4614ce450f520ad65e104"), looks := true }, kinds := [], alts := [], laidByText := true, laidKinds := [.data, .data, .data, .data, .sentinel, .sentinel, .pinned], laidTests := true, laidLooks := .later }
def LintMoreUptoCardSaid : Prop := Claim7.holds Tryz.pinned (.plain (OpenSpec.upto lintMoreSpec)) lintMoreUptoCard

/-- THE SECOND FORM's CARD OF 'oakumlaw39.LintTexts'. -/
def lintTextsUptoCard : Claim7 := { stood := { row := lintTextsUptoRow, standIns := [], harness := (true, "98918528d5c3dd34990c950c6fc90098f222c312a6b4614ce450f520ad65e104"), looks := true }, kinds := [], alts := [], laidByText := true, laidKinds := [.data, .data, .data, .data, .sentinel, .sentinel, .pinned], laidTests := true, laidLooks := .later }
def LintTextsUptoCardSaid : Prop := Claim7.holds Tryz.pinned (.plain (OpenSpec.upto lintTextsSpec)) lintTextsUptoCard

/-- THE SECOND FORM's CARD OF 'oakumlaw39.LintAll'. -/
def lintAllUptoCard : Claim7 := { stood := { row := lintAllUptoRow, standIns := [], harness := (true, "98918528d5c3dd34990c950c6fc90098f222c312a6b4614ce450f520ad65e104"), looks := true }, kinds := [], alts := [], laidByText := true, laidKinds := [.data, .data, .data, .data, .sentinel, .sentinel, .pinned], laidTests := true, laidLooks := .later }
def LintAllUptoCardSaid : Prop := Claim7.holds Tryz.pinned (.plain (OpenSpec.upto lintAllSpec)) lintAllUptoCard

/-- THE SECOND FORM's CARD OF 'oakumlaw40.OrderLays'. -/
def orderLaysUptoCard : Claim7 := { stood := { row := orderLaysUptoRow, standIns := [], harness := (true, "98918528d5c3dd34990c950c6fc90098f222c312a6b4614ce450f520ad65e104"), looks := true }, kinds := [], alts := [], laidByText := true, laidKinds := [.data, .data, .data, .data, .sentinel, .sentinel, .pinned], laidTests := true, laidLooks := .later }
def OrderLaysUptoCardSaid : Prop := Claim7.holds Tryz.pinned (.plain (OpenSpec.upto orderLaysSpec)) orderLaysUptoCard

/-- THE SECOND FORM's CARD OF 'oakumlaw20.TaleHeads'. -/
def taleHeadsUptoCard : Claim7 := { stood := { row := taleHeadsUptoRow, standIns := [], harness := (true, "98918528d5c3dd34990c950c6fc90098f222c312a6b4614ce450f520ad65e104"), looks := true }, kinds := [], alts := [], laidByText := true, laidKinds := [.data, .data, .data, .data, .sentinel, .sentinel, .pinned], laidTests := true, laidLooks := .later }
def TaleHeadsUptoCardSaid : Prop := Claim7.holds Tryz.pinned (.plain (OpenSpec.upto taleHeadsSpec)) taleHeadsUptoCard

/-- THE SECOND FORM's CARD OF 'oakumlaw20.TaleBack'. -/
def taleBackUptoCard : Claim7 := { stood := { row := taleBackUptoRow, standIns := [], harness := (true, "98918528d5c3dd34990c950c6fc90098f222c312a6b4614ce450f520ad65e104"), looks := true }, kinds := [], alts := [], laidByText := true, laidKinds := [.data, .data, .data, .data, .sentinel, .sentinel, .pinned], laidTests := true, laidLooks := .later }
def TaleBackUptoCardSaid : Prop := Claim7.holds Tryz.pinned (.plain (OpenSpec.upto taleBackSpec)) taleBackUptoCard

/-- THE SECOND FORM's CARD OF 'oakumlaw20.TaleLines'. -/
def taleLinesUptoCard : Claim7 := { stood := { row := taleLinesUptoRow, standIns := [], harness := (true, "98918528d5c3dd34990c950c6fc90098f222c312a6b4614ce450f520ad65e104"), looks := true }, kinds := [], alts := [], laidByText := true, laidKinds := [.data, .data, .data, .data, .sentinel, .sentinel, .pinned], laidTests := true, laidLooks := .later }
def TaleLinesUptoCardSaid : Prop := Claim7.holds Tryz.pinned (.plain (OpenSpec.upto taleLinesSpec)) taleLinesUptoCard

/-- THE SECOND FORM's CARD OF 'oakumlaw20.TaleOutcomes'. -/
def taleOutcomesUptoCard : Claim7 := { stood := { row := taleOutcomesUptoRow, standIns := [], harness := (true, "98918528d5c3dd34990c950c6fc90098f222c312a6b4614ce450f520ad65e104"), looks := true }, kinds := [], alts := [], laidByText := true, laidKinds := [.data, .data, .data, .data, .sentinel, .sentinel, .pinned], laidTests := true, laidLooks := .later }
def TaleOutcomesUptoCardSaid : Prop := Claim7.holds Tryz.pinned (.plain (OpenSpec.upto taleOutcomesSpec)) taleOutcomesUptoCard

/-- THE SECOND FORM's CARD OF 'oakumlaw36.SparsePacks'. -/
def sparsePacksUptoCard : Claim7 := { stood := { row := sparsePacksUptoRow, standIns := [], harness := (true, "98918528d5c3dd34990c950c6fc90098f222c312a6b4614ce450f520ad65e104"), looks := true }, kinds := [], alts := [], laidByText := true, laidKinds := [.data, .data, .data, .data, .sentinel, .sentinel, .sentinel, .pinned], laidTests := true, laidLooks := .later }
def SparsePacksUptoCardSaid : Prop := Claim7.holds Tryz.pinned (.plain (OpenSpec.upto sparsePacksSpec)) sparsePacksUptoCard
end Rows
end Go.Proofs.YtogfcfgfkggmlaaGreatDoor
