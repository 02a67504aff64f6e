/-
  DERIVED. GIVEN WITH THE SEED: THE CARDS: each row of YtilbahgfjfcikaaDoorRows.lean that lists a variable, with what it lists TIED to the program's text (the seventh form; the later family's looks); each row that meets fmt, with fmt's text TOLD by the authors' own Lean function (tested against real Go, not proved from fmt's source: count such statements apart). THE CARD IS WHAT COUNTS. Prove the row's statement (the work); the ties are given (YtilbahgfjfcikaaDoorTie.lean); close each card by the builder's one call (the guide's Derived/Test/ToyasCard.lean, 'card_holds'). Laid BY PROGRAM, IN A SANDBOX (cutbox-door.mjs). By AI agents, Wed Nov 11 2026. No macro, syntax, notation, axiom, sorry.
-/
import Derived.Test.YtilbahgfjfcikaaDoorRows
import GoSem.ClaimSeven
namespace Go.Proofs.YtilbahgfjfcikaaDoor
namespace Rows

/-- THE TIED CARD OF 'oakumlaw32.CrcChecks'. -/
def crcChecksCard : Claim7 := { stood := { row := crcChecksRow, standIns := [], harness := (true, "979ad28997e1ef131e40969111790ab4f83bec5882e02409e7f6d62537549bcf"), looks := true }, kinds := [], alts := [], laidByText := true, laidKinds := [.data, .data, .data, .data, .sentinel, .sentinel, .pinned], laidTests := true, laidLooks := .later }
def CrcChecksCardSaid : Prop := Claim7.holds Tryd.pinned (.plain (OpenSpec.ofChange crcChecksSpec)) crcChecksCard

/-- THE TIED CARD OF 'oakumlaw04.DecPrints'. -/
def decPrintsCard : Claim7 := { stood := { row := decPrintsRow, standIns := [], harness := (true, "979ad28997e1ef131e40969111790ab4f83bec5882e02409e7f6d62537549bcf"), looks := true }, kinds := [], alts := [], laidByText := true, laidKinds := [.data, .data, .data, .data, .sentinel, .sentinel, .pinned], laidTests := true, laidLooks := .later }
def DecPrintsCardSaid : Prop := Claim7.holds Tryd.pinned (.plain (OpenSpec.ofChange decPrintsSpec)) decPrintsCard

/-- THE TIED CARD OF 'oakumlaw04.DecReads'. -/
def decReadsCard : Claim7 := { stood := { row := decReadsRow, standIns := [], harness := (true, "979ad28997e1ef131e40969111790ab4f83bec5882e02409e7f6d62537549bcf"), looks := true }, kinds := [], alts := [], laidByText := true, laidKinds := [.data, .data, .data, .data, .sentinel, .sentinel, .pinned], laidTests := true, laidLooks := .later }
def DecReadsCardSaid : Prop := Claim7.holds Tryd.pinned (.plain (OpenSpec.ofChange decReadsSpec)) decReadsCard

/-- THE TIED CARD OF 'oakumlaw04.DecBack'. -/
def decBackCard : Claim7 := { stood := { row := decBackRow, standIns := [], harness := (true, "979ad28997e1ef131e40969111790ab4f83bec5882e02409e7f6d62537549bcf"), looks := true }, kinds := [], alts := [], laidByText := true, laidKinds := [.data, .data, .data, .data, .sentinel, .sentinel, .pinned], laidTests := true, laidLooks := .later }
def DecBackCardSaid : Prop := Claim7.holds Tryd.pinned (.plain (OpenSpec.ofChange decBackSpec)) decBackCard

/-- THE TIED CARD OF 'oakumlaw09.ItemFulls'. -/
def itemFullsCard : Claim7 := { stood := { row := itemFullsRow, standIns := [], harness := (true, "979ad28997e1ef131e40969111790ab4f83bec5882e02409e7f6d62537549bcf"), looks := true }, kinds := [], alts := [], laidByText := true, laidKinds := [.data, .data, .data, .data, .sentinel, .sentinel, .pinned], laidTests := true, laidLooks := .later }
def ItemFullsCardSaid : Prop := Claim7.holds Tryd.pinned (.plain (OpenSpec.ofChange itemFullsSpec)) itemFullsCard

/-- THE TIED CARD OF 'oakumlaw07.PaxBack'. -/
def paxBackCard : Claim7 := { stood := { row := paxBackRow, standIns := [], harness := (true, "979ad28997e1ef131e40969111790ab4f83bec5882e02409e7f6d62537549bcf"), looks := true }, kinds := [], alts := [], laidByText := true, laidKinds := [.data, .data, .data, .data, .sentinel, .sentinel, .sentinel, .pinned], laidTests := true, laidLooks := .later }
def PaxBackCardSaid : Prop := Claim7.holds Tryd.pinned (.plain (OpenSpec.ofChange paxBackSpec)) paxBackCard

/-- THE SECOND FORM's CARD OF 'oakumlaw32.CrcChecks'. -/
def crcChecksUptoCard : Claim7 := { stood := { row := crcChecksUptoRow, standIns := [], harness := (true, "979ad28997e1ef131e40969111790ab4f83bec5882e02409e7f6d62537549bcf"), looks := true }, kinds := [], alts := [], laidByText := true, laidKinds := [.data, .data, .data, .data, .sentinel, .sentinel, .pinned], laidTests := true, laidLooks := .later }
def CrcChecksUptoCardSaid : Prop := Claim7.holds Tryd.pinned (.plain (OpenSpec.upto crcChecksSpec)) crcChecksUptoCard

/-- THE SECOND FORM's CARD OF 'oakumlaw04.DecPrints'. -/
def decPrintsUptoCard : Claim7 := { stood := { row := decPrintsUptoRow, standIns := [], harness := (true, "979ad28997e1ef131e40969111790ab4f83bec5882e02409e7f6d62537549bcf"), looks := true }, kinds := [], alts := [], laidByText := true, laidKinds := [.data, .data, .data, .data, .sentinel, .sentinel, .pinned], laidTests := true, laidLooks := .later }
def DecPrintsUptoCardSaid : Prop := Claim7.holds Tryd.pinned (.plain (OpenSpec.upto decPrintsSpec)) decPrintsUptoCard

/-- THE SECOND FORM's CARD OF 'oakumlaw04.DecReads'. -/
def decReadsUptoCard : Claim7 := { stood := { row := decReadsUptoRow, standIns := [], harness := (true, "979ad28997e1ef131e40969111790ab4f83bec5882e02409e7f6d62537549bcf"), looks := true }, kinds := [], alts := [], laidByText := true, laidKinds := [.data, .data, .data, .data, .sentinel, .sentinel, .pinned], laidTests := true, laidLooks := .later }
def DecReadsUptoCardSaid : Prop := Claim7.holds Tryd.pinned (.plain (OpenSpec.upto decReadsSpec)) decReadsUptoCard

/-- THE SECOND FORM's CARD OF 'oakumlaw04.DecBack'. -/
def decBackUptoCard : Claim7 := { stood := { row := decBackUptoRow, standIns := [], harness := (true, "979ad28997e1ef131e40969111790ab4f83bec5882e02409e7f6d62537549bcf"), looks := true }, kinds := [], alts := [], laidByText := true, laidKinds := [.data, .data, .data, .data, .sentinel, .sentinel, .pinned], laidTests := true, laidLooks := .later }
def DecBackUptoCardSaid : Prop := Claim7.holds Tryd.pinned (.plain (OpenSpec.upto decBackSpec)) decBackUptoCard

/-- THE SECOND FORM's CARD OF 'oakumlaw09.ItemFulls'. -/
def itemFullsUptoCard : Claim7 := { stood := { row := itemFullsUptoRow, standIns := [], harness := (true, "979ad28997e1ef131e40969111790ab4f83bec5882e02409e7f6d62537549bcf"), looks := true }, kinds := [], alts := [], laidByText := true, laidKinds := [.data, .data, .data, .data, .sentinel, .sentinel, .pinned], laidTests := true, laidLooks := .later }
def ItemFullsUptoCardSaid : Prop := Claim7.holds Tryd.pinned (.plain (OpenSpec.upto itemFullsSpec)) itemFullsUptoCard

/-- THE SECOND FORM's CARD OF 'oakumlaw07.PaxBack'. -/
def paxBackUptoCard : Claim7 := { stood := { row := paxBackUptoRow, standIns := [], harness := (true, "979ad28997e1ef131e40969111790ab4f83bec5882e02409e7f6d62537549bcf"), looks := true }, kinds := [], alts := [], laidByText := true, laidKinds := [.data, .data, .data, .data, .sentinel, .sentinel, .sentinel, .pinned], laidTests := true, laidLooks := .later }
def PaxBackUptoCardSaid : Prop := Claim7.holds Tryd.pinned (.plain (OpenSpec.upto paxBackSpec)) paxBackUptoCard
end Rows
end Go.Proofs.YtilbahgfjfcikaaDoor
