/-
  DERIVED. GIVEN WITH THE SEED: THE CARDS: each row of YtchflhbpdnfopaaDoorRows.lean that lists a variable, with what it lists TIED to the program's text (the seventh form; the later family's looks); each row that meets fmt, with fmt's text TOLD by the authors' own Lean function (tested against real Go, not proved from fmt's source: count such statements apart). THE CARD IS WHAT COUNTS. Prove the row's statement (the work); the ties are given (YtchflhbpdnfopaaDoorTie.lean); close each card by the builder's one call (the guide's Derived/Test/ToyasCard.lean, 'card_holds'). Laid BY PROGRAM, IN A SANDBOX (cutbox-door.mjs). By AI agents, Wed Nov 11 2026. No macro, syntax, notation, axiom, sorry.
-/
import Derived.Test.YtchflhbpdnfopaaDoorRows
import GoSem.ClaimSeven
namespace Go.Proofs.YtchflhbpdnfopaaDoor
namespace Rows

/-- THE TIED CARD OF 'oakumlaw32.CrcChecks'. -/
def crcChecksCard : Claim7 := { stood := { row := crcChecksRow, standIns := [], harness := (true, "bc0de76cc2d2b4ac5acc8490de622ccac851e7b93d41add06435af407ad850b8"), looks := true }, kinds := [], alts := [], laidByText := true, laidKinds := [.data, .data, .data, .data, .sentinel, .sentinel, .pinned], laidTests := true, laidLooks := .later }
def CrcChecksCardSaid : Prop := Claim7.holds Tryd.pinned (.plain (OpenSpec.ofChange crcChecksSpec)) crcChecksCard

/-- THE SECOND FORM's CARD OF 'oakumlaw32.CrcChecks'. -/
def crcChecksUptoCard : Claim7 := { stood := { row := crcChecksUptoRow, standIns := [], harness := (true, "bc0de76cc2d2b4ac5acc8490de622ccac851e7b93d41add06435af407ad850b8"), looks := true }, kinds := [], alts := [], laidByText := true, laidKinds := [.data, .data, .data, .data, .sentinel, .sentinel, .pinned], laidTests := true, laidLooks := .later }
def CrcChecksUptoCardSaid : Prop := Claim7.holds Tryd.pinned (.plain (OpenSpec.upto crcChecksSpec)) crcChecksUptoCard
end Rows
end Go.Proofs.YtchflhbpdnfopaaDoor
