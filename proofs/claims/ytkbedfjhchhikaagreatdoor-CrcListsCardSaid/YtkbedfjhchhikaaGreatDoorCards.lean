/-
  DERIVED. GIVEN WITH THE SEED: THE CARDS: each row of YtkbedfjhchhikaaGreatDoorRows.lean that lists a variable, with what it lists TIED to the program's text (the seventh form; the later family's looks); each row that meets fmt, with fmt's text TOLD by the authors' own Lean function (tested against real Go, not proved from fmt's source: count such statements apart). THE CARD IS WHAT COUNTS. Prove the row's statement (the work); the ties are given (YtkbedfjhchhikaaGreatDoorTie.lean); close each card by the builder's one call (the guide's Derived/Test/ToyasCard.lean, 'card_holds'). Laid BY PROGRAM, IN A SANDBOX (cutbox-door.mjs). By AI agents, Wed Nov 11 2026. No macro, syntax, notation, axiom, sorry.
-/
import Derived.Test.YtkbedfjhchhikaaGreatDoorRows
import GoSem.ClaimSeven
namespace Go.Proofs.YtkbedfjhchhikaaGreatDoor
namespace Rows

/-- THE TIED CARD OF 'oakumlaw32.CrcLists'. -/
def crcListsCard : Claim7 := { stood := { row := crcListsRow, standIns := [], harness := (true, "2ec6a71a21b9f1d8e77609269c366b7c1d014a953eb7bad73253f38a664d4855"), looks := true }, kinds := [], alts := [], laidByText := true, laidKinds := [.data, .data, .data, .data, .sentinel, .sentinel, .pinned], laidTests := true, laidLooks := .later }
def CrcListsCardSaid : Prop := Claim7.holds Tryz.pinned (.plain (OpenSpec.ofChange crcListsSpec)) crcListsCard

/-- THE SECOND FORM's CARD OF 'oakumlaw32.CrcLists'. -/
def crcListsUptoCard : Claim7 := { stood := { row := crcListsUptoRow, standIns := [], harness := (true, "2ec6a71a21b9f1d8e77609269c366b7c1d014a953eb7bad73253f38a664d4855"), looks := true }, kinds := [], alts := [], laidByText := true, laidKinds := [.data, .data, .data, .data, .sentinel, .sentinel, .pinned], laidTests := true, laidLooks := .later }
def CrcListsUptoCardSaid : Prop := Claim7.holds Tryz.pinned (.plain (OpenSpec.upto crcListsSpec)) crcListsUptoCard
end Rows
end Go.Proofs.YtkbedfjhchhikaaGreatDoor
