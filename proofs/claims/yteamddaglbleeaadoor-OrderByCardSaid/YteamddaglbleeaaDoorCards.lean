/-
  DERIVED. GIVEN WITH THE SEED: THE CARDS: each row of YteamddaglbleeaaDoorRows.lean that lists a variable, with what it lists TIED to the program's text (the seventh form; the later family's looks); each row that meets fmt, with fmt's text TOLD by the authors' own Lean function (tested against real Go, not proved from fmt's source: count such statements apart). THE CARD IS WHAT COUNTS. Prove the row's statement (the work); the ties are given (YteamddaglbleeaaDoorTie.lean); close each card by the builder's one call (the guide's Derived/Test/ToyasCard.lean, 'card_holds'). Laid BY PROGRAM, IN A SANDBOX (cutbox-door.mjs). By AI agents, Wed Nov 11 2026. No macro, syntax, notation, axiom, sorry.
-/
import Derived.Test.YteamddaglbleeaaDoorRows
import GoSem.ClaimSeven
namespace Go.Proofs.YteamddaglbleeaaDoor
namespace Rows

/-- THE TIED CARD OF 'oakumlaw38.UsageGreatest'. -/
def usageGreatestCard : Claim7 := { stood := { row := usageGreatestRow, standIns := [], harness := (true, "6e57559af89d5145b9f72b3afca6bf7bb2d03da9f87c5c04f4ebfb9b36cd2f58"), looks := false }, kinds := [], alts := [], laidByText := true, laidKinds := [.data, .pinned], laidTests := true, laidLooks := .later }
def UsageGreatestCardSaid : Prop := Claim7.holds Tryd.pinned (.plain (OpenSpec.ofChange usageGreatestSpec)) usageGreatestCard

/-- THE TIED CARD OF 'oakumlaw40.OrderBy'. -/
def orderByCard : Claim7 := { stood := { row := orderByRow, standIns := [], harness := (true, "6e57559af89d5145b9f72b3afca6bf7bb2d03da9f87c5c04f4ebfb9b36cd2f58"), looks := false }, kinds := [], alts := [], laidByText := true, laidKinds := [.data, .pinned], laidTests := true, laidLooks := .later }
def OrderByCardSaid : Prop := Claim7.holds Tryd.pinned (.plain (OpenSpec.ofChange orderBySpec)) orderByCard

/-- THE SECOND FORM's CARD OF 'oakumlaw38.UsageGreatest'. -/
def usageGreatestUptoCard : Claim7 := { stood := { row := usageGreatestUptoRow, standIns := [], harness := (true, "6e57559af89d5145b9f72b3afca6bf7bb2d03da9f87c5c04f4ebfb9b36cd2f58"), looks := false }, kinds := [], alts := [], laidByText := true, laidKinds := [.data, .pinned], laidTests := true, laidLooks := .later }
def UsageGreatestUptoCardSaid : Prop := Claim7.holds Tryd.pinned (.plain (OpenSpec.upto usageGreatestSpec)) usageGreatestUptoCard

/-- THE SECOND FORM's CARD OF 'oakumlaw40.OrderBy'. -/
def orderByUptoCard : Claim7 := { stood := { row := orderByUptoRow, standIns := [], harness := (true, "6e57559af89d5145b9f72b3afca6bf7bb2d03da9f87c5c04f4ebfb9b36cd2f58"), looks := false }, kinds := [], alts := [], laidByText := true, laidKinds := [.data, .pinned], laidTests := true, laidLooks := .later }
def OrderByUptoCardSaid : Prop := Claim7.holds Tryd.pinned (.plain (OpenSpec.upto orderBySpec)) orderByUptoCard
end Rows
end Go.Proofs.YteamddaglbleeaaDoor
