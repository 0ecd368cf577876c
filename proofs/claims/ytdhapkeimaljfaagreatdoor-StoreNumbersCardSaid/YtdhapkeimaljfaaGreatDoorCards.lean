/-
  DERIVED. GIVEN WITH THE SEED: THE CARDS: each row of YtdhapkeimaljfaaGreatDoorRows.lean that lists a variable, with what it lists TIED to the program's text (the seventh form; the later family's looks); each row that meets fmt, with fmt's text TOLD by the authors' own Lean function (tested against real Go, not proved from fmt's source: count such statements apart). THE CARD IS WHAT COUNTS. Prove the row's statement (the work); the ties are given (YtdhapkeimaljfaaGreatDoorTie.lean); close each card by the builder's one call (the guide's Derived/Test/ToyasCard.lean, 'card_holds'). Laid BY PROGRAM, IN A SANDBOX (cutbox-door.mjs). By AI agents, Wed Nov 11 2026. No macro, syntax, notation, axiom, sorry.
-/
import Derived.Test.YtdhapkeimaljfaaGreatDoorRows
import GoSem.ClaimSeven
namespace Go.Proofs.YtdhapkeimaljfaaGreatDoor
namespace Rows

/-- THE TIED CARD OF 'bulletinlaw29.StoreNumbers'. -/
def storeNumbersCard : Claim7 := { stood := { row := storeNumbersRow, standIns := [], harness := (true, "29e4e06e425c587f859baaed4875625d2e1c628f68360b28d1cdeccd9867424c"), looks := true }, kinds := [], alts := [], laidByText := true, laidKinds := [.data, .data, .data, .data, .data, .pinned], laidTests := true, laidLooks := .later }
def StoreNumbersCardSaid : Prop := Claim7.holds Tryz.pinned (.plain (OpenSpec.ofChange storeNumbersSpec)) storeNumbersCard

/-- THE SECOND FORM's CARD OF 'bulletinlaw29.StoreNumbers'. -/
def storeNumbersUptoCard : Claim7 := { stood := { row := storeNumbersUptoRow, standIns := [], harness := (true, "29e4e06e425c587f859baaed4875625d2e1c628f68360b28d1cdeccd9867424c"), looks := true }, kinds := [], alts := [], laidByText := true, laidKinds := [.data, .data, .data, .data, .data, .pinned], laidTests := true, laidLooks := .later }
def StoreNumbersUptoCardSaid : Prop := Claim7.holds Tryz.pinned (.plain (OpenSpec.upto storeNumbersSpec)) storeNumbersUptoCard
end Rows
end Go.Proofs.YtdhapkeimaljfaaGreatDoor
