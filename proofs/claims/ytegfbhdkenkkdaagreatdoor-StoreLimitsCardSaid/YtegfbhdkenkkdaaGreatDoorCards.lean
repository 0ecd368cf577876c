/-
  DERIVED. GIVEN WITH THE SEED: THE CARDS: each row of YtegfbhdkenkkdaaGreatDoorRows.lean that lists a variable, with what it lists TIED to the program's text (the seventh form; the later family's looks); each row that meets fmt, with fmt's text TOLD by the authors' own Lean function (tested against real Go, not proved from fmt's source: count such statements apart). THE CARD IS WHAT COUNTS. Prove the row's statement (the work); the ties are given (YtegfbhdkenkkdaaGreatDoorTie.lean); close each card by the builder's one call (the guide's Derived/Test/ToyasCard.lean, 'card_holds'). Laid BY PROGRAM, IN A SANDBOX (cutbox-door.mjs). By AI agents, Wed Nov 11 2026. No macro, syntax, notation, axiom, sorry.
-/
import Derived.Test.YtegfbhdkenkkdaaGreatDoorRows
import GoSem.ClaimSeven
namespace Go.Proofs.YtegfbhdkenkkdaaGreatDoor
namespace Rows

/-- THE TIED CARD OF 'bulletinlaw29.StoreLimits'. -/
def storeLimitsCard : Claim7 := { stood := { row := storeLimitsRow, standIns := [], harness := (true, "3f1849755bf92488c2cbcffb96fa955047cbba4a861777190903d4837493d0b7"), looks := true }, kinds := [], alts := [], laidByText := true, laidKinds := [.data, .data, .data, .data, .data, .pinned], laidTests := true, laidLooks := .later }
def StoreLimitsCardSaid : Prop := Claim7.holds Tryz.pinned (.plain (OpenSpec.ofChange storeLimitsSpec)) storeLimitsCard

/-- THE SECOND FORM's CARD OF 'bulletinlaw29.StoreLimits'. -/
def storeLimitsUptoCard : Claim7 := { stood := { row := storeLimitsUptoRow, standIns := [], harness := (true, "3f1849755bf92488c2cbcffb96fa955047cbba4a861777190903d4837493d0b7"), looks := true }, kinds := [], alts := [], laidByText := true, laidKinds := [.data, .data, .data, .data, .data, .pinned], laidTests := true, laidLooks := .later }
def StoreLimitsUptoCardSaid : Prop := Claim7.holds Tryz.pinned (.plain (OpenSpec.upto storeLimitsSpec)) storeLimitsUptoCard
end Rows
end Go.Proofs.YtegfbhdkenkkdaaGreatDoor
