/-
  DERIVED. GIVEN WITH THE SEED: THE CARDS: each row of YthiafifdiaplaaaGreatDoorRows.lean that lists a variable, with what it lists TIED to the program's text (the seventh form; the later family's looks); each row that meets fmt, with fmt's text TOLD by the authors' own Lean function (tested against real Go, not proved from fmt's source: count such statements apart). THE CARD IS WHAT COUNTS. Prove the row's statement (the work); the ties are given (YthiafifdiaplaaaGreatDoorTie.lean); close each card by the builder's one call (the guide's Derived/Test/ToyasCard.lean, 'card_holds'). Laid BY PROGRAM, IN A SANDBOX (cutbox-door.mjs). By AI agents, Wed Nov 11 2026. No macro, syntax, notation, axiom, sorry.
-/
import Derived.Test.YthiafifdiaplaaaGreatDoorRows
import GoSem.ClaimSeven
namespace Go.Proofs.YthiafifdiaplaaaGreatDoor
namespace Rows

/-- THE TIED CARD OF 'bulletinlaw29.StoreErrors'. -/
def storeErrorsCard : Claim7 := { stood := { row := storeErrorsRow, standIns := [], harness := (true, "16782c3b592bb0b739fc33047cd2e8a0b72ef7d2ccc49b235472a40a82652fd9"), looks := true }, kinds := [], alts := [], laidByText := true, laidKinds := [.data, .data, .data, .data, .data, .pinned], laidTests := true, laidLooks := .later }
def StoreErrorsCardSaid : Prop := Claim7.holds Tryz.pinned (.plain (OpenSpec.ofChange storeErrorsSpec)) storeErrorsCard

/-- THE SECOND FORM's CARD OF 'bulletinlaw29.StoreErrors'. -/
def storeErrorsUptoCard : Claim7 := { stood := { row := storeErrorsUptoRow, standIns := [], harness := (true, "16782c3b592bb0b739fc33047cd2e8a0b72ef7d2ccc49b235472a40a82652fd9"), looks := true }, kinds := [], alts := [], laidByText := true, laidKinds := [.data, .data, .data, .data, .data, .pinned], laidTests := true, laidLooks := .later }
def StoreErrorsUptoCardSaid : Prop := Claim7.holds Tryz.pinned (.plain (OpenSpec.upto storeErrorsSpec)) storeErrorsUptoCard
end Rows
end Go.Proofs.YthiafifdiaplaaaGreatDoor
