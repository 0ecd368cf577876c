/-
  DERIVED. GIVEN WITH THE SEED: THE CARDS: each row of YtdjaphcelpchaaaGreatDoorRows.lean that lists a variable, with what it lists TIED to the program's text (the seventh form; the later family's looks); each row that meets fmt, with fmt's text TOLD by the authors' own Lean function (tested against real Go, not proved from fmt's source: count such statements apart). THE CARD IS WHAT COUNTS. Prove the row's statement (the work); the ties are given (YtdjaphcelpchaaaGreatDoorTie.lean); close each card by the builder's one call (the guide's Derived/Test/ToyasCard.lean, 'card_holds'). Laid BY PROGRAM, IN A SANDBOX (cutbox-door.mjs). By AI agents, Wed Nov 11 2026. No macro, syntax, notation, axiom, sorry.
-/
import Derived.Test.YtdjaphcelpchaaaGreatDoorRows
import GoSem.ClaimSeven
namespace Go.Proofs.YtdjaphcelpchaaaGreatDoor
namespace Rows

/-- THE TIED CARD OF 'bulletinlaw28.OverviewCheck'. -/
def overviewCheckCard : Claim7 := { stood := { row := overviewCheckRow, standIns := [], harness := (true, "157aa6cd21d7d65800e731a8cc334d1d196acf6ec64355234e9b23731d4e9d5d"), looks := true }, kinds := [], alts := [], laidByText := true, laidKinds := [.data, .data, .data, .data, .pinned], laidTests := true, laidLooks := .later }
def OverviewCheckCardSaid : Prop := Claim7.holds Tryz.pinned (.plain (OpenSpec.ofChange overviewCheckSpec)) overviewCheckCard

/-- THE TIED CARD OF 'bulletinlaw28.OverviewParse'. -/
def overviewParseCard : Claim7 := { stood := { row := overviewParseRow, standIns := [], harness := (true, "157aa6cd21d7d65800e731a8cc334d1d196acf6ec64355234e9b23731d4e9d5d"), looks := true }, kinds := [], alts := [], laidByText := true, laidKinds := [.data, .data, .data, .data, .pinned], laidTests := true, laidLooks := .later }
def OverviewParseCardSaid : Prop := Claim7.holds Tryz.pinned (.plain (OpenSpec.ofChange overviewParseSpec)) overviewParseCard

/-- THE TIED CARD OF 'bulletinlaw28.OverviewOperations'. -/
def overviewOperationsCard : Claim7 := { stood := { row := overviewOperationsRow, standIns := [], harness := (true, "157aa6cd21d7d65800e731a8cc334d1d196acf6ec64355234e9b23731d4e9d5d"), looks := true }, kinds := [], alts := [], laidByText := true, laidKinds := [.data, .data, .data, .data, .pinned], laidTests := true, laidLooks := .later }
def OverviewOperationsCardSaid : Prop := Claim7.holds Tryz.pinned (.plain (OpenSpec.ofChange overviewOperationsSpec)) overviewOperationsCard

/-- THE TIED CARD OF 'bulletinlaw28.OverviewRange'. -/
def overviewRangeCard : Claim7 := { stood := { row := overviewRangeRow, standIns := [], harness := (true, "157aa6cd21d7d65800e731a8cc334d1d196acf6ec64355234e9b23731d4e9d5d"), looks := true }, kinds := [], alts := [], laidByText := true, laidKinds := [.data, .data, .data, .data, .pinned], laidTests := true, laidLooks := .later }
def OverviewRangeCardSaid : Prop := Claim7.holds Tryz.pinned (.plain (OpenSpec.ofChange overviewRangeSpec)) overviewRangeCard

/-- THE TIED CARD OF 'bulletinlaw28.OverviewOrder'. -/
def overviewOrderCard : Claim7 := { stood := { row := overviewOrderRow, standIns := [], harness := (true, "157aa6cd21d7d65800e731a8cc334d1d196acf6ec64355234e9b23731d4e9d5d"), looks := true }, kinds := [], alts := [], laidByText := true, laidKinds := [.data, .data, .data, .data, .pinned], laidTests := true, laidLooks := .later }
def OverviewOrderCardSaid : Prop := Claim7.holds Tryz.pinned (.plain (OpenSpec.ofChange overviewOrderSpec)) overviewOrderCard

/-- THE TIED CARD OF 'bulletinlaw28.OverviewViews'. -/
def overviewViewsCard : Claim7 := { stood := { row := overviewViewsRow, standIns := [], harness := (true, "157aa6cd21d7d65800e731a8cc334d1d196acf6ec64355234e9b23731d4e9d5d"), looks := true }, kinds := [], alts := [], laidByText := true, laidKinds := [.data, .data, .data, .data, .pinned], laidTests := true, laidLooks := .later }
def OverviewViewsCardSaid : Prop := Claim7.holds Tryz.pinned (.plain (OpenSpec.ofChange overviewViewsSpec)) overviewViewsCard

/-- THE TIED CARD OF 'bulletinlaw28.OverviewClone'. -/
def overviewCloneCard : Claim7 := { stood := { row := overviewCloneRow, standIns := [], harness := (true, "157aa6cd21d7d65800e731a8cc334d1d196acf6ec64355234e9b23731d4e9d5d"), looks := true }, kinds := [], alts := [], laidByText := true, laidKinds := [.data, .data, .data, .data, .pinned], laidTests := true, laidLooks := .later }
def OverviewCloneCardSaid : Prop := Claim7.holds Tryz.pinned (.plain (OpenSpec.ofChange overviewCloneSpec)) overviewCloneCard

/-- THE TIED CARD OF 'bulletinlaw28.OverviewNil'. -/
def overviewNilCard : Claim7 := { stood := { row := overviewNilRow, standIns := [], harness := (true, "157aa6cd21d7d65800e731a8cc334d1d196acf6ec64355234e9b23731d4e9d5d"), looks := true }, kinds := [], alts := [], laidByText := true, laidKinds := [.data, .data, .data, .data, .pinned], laidTests := true, laidLooks := .later }
def OverviewNilCardSaid : Prop := Claim7.holds Tryz.pinned (.plain (OpenSpec.ofChange overviewNilSpec)) overviewNilCard

/-- THE TIED CARD OF 'bulletinlaw28.OverviewDecode'. -/
def overviewDecodeCard : Claim7 := { stood := { row := overviewDecodeRow, standIns := [], harness := (true, "157aa6cd21d7d65800e731a8cc334d1d196acf6ec64355234e9b23731d4e9d5d"), looks := true }, kinds := [], alts := [], laidByText := true, laidKinds := [.data, .data, .data, .data, .pinned], laidTests := true, laidLooks := .later }
def OverviewDecodeCardSaid : Prop := Claim7.holds Tryz.pinned (.plain (OpenSpec.ofChange overviewDecodeSpec)) overviewDecodeCard

/-- THE TIED CARD OF 'bulletinlaw28.OverviewEncode'. -/
def overviewEncodeCard : Claim7 := { stood := { row := overviewEncodeRow, standIns := [], harness := (true, "157aa6cd21d7d65800e731a8cc334d1d196acf6ec64355234e9b23731d4e9d5d"), looks := true }, kinds := [], alts := [], laidByText := true, laidKinds := [.data, .data, .data, .data, .pinned], laidTests := true, laidLooks := .later }
def OverviewEncodeCardSaid : Prop := Claim7.holds Tryz.pinned (.plain (OpenSpec.ofChange overviewEncodeSpec)) overviewEncodeCard

/-- THE SECOND FORM's CARD OF 'bulletinlaw28.OverviewCheck'. -/
def overviewCheckUptoCard : Claim7 := { stood := { row := overviewCheckUptoRow, standIns := [], harness := (true, "157aa6cd21d7d65800e731a8cc334d1d196acf6ec64355234e9b23731d4e9d5d"), looks := true }, kinds := [], alts := [], laidByText := true, laidKinds := [.data, .data, .data, .data, .pinned], laidTests := true, laidLooks := .later }
def OverviewCheckUptoCardSaid : Prop := Claim7.holds Tryz.pinned (.plain (OpenSpec.upto overviewCheckSpec)) overviewCheckUptoCard

/-- THE SECOND FORM's CARD OF 'bulletinlaw28.OverviewParse'. -/
def overviewParseUptoCard : Claim7 := { stood := { row := overviewParseUptoRow, standIns := [], harness := (true, "157aa6cd21d7d65800e731a8cc334d1d196acf6ec64355234e9b23731d4e9d5d"), looks := true }, kinds := [], alts := [], laidByText := true, laidKinds := [.data, .data, .data, .data, .pinned], laidTests := true, laidLooks := .later }
def OverviewParseUptoCardSaid : Prop := Claim7.holds Tryz.pinned (.plain (OpenSpec.upto overviewParseSpec)) overviewParseUptoCard

/-- THE SECOND FORM's CARD OF 'bulletinlaw28.OverviewOperations'. -/
def overviewOperationsUptoCard : Claim7 := { stood := { row := overviewOperationsUptoRow, standIns := [], harness := (true, "157aa6cd21d7d65800e731a8cc334d1d196acf6ec64355234e9b23731d4e9d5d"), looks := true }, kinds := [], alts := [], laidByText := true, laidKinds := [.data, .data, .data, .data, .pinned], laidTests := true, laidLooks := .later }
def OverviewOperationsUptoCardSaid : Prop := Claim7.holds Tryz.pinned (.plain (OpenSpec.upto overviewOperationsSpec)) overviewOperationsUptoCard

/-- THE SECOND FORM's CARD OF 'bulletinlaw28.OverviewRange'. -/
def overviewRangeUptoCard : Claim7 := { stood := { row := overviewRangeUptoRow, standIns := [], harness := (true, "157aa6cd21d7d65800e731a8cc334d1d196acf6ec64355234e9b23731d4e9d5d"), looks := true }, kinds := [], alts := [], laidByText := true, laidKinds := [.data, .data, .data, .data, .pinned], laidTests := true, laidLooks := .later }
def OverviewRangeUptoCardSaid : Prop := Claim7.holds Tryz.pinned (.plain (OpenSpec.upto overviewRangeSpec)) overviewRangeUptoCard

/-- THE SECOND FORM's CARD OF 'bulletinlaw28.OverviewOrder'. -/
def overviewOrderUptoCard : Claim7 := { stood := { row := overviewOrderUptoRow, standIns := [], harness := (true, "157aa6cd21d7d65800e731a8cc334d1d196acf6ec64355234e9b23731d4e9d5d"), looks := true }, kinds := [], alts := [], laidByText := true, laidKinds := [.data, .data, .data, .data, .pinned], laidTests := true, laidLooks := .later }
def OverviewOrderUptoCardSaid : Prop := Claim7.holds Tryz.pinned (.plain (OpenSpec.upto overviewOrderSpec)) overviewOrderUptoCard

/-- THE SECOND FORM's CARD OF 'bulletinlaw28.OverviewViews'. -/
def overviewViewsUptoCard : Claim7 := { stood := { row := overviewViewsUptoRow, standIns := [], harness := (true, "157aa6cd21d7d65800e731a8cc334d1d196acf6ec64355234e9b23731d4e9d5d"), looks := true }, kinds := [], alts := [], laidByText := true, laidKinds := [.data, .data, .data, .data, .pinned], laidTests := true, laidLooks := .later }
def OverviewViewsUptoCardSaid : Prop := Claim7.holds Tryz.pinned (.plain (OpenSpec.upto overviewViewsSpec)) overviewViewsUptoCard

/-- THE SECOND FORM's CARD OF 'bulletinlaw28.OverviewClone'. -/
def overviewCloneUptoCard : Claim7 := { stood := { row := overviewCloneUptoRow, standIns := [], harness := (true, "157aa6cd21d7d65800e731a8cc334d1d196acf6ec64355234e9b23731d4e9d5d"), looks := true }, kinds := [], alts := [], laidByText := true, laidKinds := [.data, .data, .data, .data, .pinned], laidTests := true, laidLooks := .later }
def OverviewCloneUptoCardSaid : Prop := Claim7.holds Tryz.pinned (.plain (OpenSpec.upto overviewCloneSpec)) overviewCloneUptoCard

/-- THE SECOND FORM's CARD OF 'bulletinlaw28.OverviewNil'. -/
def overviewNilUptoCard : Claim7 := { stood := { row := overviewNilUptoRow, standIns := [], harness := (true, "157aa6cd21d7d65800e731a8cc334d1d196acf6ec64355234e9b23731d4e9d5d"), looks := true }, kinds := [], alts := [], laidByText := true, laidKinds := [.data, .data, .data, .data, .pinned], laidTests := true, laidLooks := .later }
def OverviewNilUptoCardSaid : Prop := Claim7.holds Tryz.pinned (.plain (OpenSpec.upto overviewNilSpec)) overviewNilUptoCard

/-- THE SECOND FORM's CARD OF 'bulletinlaw28.OverviewDecode'. -/
def overviewDecodeUptoCard : Claim7 := { stood := { row := overviewDecodeUptoRow, standIns := [], harness := (true, "157aa6cd21d7d65800e731a8cc334d1d196acf6ec64355234e9b23731d4e9d5d"), looks := true }, kinds := [], alts := [], laidByText := true, laidKinds := [.data, .data, .data, .data, .pinned], laidTests := true, laidLooks := .later }
def OverviewDecodeUptoCardSaid : Prop := Claim7.holds Tryz.pinned (.plain (OpenSpec.upto overviewDecodeSpec)) overviewDecodeUptoCard

/-- THE SECOND FORM's CARD OF 'bulletinlaw28.OverviewEncode'. -/
def overviewEncodeUptoCard : Claim7 := { stood := { row := overviewEncodeUptoRow, standIns := [], harness := (true, "157aa6cd21d7d65800e731a8cc334d1d196acf6ec64355234e9b23731d4e9d5d"), looks := true }, kinds := [], alts := [], laidByText := true, laidKinds := [.data, .data, .data, .data, .pinned], laidTests := true, laidLooks := .later }
def OverviewEncodeUptoCardSaid : Prop := Claim7.holds Tryz.pinned (.plain (OpenSpec.upto overviewEncodeSpec)) overviewEncodeUptoCard
end Rows
end Go.Proofs.YtdjaphcelpchaaaGreatDoor
