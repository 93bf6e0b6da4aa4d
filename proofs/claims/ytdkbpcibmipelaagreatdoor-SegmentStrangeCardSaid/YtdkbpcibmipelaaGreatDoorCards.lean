/-
  DERIVED. GIVEN WITH THE SEED: THE CARDS: each row of YtdkbpcibmipelaaGreatDoorRows.lean that lists a variable, with what it lists TIED to the program's text (the seventh form; the later family's looks); each row that meets fmt, with fmt's text TOLD by the authors' own Lean function (tested against real Go, not proved from fmt's source: count such statements apart). THE CARD IS WHAT COUNTS. Prove the row's statement (the work); the ties are given (YtdkbpcibmipelaaGreatDoorTie.lean); close each card by the builder's one call (the guide's Derived/Test/ToyasCard.lean, 'card_holds'). Laid BY PROGRAM, IN A SANDBOX (cutbox-door.mjs). By AI agents, Wed Nov 11 2026. No macro, syntax, notation, axiom, sorry.
-/
import Derived.Test.YtdkbpcibmipelaaGreatDoorRows
import GoSem.ClaimSeven
namespace Go.Proofs.YtdkbpcibmipelaaGreatDoor
namespace Rows

/-- THE TIED CARD OF 'anabranchlaw08.SegmentFills'. -/
def segmentFillsCard : Claim7 := { stood := { row := segmentFillsRow, standIns := [], harness := (true, "96bb6dcaf863e5d9c4a06f01c11964b6f325e3b2ac419f4f7679afd6f45e7295"), looks := true }, kinds := [], alts := [], laidByText := true, laidKinds := [.data, .data, .data, .sentinel, .sentinel], laidTests := true, laidLooks := .later }
def SegmentFillsCardSaid : Prop := Claim7.holds Tryz.pinned (.plain (OpenSpec.ofChange segmentFillsSpec)) segmentFillsCard

/-- THE TIED CARD OF 'anabranchlaw08.SegmentMends'. -/
def segmentMendsCard : Claim7 := { stood := { row := segmentMendsRow, standIns := [], harness := (true, "96bb6dcaf863e5d9c4a06f01c11964b6f325e3b2ac419f4f7679afd6f45e7295"), looks := true }, kinds := [], alts := [], laidByText := true, laidKinds := [.data, .data, .data, .sentinel, .sentinel], laidTests := true, laidLooks := .later }
def SegmentMendsCardSaid : Prop := Claim7.holds Tryz.pinned (.plain (OpenSpec.ofChange segmentMendsSpec)) segmentMendsCard

/-- THE TIED CARD OF 'anabranchlaw08.SegmentStrange'. -/
def segmentStrangeCard : Claim7 := { stood := { row := segmentStrangeRow, standIns := [], harness := (true, "96bb6dcaf863e5d9c4a06f01c11964b6f325e3b2ac419f4f7679afd6f45e7295"), looks := true }, kinds := [], alts := [], laidByText := true, laidKinds := [.data, .data, .data, .sentinel, .sentinel], laidTests := true, laidLooks := .later }
def SegmentStrangeCardSaid : Prop := Claim7.holds Tryz.pinned (.plain (OpenSpec.ofChange segmentStrangeSpec)) segmentStrangeCard

/-- THE TIED CARD OF 'anabranchlaw09.FeedFolds'. -/
def feedFoldsCard : Claim7 := { stood := { row := feedFoldsRow, standIns := [], harness := (true, "96bb6dcaf863e5d9c4a06f01c11964b6f325e3b2ac419f4f7679afd6f45e7295"), looks := true }, kinds := [], alts := [], laidByText := true, laidKinds := [.data, .data, .data, .sentinel, .sentinel], laidTests := true, laidLooks := .later }
def FeedFoldsCardSaid : Prop := Claim7.holds Tryz.pinned (.plain (OpenSpec.ofChange feedFoldsSpec)) feedFoldsCard

/-- THE TIED CARD OF 'anabranchlaw09.FeedPlays'. -/
def feedPlaysCard : Claim7 := { stood := { row := feedPlaysRow, standIns := [], harness := (true, "96bb6dcaf863e5d9c4a06f01c11964b6f325e3b2ac419f4f7679afd6f45e7295"), looks := true }, kinds := [], alts := [], laidByText := true, laidKinds := [.data, .data, .data, .sentinel, .sentinel], laidTests := true, laidLooks := .later }
def FeedPlaysCardSaid : Prop := Claim7.holds Tryz.pinned (.plain (OpenSpec.ofChange feedPlaysSpec)) feedPlaysCard

/-- THE TIED CARD OF 'anabranchlaw09.FeedNil'. -/
def feedNilCard : Claim7 := { stood := { row := feedNilRow, standIns := [], harness := (true, "96bb6dcaf863e5d9c4a06f01c11964b6f325e3b2ac419f4f7679afd6f45e7295"), looks := true }, kinds := [], alts := [], laidByText := true, laidKinds := [.data, .data, .data, .sentinel, .sentinel], laidTests := true, laidLooks := .later }
def FeedNilCardSaid : Prop := Claim7.holds Tryz.pinned (.plain (OpenSpec.ofChange feedNilSpec)) feedNilCard

/-- THE TIED CARD OF 'anabranchlaw14.StoreWrites'. -/
def storeWritesCard : Claim7 := { stood := { row := storeWritesRow, standIns := [], harness := (true, "96bb6dcaf863e5d9c4a06f01c11964b6f325e3b2ac419f4f7679afd6f45e7295"), looks := true }, kinds := [], alts := [], laidByText := true, laidKinds := [.data, .data, .data, .sentinel, .sentinel], laidTests := true, laidLooks := .later }
def StoreWritesCardSaid : Prop := Claim7.holds Tryz.pinned (.plain (OpenSpec.ofChange storeWritesSpec)) storeWritesCard

/-- THE TIED CARD OF 'anabranchlaw14.StorePuts'. -/
def storePutsCard : Claim7 := { stood := { row := storePutsRow, standIns := [], harness := (true, "96bb6dcaf863e5d9c4a06f01c11964b6f325e3b2ac419f4f7679afd6f45e7295"), looks := true }, kinds := [], alts := [], laidByText := true, laidKinds := [.data, .data, .data, .sentinel, .sentinel], laidTests := true, laidLooks := .later }
def StorePutsCardSaid : Prop := Claim7.holds Tryz.pinned (.plain (OpenSpec.ofChange storePutsSpec)) storePutsCard

/-- THE TIED CARD OF 'anabranchlaw14.StoreKeeps'. -/
def storeKeepsCard : Claim7 := { stood := { row := storeKeepsRow, standIns := [], harness := (true, "96bb6dcaf863e5d9c4a06f01c11964b6f325e3b2ac419f4f7679afd6f45e7295"), looks := true }, kinds := [], alts := [], laidByText := true, laidKinds := [.data, .data, .data, .sentinel, .sentinel], laidTests := true, laidLooks := .later }
def StoreKeepsCardSaid : Prop := Claim7.holds Tryz.pinned (.plain (OpenSpec.ofChange storeKeepsSpec)) storeKeepsCard

/-- THE TIED CARD OF 'anabranchlaw14.StoreFull'. -/
def storeFullCard : Claim7 := { stood := { row := storeFullRow, standIns := [], harness := (true, "96bb6dcaf863e5d9c4a06f01c11964b6f325e3b2ac419f4f7679afd6f45e7295"), looks := true }, kinds := [], alts := [], laidByText := true, laidKinds := [.data, .data, .data, .sentinel, .sentinel], laidTests := true, laidLooks := .later }
def StoreFullCardSaid : Prop := Claim7.holds Tryz.pinned (.plain (OpenSpec.ofChange storeFullSpec)) storeFullCard

/-- THE TIED CARD OF 'anabranchlaw15.ViewStores'. -/
def viewStoresCard : Claim7 := { stood := { row := viewStoresRow, standIns := [], harness := (true, "96bb6dcaf863e5d9c4a06f01c11964b6f325e3b2ac419f4f7679afd6f45e7295"), looks := true }, kinds := [], alts := [], laidByText := true, laidKinds := [.data, .data, .data, .sentinel, .sentinel], laidTests := true, laidLooks := .later }
def ViewStoresCardSaid : Prop := Claim7.holds Tryz.pinned (.plain (OpenSpec.ofChange viewStoresSpec)) viewStoresCard

/-- THE TIED CARD OF 'anabranchlaw14.StoreErrs'. -/
def storeErrsCard : Claim7 := { stood := { row := storeErrsRow, standIns := [], harness := (true, "96bb6dcaf863e5d9c4a06f01c11964b6f325e3b2ac419f4f7679afd6f45e7295"), looks := true }, kinds := [], alts := [], laidByText := true, laidKinds := [.data, .data, .data, .sentinel, .sentinel], laidTests := true, laidLooks := .later }
def StoreErrsCardSaid : Prop := Claim7.holds Tryz.pinned (.plain (OpenSpec.ofChange storeErrsSpec)) storeErrsCard

/-- THE SECOND FORM's CARD OF 'anabranchlaw08.SegmentFills'. -/
def segmentFillsUptoCard : Claim7 := { stood := { row := segmentFillsUptoRow, standIns := [], harness := (true, "96bb6dcaf863e5d9c4a06f01c11964b6f325e3b2ac419f4f7679afd6f45e7295"), looks := true }, kinds := [], alts := [], laidByText := true, laidKinds := [.data, .data, .data, .sentinel, .sentinel], laidTests := true, laidLooks := .later }
def SegmentFillsUptoCardSaid : Prop := Claim7.holds Tryz.pinned (.plain (OpenSpec.upto segmentFillsSpec)) segmentFillsUptoCard

/-- THE SECOND FORM's CARD OF 'anabranchlaw08.SegmentMends'. -/
def segmentMendsUptoCard : Claim7 := { stood := { row := segmentMendsUptoRow, standIns := [], harness := (true, "96bb6dcaf863e5d9c4a06f01c11964b6f325e3b2ac419f4f7679afd6f45e7295"), looks := true }, kinds := [], alts := [], laidByText := true, laidKinds := [.data, .data, .data, .sentinel, .sentinel], laidTests := true, laidLooks := .later }
def SegmentMendsUptoCardSaid : Prop := Claim7.holds Tryz.pinned (.plain (OpenSpec.upto segmentMendsSpec)) segmentMendsUptoCard

/-- THE SECOND FORM's CARD OF 'anabranchlaw08.SegmentStrange'. -/
def segmentStrangeUptoCard : Claim7 := { stood := { row := segmentStrangeUptoRow, standIns := [], harness := (true, "96bb6dcaf863e5d9c4a06f01c11964b6f325e3b2ac419f4f7679afd6f45e7295"), looks := true }, kinds := [], alts := [], laidByText := true, laidKinds := [.data, .data, .data, .sentinel, .sentinel], laidTests := true, laidLooks := .later }
def SegmentStrangeUptoCardSaid : Prop := Claim7.holds Tryz.pinned (.plain (OpenSpec.upto segmentStrangeSpec)) segmentStrangeUptoCard

/-- THE SECOND FORM's CARD OF 'anabranchlaw09.FeedFolds'. -/
def feedFoldsUptoCard : Claim7 := { stood := { row := feedFoldsUptoRow, standIns := [], harness := (true, "96bb6dcaf863e5d9c4a06f01c11964b6f325e3b2ac419f4f7679afd6f45e7295"), looks := true }, kinds := [], alts := [], laidByText := true, laidKinds := [.data, .data, .data, .sentinel, .sentinel], laidTests := true, laidLooks := .later }
def FeedFoldsUptoCardSaid : Prop := Claim7.holds Tryz.pinned (.plain (OpenSpec.upto feedFoldsSpec)) feedFoldsUptoCard

/-- THE SECOND FORM's CARD OF 'anabranchlaw09.FeedPlays'. -/
def feedPlaysUptoCard : Claim7 := { stood := { row := feedPlaysUptoRow, standIns := [], harness := (true, "96bb6dcaf863e5d9c4a06f01c11964b6f325e3b2ac419f4f7679afd6f45e7295"), looks := true }, kinds := [], alts := [], laidByText := true, laidKinds := [.data, .data, .data, .sentinel, .sentinel], laidTests := true, laidLooks := .later }
def FeedPlaysUptoCardSaid : Prop := Claim7.holds Tryz.pinned (.plain (OpenSpec.upto feedPlaysSpec)) feedPlaysUptoCard

/-- THE SECOND FORM's CARD OF 'anabranchlaw09.FeedNil'. -/
def feedNilUptoCard : Claim7 := { stood := { row := feedNilUptoRow, standIns := [], harness := (true, "96bb6dcaf863e5d9c4a06f01c11964b6f325e3b2ac419f4f7679afd6f45e7295"), looks := true }, kinds := [], alts := [], laidByText := true, laidKinds := [.data, .data, .data, .sentinel, .sentinel], laidTests := true, laidLooks := .later }
def FeedNilUptoCardSaid : Prop := Claim7.holds Tryz.pinned (.plain (OpenSpec.upto feedNilSpec)) feedNilUptoCard

/-- THE SECOND FORM's CARD OF 'anabranchlaw14.StoreWrites'. -/
def storeWritesUptoCard : Claim7 := { stood := { row := storeWritesUptoRow, standIns := [], harness := (true, "96bb6dcaf863e5d9c4a06f01c11964b6f325e3b2ac419f4f7679afd6f45e7295"), looks := true }, kinds := [], alts := [], laidByText := true, laidKinds := [.data, .data, .data, .sentinel, .sentinel], laidTests := true, laidLooks := .later }
def StoreWritesUptoCardSaid : Prop := Claim7.holds Tryz.pinned (.plain (OpenSpec.upto storeWritesSpec)) storeWritesUptoCard

/-- THE SECOND FORM's CARD OF 'anabranchlaw14.StorePuts'. -/
def storePutsUptoCard : Claim7 := { stood := { row := storePutsUptoRow, standIns := [], harness := (true, "96bb6dcaf863e5d9c4a06f01c11964b6f325e3b2ac419f4f7679afd6f45e7295"), looks := true }, kinds := [], alts := [], laidByText := true, laidKinds := [.data, .data, .data, .sentinel, .sentinel], laidTests := true, laidLooks := .later }
def StorePutsUptoCardSaid : Prop := Claim7.holds Tryz.pinned (.plain (OpenSpec.upto storePutsSpec)) storePutsUptoCard

/-- THE SECOND FORM's CARD OF 'anabranchlaw14.StoreKeeps'. -/
def storeKeepsUptoCard : Claim7 := { stood := { row := storeKeepsUptoRow, standIns := [], harness := (true, "96bb6dcaf863e5d9c4a06f01c11964b6f325e3b2ac419f4f7679afd6f45e7295"), looks := true }, kinds := [], alts := [], laidByText := true, laidKinds := [.data, .data, .data, .sentinel, .sentinel], laidTests := true, laidLooks := .later }
def StoreKeepsUptoCardSaid : Prop := Claim7.holds Tryz.pinned (.plain (OpenSpec.upto storeKeepsSpec)) storeKeepsUptoCard

/-- THE SECOND FORM's CARD OF 'anabranchlaw14.StoreFull'. -/
def storeFullUptoCard : Claim7 := { stood := { row := storeFullUptoRow, standIns := [], harness := (true, "96bb6dcaf863e5d9c4a06f01c11964b6f325e3b2ac419f4f7679afd6f45e7295"), looks := true }, kinds := [], alts := [], laidByText := true, laidKinds := [.data, .data, .data, .sentinel, .sentinel], laidTests := true, laidLooks := .later }
def StoreFullUptoCardSaid : Prop := Claim7.holds Tryz.pinned (.plain (OpenSpec.upto storeFullSpec)) storeFullUptoCard

/-- THE SECOND FORM's CARD OF 'anabranchlaw15.ViewStores'. -/
def viewStoresUptoCard : Claim7 := { stood := { row := viewStoresUptoRow, standIns := [], harness := (true, "96bb6dcaf863e5d9c4a06f01c11964b6f325e3b2ac419f4f7679afd6f45e7295"), looks := true }, kinds := [], alts := [], laidByText := true, laidKinds := [.data, .data, .data, .sentinel, .sentinel], laidTests := true, laidLooks := .later }
def ViewStoresUptoCardSaid : Prop := Claim7.holds Tryz.pinned (.plain (OpenSpec.upto viewStoresSpec)) viewStoresUptoCard

/-- THE SECOND FORM's CARD OF 'anabranchlaw14.StoreErrs'. -/
def storeErrsUptoCard : Claim7 := { stood := { row := storeErrsUptoRow, standIns := [], harness := (true, "96bb6dcaf863e5d9c4a06f01c11964b6f325e3b2ac419f4f7679afd6f45e7295"), looks := true }, kinds := [], alts := [], laidByText := true, laidKinds := [.data, .data, .data, .sentinel, .sentinel], laidTests := true, laidLooks := .later }
def StoreErrsUptoCardSaid : Prop := Claim7.holds Tryz.pinned (.plain (OpenSpec.upto storeErrsSpec)) storeErrsUptoCard
end Rows
end Go.Proofs.YtdkbpcibmipelaaGreatDoor
