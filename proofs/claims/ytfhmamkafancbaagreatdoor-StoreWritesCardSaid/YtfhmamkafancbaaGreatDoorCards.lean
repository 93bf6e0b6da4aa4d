/-
  DERIVED. GIVEN WITH THE SEED: THE CARDS: each row of YtfhmamkafancbaaGreatDoorRows.lean that lists a variable, with what it lists TIED to the program's text (the seventh form; the later family's looks); each row that meets fmt, with fmt's text TOLD by the authors' own Lean function (tested against real Go, not proved from fmt's source: count such statements apart). THE CARD IS WHAT COUNTS. Prove the row's statement (the work); the ties are given (YtfhmamkafancbaaGreatDoorTie.lean); close each card by the builder's one call (the guide's Derived/Test/ToyasCard.lean, 'card_holds'). Laid BY PROGRAM, IN A SANDBOX (cutbox-door.mjs). By AI agents, Wed Nov 11 2026. No macro, syntax, notation, axiom, sorry.
-/
import Derived.Test.YtfhmamkafancbaaGreatDoorRows
import GoSem.ClaimSeven
namespace Go.Proofs.YtfhmamkafancbaaGreatDoor
namespace Rows

/-- THE TIED CARD OF 'anabranchlaw14.StoreWrites'. -/
def storeWritesCard : Claim7 := { stood := { row := storeWritesRow, standIns := [], harness := (true, "200e8ef92862dc5773bc8453bca915c50b1b4b6d23e898ffc1f9ef68e04a91ee"), looks := true }, kinds := [], alts := [], laidByText := true, laidKinds := [.data, .data, .data, .sentinel, .sentinel], laidTests := true, laidLooks := .later }
def StoreWritesCardSaid : Prop := Claim7.holds Tryz.pinned (.plain (OpenSpec.ofChange storeWritesSpec)) storeWritesCard

/-- THE TIED CARD OF 'anabranchlaw14.StorePuts'. -/
def storePutsCard : Claim7 := { stood := { row := storePutsRow, standIns := [], harness := (true, "200e8ef92862dc5773bc8453bca915c50b1b4b6d23e898ffc1f9ef68e04a91ee"), looks := true }, kinds := [], alts := [], laidByText := true, laidKinds := [.data, .data, .data, .sentinel, .sentinel], laidTests := true, laidLooks := .later }
def StorePutsCardSaid : Prop := Claim7.holds Tryz.pinned (.plain (OpenSpec.ofChange storePutsSpec)) storePutsCard

/-- THE TIED CARD OF 'anabranchlaw14.StoreKeeps'. -/
def storeKeepsCard : Claim7 := { stood := { row := storeKeepsRow, standIns := [], harness := (true, "200e8ef92862dc5773bc8453bca915c50b1b4b6d23e898ffc1f9ef68e04a91ee"), looks := true }, kinds := [], alts := [], laidByText := true, laidKinds := [.data, .data, .data, .sentinel, .sentinel], laidTests := true, laidLooks := .later }
def StoreKeepsCardSaid : Prop := Claim7.holds Tryz.pinned (.plain (OpenSpec.ofChange storeKeepsSpec)) storeKeepsCard

/-- THE TIED CARD OF 'anabranchlaw14.StoreFull'. -/
def storeFullCard : Claim7 := { stood := { row := storeFullRow, standIns := [], harness := (true, "200e8ef92862dc5773bc8453bca915c50b1b4b6d23e898ffc1f9ef68e04a91ee"), looks := true }, kinds := [], alts := [], laidByText := true, laidKinds := [.data, .data, .data, .sentinel, .sentinel], laidTests := true, laidLooks := .later }
def StoreFullCardSaid : Prop := Claim7.holds Tryz.pinned (.plain (OpenSpec.ofChange storeFullSpec)) storeFullCard

/-- THE TIED CARD OF 'anabranchlaw14.StoreFalls'. -/
def storeFallsCard : Claim7 := { stood := { row := storeFallsRow, standIns := [], harness := (true, "200e8ef92862dc5773bc8453bca915c50b1b4b6d23e898ffc1f9ef68e04a91ee"), looks := true }, kinds := [], alts := [], laidByText := true, laidKinds := [.data, .data, .data, .sentinel, .sentinel], laidTests := true, laidLooks := .later }
def StoreFallsCardSaid : Prop := Claim7.holds Tryz.pinned (.plain (OpenSpec.ofChange storeFallsSpec)) storeFallsCard

/-- THE TIED CARD OF 'anabranchlaw14.StoreErrs'. -/
def storeErrsCard : Claim7 := { stood := { row := storeErrsRow, standIns := [], harness := (true, "200e8ef92862dc5773bc8453bca915c50b1b4b6d23e898ffc1f9ef68e04a91ee"), looks := true }, kinds := [], alts := [], laidByText := true, laidKinds := [.data, .data, .data, .sentinel, .sentinel], laidTests := true, laidLooks := .later }
def StoreErrsCardSaid : Prop := Claim7.holds Tryz.pinned (.plain (OpenSpec.ofChange storeErrsSpec)) storeErrsCard

/-- THE TIED CARD OF 'anabranchlaw15.ViewStores'. -/
def viewStoresCard : Claim7 := { stood := { row := viewStoresRow, standIns := [], harness := (true, "200e8ef92862dc5773bc8453bca915c50b1b4b6d23e898ffc1f9ef68e04a91ee"), looks := true }, kinds := [], alts := [], laidByText := true, laidKinds := [.data, .data, .data, .sentinel, .sentinel], laidTests := true, laidLooks := .later }
def ViewStoresCardSaid : Prop := Claim7.holds Tryz.pinned (.plain (OpenSpec.ofChange viewStoresSpec)) viewStoresCard

/-- THE SECOND FORM's CARD OF 'anabranchlaw14.StoreWrites'. -/
def storeWritesUptoCard : Claim7 := { stood := { row := storeWritesUptoRow, standIns := [], harness := (true, "200e8ef92862dc5773bc8453bca915c50b1b4b6d23e898ffc1f9ef68e04a91ee"), looks := true }, kinds := [], alts := [], laidByText := true, laidKinds := [.data, .data, .data, .sentinel, .sentinel], laidTests := true, laidLooks := .later }
def StoreWritesUptoCardSaid : Prop := Claim7.holds Tryz.pinned (.plain (OpenSpec.upto storeWritesSpec)) storeWritesUptoCard

/-- THE SECOND FORM's CARD OF 'anabranchlaw14.StorePuts'. -/
def storePutsUptoCard : Claim7 := { stood := { row := storePutsUptoRow, standIns := [], harness := (true, "200e8ef92862dc5773bc8453bca915c50b1b4b6d23e898ffc1f9ef68e04a91ee"), looks := true }, kinds := [], alts := [], laidByText := true, laidKinds := [.data, .data, .data, .sentinel, .sentinel], laidTests := true, laidLooks := .later }
def StorePutsUptoCardSaid : Prop := Claim7.holds Tryz.pinned (.plain (OpenSpec.upto storePutsSpec)) storePutsUptoCard

/-- THE SECOND FORM's CARD OF 'anabranchlaw14.StoreKeeps'. -/
def storeKeepsUptoCard : Claim7 := { stood := { row := storeKeepsUptoRow, standIns := [], harness := (true, "200e8ef92862dc5773bc8453bca915c50b1b4b6d23e898ffc1f9ef68e04a91ee"), looks := true }, kinds := [], alts := [], laidByText := true, laidKinds := [.data, .data, .data, .sentinel, .sentinel], laidTests := true, laidLooks := .later }
def StoreKeepsUptoCardSaid : Prop := Claim7.holds Tryz.pinned (.plain (OpenSpec.upto storeKeepsSpec)) storeKeepsUptoCard

/-- THE SECOND FORM's CARD OF 'anabranchlaw14.StoreFull'. -/
def storeFullUptoCard : Claim7 := { stood := { row := storeFullUptoRow, standIns := [], harness := (true, "200e8ef92862dc5773bc8453bca915c50b1b4b6d23e898ffc1f9ef68e04a91ee"), looks := true }, kinds := [], alts := [], laidByText := true, laidKinds := [.data, .data, .data, .sentinel, .sentinel], laidTests := true, laidLooks := .later }
def StoreFullUptoCardSaid : Prop := Claim7.holds Tryz.pinned (.plain (OpenSpec.upto storeFullSpec)) storeFullUptoCard

/-- THE SECOND FORM's CARD OF 'anabranchlaw14.StoreFalls'. -/
def storeFallsUptoCard : Claim7 := { stood := { row := storeFallsUptoRow, standIns := [], harness := (true, "200e8ef92862dc5773bc8453bca915c50b1b4b6d23e898ffc1f9ef68e04a91ee"), looks := true }, kinds := [], alts := [], laidByText := true, laidKinds := [.data, .data, .data, .sentinel, .sentinel], laidTests := true, laidLooks := .later }
def StoreFallsUptoCardSaid : Prop := Claim7.holds Tryz.pinned (.plain (OpenSpec.upto storeFallsSpec)) storeFallsUptoCard

/-- THE SECOND FORM's CARD OF 'anabranchlaw14.StoreErrs'. -/
def storeErrsUptoCard : Claim7 := { stood := { row := storeErrsUptoRow, standIns := [], harness := (true, "200e8ef92862dc5773bc8453bca915c50b1b4b6d23e898ffc1f9ef68e04a91ee"), looks := true }, kinds := [], alts := [], laidByText := true, laidKinds := [.data, .data, .data, .sentinel, .sentinel], laidTests := true, laidLooks := .later }
def StoreErrsUptoCardSaid : Prop := Claim7.holds Tryz.pinned (.plain (OpenSpec.upto storeErrsSpec)) storeErrsUptoCard

/-- THE SECOND FORM's CARD OF 'anabranchlaw15.ViewStores'. -/
def viewStoresUptoCard : Claim7 := { stood := { row := viewStoresUptoRow, standIns := [], harness := (true, "200e8ef92862dc5773bc8453bca915c50b1b4b6d23e898ffc1f9ef68e04a91ee"), looks := true }, kinds := [], alts := [], laidByText := true, laidKinds := [.data, .data, .data, .sentinel, .sentinel], laidTests := true, laidLooks := .later }
def ViewStoresUptoCardSaid : Prop := Claim7.holds Tryz.pinned (.plain (OpenSpec.upto viewStoresSpec)) viewStoresUptoCard
end Rows
end Go.Proofs.YtfhmamkafancbaaGreatDoor
