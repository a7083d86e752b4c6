/-
  DERIVED. GIVEN WITH THE SEED: THE CARDS: each row of YtdomggegacgmnaaDoorRows.lean that lists a variable, with what it lists TIED to the program's text (the seventh form; the later family's looks); each row that meets fmt, with fmt's text TOLD by the authors' own Lean function (tested against real Go, not proved from fmt's source: count such statements apart). THE CARD IS WHAT COUNTS. Prove the row's statement (the work); the ties are given (YtdomggegacgmnaaDoorTie.lean); close each card by the builder's one call (the guide's Derived/Test/ToyasCard.lean, 'card_holds'). Laid BY PROGRAM, IN A SANDBOX (cutbox-door.mjs). By AI agents, Wed Nov 11 2026. No macro, syntax, notation, axiom, sorry.
-/
import Derived.Test.YtdomggegacgmnaaDoorRows
import GoSem.ClaimSeven
namespace Go.Proofs.YtdomggegacgmnaaDoor
namespace Rows

/-- THE TIED CARD OF 'galleylaw31.OrderCompares'. -/
def orderComparesCard : Claim7 := { stood := { row := orderComparesRow, standIns := [], harness := (true, "f76e6fcf2bf45ebf93fd4c81f80f966381e277054129874bdc8e28d67c7b4b07"), looks := false }, kinds := [], alts := [], laidByText := true, laidKinds := [.data], laidTests := true, laidLooks := .later }
def OrderComparesCardSaid : Prop := Claim7.holds Tryd.pinned (.plain (OpenSpec.ofChange orderComparesSpec)) orderComparesCard

/-- THE TIED CARD OF 'galleylaw31.OrderSorts'. -/
def orderSortsCard : Claim7 := { stood := { row := orderSortsRow, standIns := [], harness := (true, "f76e6fcf2bf45ebf93fd4c81f80f966381e277054129874bdc8e28d67c7b4b07"), looks := false }, kinds := [], alts := [], laidByText := true, laidKinds := [.data], laidTests := true, laidLooks := .later }
def OrderSortsCardSaid : Prop := Claim7.holds Tryd.pinned (.plain (OpenSpec.ofChange orderSortsSpec)) orderSortsCard

/-- THE TIED CARD OF 'galleylaw31.OrderCommon'. -/
def orderCommonCard : Claim7 := { stood := { row := orderCommonRow, standIns := [], harness := (true, "f76e6fcf2bf45ebf93fd4c81f80f966381e277054129874bdc8e28d67c7b4b07"), looks := false }, kinds := [], alts := [], laidByText := true, laidKinds := [.data], laidTests := true, laidLooks := .later }
def OrderCommonCardSaid : Prop := Claim7.holds Tryd.pinned (.plain (OpenSpec.ofChange orderCommonSpec)) orderCommonCard

/-- THE TIED CARD OF 'galleylaw31.OrderFolds'. -/
def orderFoldsCard : Claim7 := { stood := { row := orderFoldsRow, standIns := [], harness := (true, "f76e6fcf2bf45ebf93fd4c81f80f966381e277054129874bdc8e28d67c7b4b07"), looks := false }, kinds := [], alts := [], laidByText := true, laidKinds := [.data], laidTests := true, laidLooks := .later }
def OrderFoldsCardSaid : Prop := Claim7.holds Tryd.pinned (.plain (OpenSpec.ofChange orderFoldsSpec)) orderFoldsCard

/-- THE TIED CARD OF 'galleylaw31.OrderTotal'. -/
def orderTotalCard : Claim7 := { stood := { row := orderTotalRow, standIns := [], harness := (true, "f76e6fcf2bf45ebf93fd4c81f80f966381e277054129874bdc8e28d67c7b4b07"), looks := false }, kinds := [], alts := [], laidByText := true, laidKinds := [.data], laidTests := true, laidLooks := .later }
def OrderTotalCardSaid : Prop := Claim7.holds Tryd.pinned (.plain (OpenSpec.ofChange orderTotalSpec)) orderTotalCard

/-- THE TIED CARD OF 'galleylaw31.OrderValid'. -/
def orderValidCard : Claim7 := { stood := { row := orderValidRow, standIns := [], harness := (true, "f76e6fcf2bf45ebf93fd4c81f80f966381e277054129874bdc8e28d67c7b4b07"), looks := false }, kinds := [], alts := [], laidByText := true, laidKinds := [.data], laidTests := true, laidLooks := .later }
def OrderValidCardSaid : Prop := Claim7.holds Tryd.pinned (.plain (OpenSpec.ofChange orderValidSpec)) orderValidCard

/-- THE TIED CARD OF 'galleylaw31.OrderSorted'. -/
def orderSortedCard : Claim7 := { stood := { row := orderSortedRow, standIns := [], harness := (true, "f76e6fcf2bf45ebf93fd4c81f80f966381e277054129874bdc8e28d67c7b4b07"), looks := false }, kinds := [], alts := [], laidByText := true, laidKinds := [.data], laidTests := true, laidLooks := .later }
def OrderSortedCardSaid : Prop := Claim7.holds Tryd.pinned (.plain (OpenSpec.ofChange orderSortedSpec)) orderSortedCard

/-- THE TIED CARD OF 'galleylaw31.OrderOwn'. -/
def orderOwnCard : Claim7 := { stood := { row := orderOwnRow, standIns := [], harness := (true, "f76e6fcf2bf45ebf93fd4c81f80f966381e277054129874bdc8e28d67c7b4b07"), looks := false }, kinds := [], alts := [], laidByText := true, laidKinds := [.data], laidTests := true, laidLooks := .later }
def OrderOwnCardSaid : Prop := Claim7.holds Tryd.pinned (.plain (OpenSpec.ofChange orderOwnSpec)) orderOwnCard

/-- THE SECOND FORM's CARD OF 'galleylaw31.OrderCompares'. -/
def orderComparesUptoCard : Claim7 := { stood := { row := orderComparesUptoRow, standIns := [], harness := (true, "f76e6fcf2bf45ebf93fd4c81f80f966381e277054129874bdc8e28d67c7b4b07"), looks := false }, kinds := [], alts := [], laidByText := true, laidKinds := [.data], laidTests := true, laidLooks := .later }
def OrderComparesUptoCardSaid : Prop := Claim7.holds Tryd.pinned (.plain (OpenSpec.upto orderComparesSpec)) orderComparesUptoCard

/-- THE SECOND FORM's CARD OF 'galleylaw31.OrderSorts'. -/
def orderSortsUptoCard : Claim7 := { stood := { row := orderSortsUptoRow, standIns := [], harness := (true, "f76e6fcf2bf45ebf93fd4c81f80f966381e277054129874bdc8e28d67c7b4b07"), looks := false }, kinds := [], alts := [], laidByText := true, laidKinds := [.data], laidTests := true, laidLooks := .later }
def OrderSortsUptoCardSaid : Prop := Claim7.holds Tryd.pinned (.plain (OpenSpec.upto orderSortsSpec)) orderSortsUptoCard

/-- THE SECOND FORM's CARD OF 'galleylaw31.OrderCommon'. -/
def orderCommonUptoCard : Claim7 := { stood := { row := orderCommonUptoRow, standIns := [], harness := (true, "f76e6fcf2bf45ebf93fd4c81f80f966381e277054129874bdc8e28d67c7b4b07"), looks := false }, kinds := [], alts := [], laidByText := true, laidKinds := [.data], laidTests := true, laidLooks := .later }
def OrderCommonUptoCardSaid : Prop := Claim7.holds Tryd.pinned (.plain (OpenSpec.upto orderCommonSpec)) orderCommonUptoCard

/-- THE SECOND FORM's CARD OF 'galleylaw31.OrderFolds'. -/
def orderFoldsUptoCard : Claim7 := { stood := { row := orderFoldsUptoRow, standIns := [], harness := (true, "f76e6fcf2bf45ebf93fd4c81f80f966381e277054129874bdc8e28d67c7b4b07"), looks := false }, kinds := [], alts := [], laidByText := true, laidKinds := [.data], laidTests := true, laidLooks := .later }
def OrderFoldsUptoCardSaid : Prop := Claim7.holds Tryd.pinned (.plain (OpenSpec.upto orderFoldsSpec)) orderFoldsUptoCard

/-- THE SECOND FORM's CARD OF 'galleylaw31.OrderTotal'. -/
def orderTotalUptoCard : Claim7 := { stood := { row := orderTotalUptoRow, standIns := [], harness := (true, "f76e6fcf2bf45ebf93fd4c81f80f966381e277054129874bdc8e28d67c7b4b07"), looks := false }, kinds := [], alts := [], laidByText := true, laidKinds := [.data], laidTests := true, laidLooks := .later }
def OrderTotalUptoCardSaid : Prop := Claim7.holds Tryd.pinned (.plain (OpenSpec.upto orderTotalSpec)) orderTotalUptoCard

/-- THE SECOND FORM's CARD OF 'galleylaw31.OrderValid'. -/
def orderValidUptoCard : Claim7 := { stood := { row := orderValidUptoRow, standIns := [], harness := (true, "f76e6fcf2bf45ebf93fd4c81f80f966381e277054129874bdc8e28d67c7b4b07"), looks := false }, kinds := [], alts := [], laidByText := true, laidKinds := [.data], laidTests := true, laidLooks := .later }
def OrderValidUptoCardSaid : Prop := Claim7.holds Tryd.pinned (.plain (OpenSpec.upto orderValidSpec)) orderValidUptoCard

/-- THE SECOND FORM's CARD OF 'galleylaw31.OrderSorted'. -/
def orderSortedUptoCard : Claim7 := { stood := { row := orderSortedUptoRow, standIns := [], harness := (true, "f76e6fcf2bf45ebf93fd4c81f80f966381e277054129874bdc8e28d67c7b4b07"), looks := false }, kinds := [], alts := [], laidByText := true, laidKinds := [.data], laidTests := true, laidLooks := .later }
def OrderSortedUptoCardSaid : Prop := Claim7.holds Tryd.pinned (.plain (OpenSpec.upto orderSortedSpec)) orderSortedUptoCard

/-- THE SECOND FORM's CARD OF 'galleylaw31.OrderOwn'. -/
def orderOwnUptoCard : Claim7 := { stood := { row := orderOwnUptoRow, standIns := [], harness := (true, "f76e6fcf2bf45ebf93fd4c81f80f966381e277054129874bdc8e28d67c7b4b07"), looks := false }, kinds := [], alts := [], laidByText := true, laidKinds := [.data], laidTests := true, laidLooks := .later }
def OrderOwnUptoCardSaid : Prop := Claim7.holds Tryd.pinned (.plain (OpenSpec.upto orderOwnSpec)) orderOwnUptoCard
end Rows
end Go.Proofs.YtdomggegacgmnaaDoor
