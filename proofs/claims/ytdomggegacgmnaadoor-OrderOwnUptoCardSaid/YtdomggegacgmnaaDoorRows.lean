/-
  NARROWER THAN 'FOR EVERY INPUT', by the rows' own cells (each row's printed sentence says how): OrderCompares: laid · OrderSorts: laid · OrderCommon: laid · OrderFolds: laid · OrderTotal: laid · OrderValid: laid · OrderSorted: laid · OrderOwn: laid.
  DERIVED. THE GIVEN ROWS OF THIS SEAT. 8 by the template 'for every input the law returns true; each argument reads behind the call as it read before'; 0 by the template 'total and deterministic' (their statements: YtdomggegacgmnaaDoorTotals.lean).
  GIVEN WITH THE SEED: the statements are not yours to turn. If you find one false, say at which input.
  Laid BY PROGRAM, IN A SANDBOX (cutbox-rows.mjs): the forced cells as the released guide's own fill.sh prints them over the translation 37a1ade5c7a67831… (all of the seat's roots in one cut). By AI agents, Wed Nov 11 2026. No macro, syntax, notation, axiom, sorry.
-/
import Derived.Test.YtdomggegacgmnaaDoorChecked
import GoSem.Claim
import GoSem.ClaimJoined
import GoSem.ClaimMapViews
import Derived.JoinedTies
import Derived.KernelRfl
namespace Go.Proofs.YtdomggegacgmnaaDoor
/- THE CELL 'sum', in the pinned program and in every row, IS THE sha256 OF THE DUMP (.gsa) THAT YtdomggegacgmnaaDoorProg.lean LOADS. Nothing in Lean hashes anything: it is a label: what it is worth is what the hold of that sum in a sandbox is worth. -/
noncomputable def Tryd.pinned : Pinned := { name := "ytdomggegacgmnaadoor", sum := "37a1ade5c7a6783191ef99e3bb5615336d9f00a7f4792aea3780b019889cf3d9", checked := Tryd.checked }
namespace Rows
def none {H : Type} : Left H := { results := [], args := [] }

/- WHAT THE LISTED PACKAGE-LEVEL VARIABLES READ AS WHEN THE CALL BEGINS. Each datum BY PROGRAM (the guide's laid-datum.mjs) off the statement by which the dump's own 'gosem.cut.vars' lays the variable. In a bare row this is a premise. The card (YtdomggegacgmnaaDoorCards.lean) ties it to the program's text. -/
def laid_galley_step_bad {H : Type} : DataW H := .agg [.lit (.int .i32 65533), .lit (.int .i64 1), .lit (.bool false)]

/-- 'galleylaw31.OrderCompares': WHATEVER THE INPUT: true; the input reads as it did. -/
def orderComparesSpec : ChangeSpec := { name := "orderCompares", fn := fun _ => fun
  | [d1, d2, d3] => { results := [.lit (.bool true)], args := [d1, d2, d3] }
  | _ => none }
def orderComparesRow : OpenClaim := { program := "ytdomggegacgmnaadoor", sum := "37a1ade5c7a6783191ef99e3bb5615336d9f00a7f4792aea3780b019889cf3d9", func := "galley/galleylaw31.OrderCompares", spec := "orderCompares", unfollowed := true, recurses := true, named := ["galley/step.bad"], apart := false, laid := [("galley/step.bad", laid_galley_step_bad)] }
def OrderComparesSaid : Prop := orderComparesRow.holds Tryd.pinned (OpenSpec.ofChange orderComparesSpec)

/-- ITS FALSE NEIGHBOUR: 'it returns false'. Refute it at one input. -/
def orderComparesWrong : ChangeSpec := { name := "orderCompares", fn := fun _ => fun
  | [d1, d2, d3] => { results := [.lit (.bool false)], args := [d1, d2, d3] }
  | _ => none }
def OrderComparesWrongFalsely : Prop := orderComparesRow.holds Tryd.pinned (OpenSpec.ofChange orderComparesWrong)

/-- 'galleylaw31.OrderSorts': WHATEVER THE INPUT: true; the input reads as it did. -/
def orderSortsSpec : ChangeSpec := { name := "orderSorts", fn := fun _ => fun
  | [d1, d2] => { results := [.lit (.bool true)], args := [d1, d2] }
  | _ => none }
def orderSortsRow : OpenClaim := { program := "ytdomggegacgmnaadoor", sum := "37a1ade5c7a6783191ef99e3bb5615336d9f00a7f4792aea3780b019889cf3d9", func := "galley/galleylaw31.OrderSorts", spec := "orderSorts", unfollowed := true, recurses := true, named := ["galley/step.bad"], apart := false, laid := [("galley/step.bad", laid_galley_step_bad)] }
def OrderSortsSaid : Prop := orderSortsRow.holds Tryd.pinned (OpenSpec.ofChange orderSortsSpec)

/-- ITS FALSE NEIGHBOUR: 'it returns false'. Refute it at one input. -/
def orderSortsWrong : ChangeSpec := { name := "orderSorts", fn := fun _ => fun
  | [d1, d2] => { results := [.lit (.bool false)], args := [d1, d2] }
  | _ => none }
def OrderSortsWrongFalsely : Prop := orderSortsRow.holds Tryd.pinned (OpenSpec.ofChange orderSortsWrong)

/-- 'galleylaw31.OrderCommon': WHATEVER THE INPUT: true; the input reads as it did. -/
def orderCommonSpec : ChangeSpec := { name := "orderCommon", fn := fun _ => fun
  | [d1, d2] => { results := [.lit (.bool true)], args := [d1, d2] }
  | _ => none }
def orderCommonRow : OpenClaim := { program := "ytdomggegacgmnaadoor", sum := "37a1ade5c7a6783191ef99e3bb5615336d9f00a7f4792aea3780b019889cf3d9", func := "galley/galleylaw31.OrderCommon", spec := "orderCommon", unfollowed := true, recurses := true, named := ["galley/step.bad"], apart := false, laid := [("galley/step.bad", laid_galley_step_bad)] }
def OrderCommonSaid : Prop := orderCommonRow.holds Tryd.pinned (OpenSpec.ofChange orderCommonSpec)

/-- ITS FALSE NEIGHBOUR: 'it returns false'. Refute it at one input. -/
def orderCommonWrong : ChangeSpec := { name := "orderCommon", fn := fun _ => fun
  | [d1, d2] => { results := [.lit (.bool false)], args := [d1, d2] }
  | _ => none }
def OrderCommonWrongFalsely : Prop := orderCommonRow.holds Tryd.pinned (OpenSpec.ofChange orderCommonWrong)

/-- 'galleylaw31.OrderFolds': WHATEVER THE INPUT: true; the input reads as it did. -/
def orderFoldsSpec : ChangeSpec := { name := "orderFolds", fn := fun _ => fun
  | [d] => { results := [.lit (.bool true)], args := [d] }
  | _ => none }
def orderFoldsRow : OpenClaim := { program := "ytdomggegacgmnaadoor", sum := "37a1ade5c7a6783191ef99e3bb5615336d9f00a7f4792aea3780b019889cf3d9", func := "galley/galleylaw31.OrderFolds", spec := "orderFolds", unfollowed := true, recurses := true, named := ["galley/step.bad"], apart := false, laid := [("galley/step.bad", laid_galley_step_bad)] }
def OrderFoldsSaid : Prop := orderFoldsRow.holds Tryd.pinned (OpenSpec.ofChange orderFoldsSpec)

/-- ITS FALSE NEIGHBOUR: 'it returns false'. Refute it at one input. -/
def orderFoldsWrong : ChangeSpec := { name := "orderFolds", fn := fun _ => fun
  | [d] => { results := [.lit (.bool false)], args := [d] }
  | _ => none }
def OrderFoldsWrongFalsely : Prop := orderFoldsRow.holds Tryd.pinned (OpenSpec.ofChange orderFoldsWrong)

/-- 'galleylaw31.OrderTotal': WHATEVER THE INPUT: true; the input reads as it did. -/
def orderTotalSpec : ChangeSpec := { name := "orderTotal", fn := fun _ => fun
  | [d1, d2, d3] => { results := [.lit (.bool true)], args := [d1, d2, d3] }
  | _ => none }
def orderTotalRow : OpenClaim := { program := "ytdomggegacgmnaadoor", sum := "37a1ade5c7a6783191ef99e3bb5615336d9f00a7f4792aea3780b019889cf3d9", func := "galley/galleylaw31.OrderTotal", spec := "orderTotal", unfollowed := true, recurses := true, named := ["galley/step.bad"], apart := false, laid := [("galley/step.bad", laid_galley_step_bad)] }
def OrderTotalSaid : Prop := orderTotalRow.holds Tryd.pinned (OpenSpec.ofChange orderTotalSpec)

/-- ITS FALSE NEIGHBOUR: 'it returns false'. Refute it at one input. -/
def orderTotalWrong : ChangeSpec := { name := "orderTotal", fn := fun _ => fun
  | [d1, d2, d3] => { results := [.lit (.bool false)], args := [d1, d2, d3] }
  | _ => none }
def OrderTotalWrongFalsely : Prop := orderTotalRow.holds Tryd.pinned (OpenSpec.ofChange orderTotalWrong)

/-- 'galleylaw31.OrderValid': WHATEVER THE INPUT: true; the input reads as it did. -/
def orderValidSpec : ChangeSpec := { name := "orderValid", fn := fun _ => fun
  | [d1, d2] => { results := [.lit (.bool true)], args := [d1, d2] }
  | _ => none }
def orderValidRow : OpenClaim := { program := "ytdomggegacgmnaadoor", sum := "37a1ade5c7a6783191ef99e3bb5615336d9f00a7f4792aea3780b019889cf3d9", func := "galley/galleylaw31.OrderValid", spec := "orderValid", unfollowed := true, recurses := true, named := ["galley/step.bad"], apart := false, laid := [("galley/step.bad", laid_galley_step_bad)] }
def OrderValidSaid : Prop := orderValidRow.holds Tryd.pinned (OpenSpec.ofChange orderValidSpec)

/-- ITS FALSE NEIGHBOUR: 'it returns false'. Refute it at one input. -/
def orderValidWrong : ChangeSpec := { name := "orderValid", fn := fun _ => fun
  | [d1, d2] => { results := [.lit (.bool false)], args := [d1, d2] }
  | _ => none }
def OrderValidWrongFalsely : Prop := orderValidRow.holds Tryd.pinned (OpenSpec.ofChange orderValidWrong)

/-- 'galleylaw31.OrderSorted': WHATEVER THE INPUT: true; the input reads as it did. -/
def orderSortedSpec : ChangeSpec := { name := "orderSorted", fn := fun _ => fun
  | [d1, d2] => { results := [.lit (.bool true)], args := [d1, d2] }
  | _ => none }
def orderSortedRow : OpenClaim := { program := "ytdomggegacgmnaadoor", sum := "37a1ade5c7a6783191ef99e3bb5615336d9f00a7f4792aea3780b019889cf3d9", func := "galley/galleylaw31.OrderSorted", spec := "orderSorted", unfollowed := true, recurses := true, named := ["galley/step.bad"], apart := false, laid := [("galley/step.bad", laid_galley_step_bad)] }
def OrderSortedSaid : Prop := orderSortedRow.holds Tryd.pinned (OpenSpec.ofChange orderSortedSpec)

/-- ITS FALSE NEIGHBOUR: 'it returns false'. Refute it at one input. -/
def orderSortedWrong : ChangeSpec := { name := "orderSorted", fn := fun _ => fun
  | [d1, d2] => { results := [.lit (.bool false)], args := [d1, d2] }
  | _ => none }
def OrderSortedWrongFalsely : Prop := orderSortedRow.holds Tryd.pinned (OpenSpec.ofChange orderSortedWrong)

/-- 'galleylaw31.OrderOwn': WHATEVER THE INPUT: true; the input reads as it did. -/
def orderOwnSpec : ChangeSpec := { name := "orderOwn", fn := fun _ => fun
  | [d1, d2, d3] => { results := [.lit (.bool true)], args := [d1, d2, d3] }
  | _ => none }
def orderOwnRow : OpenClaim := { program := "ytdomggegacgmnaadoor", sum := "37a1ade5c7a6783191ef99e3bb5615336d9f00a7f4792aea3780b019889cf3d9", func := "galley/galleylaw31.OrderOwn", spec := "orderOwn", unfollowed := true, recurses := true, named := ["galley/step.bad"], apart := false, laid := [("galley/step.bad", laid_galley_step_bad)] }
def OrderOwnSaid : Prop := orderOwnRow.holds Tryd.pinned (OpenSpec.ofChange orderOwnSpec)

/-- ITS FALSE NEIGHBOUR: 'it returns false'. Refute it at one input. -/
def orderOwnWrong : ChangeSpec := { name := "orderOwn", fn := fun _ => fun
  | [d1, d2, d3] => { results := [.lit (.bool false)], args := [d1, d2, d3] }
  | _ => none }
def OrderOwnWrongFalsely : Prop := orderOwnRow.holds Tryd.pinned (OpenSpec.ofChange orderOwnWrong)

/- THE SECOND FORM. 'bulk': how many values and letters a reading holds, each counted each time it is reached (what is shared counts as often as it is met; a slice's spare places count too). A statement '..UptoSaid' is the law's where the arguments, and the package variables that the reading takes, are together of bulk at most 1048576: NARROWER than '..Said'. Prove '..Said' where nothing that the law and all that it calls make is longer than what came in: it says more and counts as full. Else prove '..UptoSaid'. A law counts once. -/
mutual
def uptoBulk {H : Type} : DataW H → Nat
  | .lit (.string bytes) => bytes.length + 1
  | .lit _ => 1
  | .nil => 1
  | .ptr d => uptoBulk d + 1
  | .slice elems spare => uptoBulkAll elems + uptoBulkAll spare + 1
  | .agg parts => uptoBulkAll parts + 1
  | .iface _ d => uptoBulk d + 1
  | .map entries => uptoBulkEntries entries + 1
  | .held _ => 1
def uptoBulkAll {H : Type} : List (DataW H) → Nat
  | [] => 0
  | d :: r => uptoBulk d + uptoBulkAll r
def uptoBulkEntries {H : Type} : List (Lit × DataW H) → Nat
  | [] => 0
  | x :: r => uptoBulkEntry x + uptoBulkEntries r
def uptoBulkEntry {H : Type} : Lit × DataW H → Nat
  | (.string bytes, d) => bytes.length + uptoBulk d + 1
  | (_, d) => uptoBulk d + 1
 end
def uptoSmall : (H : Type) → List (DataW H) → Bool := fun _ ds => decide (uptoBulkAll ds ≤ 1048576)
def OpenSpec.upto (s : _root_.Go.ChangeSpec) : _root_.Go.OpenSpec := { _root_.Go.OpenSpec.ofChange s with cond := some uptoSmall }

/-- 'galleylaw31.OrderCompares', WHERE WHAT IT READS IS OF BULK AT MOST 1048576: true; the input reads as it did. -/
def orderComparesUptoRow : OpenClaim := { program := "ytdomggegacgmnaadoor", sum := "37a1ade5c7a6783191ef99e3bb5615336d9f00a7f4792aea3780b019889cf3d9", func := "galley/galleylaw31.OrderCompares", spec := "orderCompares", unfollowed := true, recurses := true, named := ["galley/step.bad"], apart := false, laid := [("galley/step.bad", laid_galley_step_bad)], narrowed := true }
def OrderComparesUptoSaid : Prop := orderComparesUptoRow.holds Tryd.pinned (OpenSpec.upto orderComparesSpec)

/-- 'galleylaw31.OrderSorts', WHERE WHAT IT READS IS OF BULK AT MOST 1048576: true; the input reads as it did. -/
def orderSortsUptoRow : OpenClaim := { program := "ytdomggegacgmnaadoor", sum := "37a1ade5c7a6783191ef99e3bb5615336d9f00a7f4792aea3780b019889cf3d9", func := "galley/galleylaw31.OrderSorts", spec := "orderSorts", unfollowed := true, recurses := true, named := ["galley/step.bad"], apart := false, laid := [("galley/step.bad", laid_galley_step_bad)], narrowed := true }
def OrderSortsUptoSaid : Prop := orderSortsUptoRow.holds Tryd.pinned (OpenSpec.upto orderSortsSpec)

/-- 'galleylaw31.OrderCommon', WHERE WHAT IT READS IS OF BULK AT MOST 1048576: true; the input reads as it did. -/
def orderCommonUptoRow : OpenClaim := { program := "ytdomggegacgmnaadoor", sum := "37a1ade5c7a6783191ef99e3bb5615336d9f00a7f4792aea3780b019889cf3d9", func := "galley/galleylaw31.OrderCommon", spec := "orderCommon", unfollowed := true, recurses := true, named := ["galley/step.bad"], apart := false, laid := [("galley/step.bad", laid_galley_step_bad)], narrowed := true }
def OrderCommonUptoSaid : Prop := orderCommonUptoRow.holds Tryd.pinned (OpenSpec.upto orderCommonSpec)

/-- 'galleylaw31.OrderFolds', WHERE WHAT IT READS IS OF BULK AT MOST 1048576: true; the input reads as it did. -/
def orderFoldsUptoRow : OpenClaim := { program := "ytdomggegacgmnaadoor", sum := "37a1ade5c7a6783191ef99e3bb5615336d9f00a7f4792aea3780b019889cf3d9", func := "galley/galleylaw31.OrderFolds", spec := "orderFolds", unfollowed := true, recurses := true, named := ["galley/step.bad"], apart := false, laid := [("galley/step.bad", laid_galley_step_bad)], narrowed := true }
def OrderFoldsUptoSaid : Prop := orderFoldsUptoRow.holds Tryd.pinned (OpenSpec.upto orderFoldsSpec)

/-- 'galleylaw31.OrderTotal', WHERE WHAT IT READS IS OF BULK AT MOST 1048576: true; the input reads as it did. -/
def orderTotalUptoRow : OpenClaim := { program := "ytdomggegacgmnaadoor", sum := "37a1ade5c7a6783191ef99e3bb5615336d9f00a7f4792aea3780b019889cf3d9", func := "galley/galleylaw31.OrderTotal", spec := "orderTotal", unfollowed := true, recurses := true, named := ["galley/step.bad"], apart := false, laid := [("galley/step.bad", laid_galley_step_bad)], narrowed := true }
def OrderTotalUptoSaid : Prop := orderTotalUptoRow.holds Tryd.pinned (OpenSpec.upto orderTotalSpec)

/-- 'galleylaw31.OrderValid', WHERE WHAT IT READS IS OF BULK AT MOST 1048576: true; the input reads as it did. -/
def orderValidUptoRow : OpenClaim := { program := "ytdomggegacgmnaadoor", sum := "37a1ade5c7a6783191ef99e3bb5615336d9f00a7f4792aea3780b019889cf3d9", func := "galley/galleylaw31.OrderValid", spec := "orderValid", unfollowed := true, recurses := true, named := ["galley/step.bad"], apart := false, laid := [("galley/step.bad", laid_galley_step_bad)], narrowed := true }
def OrderValidUptoSaid : Prop := orderValidUptoRow.holds Tryd.pinned (OpenSpec.upto orderValidSpec)

/-- 'galleylaw31.OrderSorted', WHERE WHAT IT READS IS OF BULK AT MOST 1048576: true; the input reads as it did. -/
def orderSortedUptoRow : OpenClaim := { program := "ytdomggegacgmnaadoor", sum := "37a1ade5c7a6783191ef99e3bb5615336d9f00a7f4792aea3780b019889cf3d9", func := "galley/galleylaw31.OrderSorted", spec := "orderSorted", unfollowed := true, recurses := true, named := ["galley/step.bad"], apart := false, laid := [("galley/step.bad", laid_galley_step_bad)], narrowed := true }
def OrderSortedUptoSaid : Prop := orderSortedUptoRow.holds Tryd.pinned (OpenSpec.upto orderSortedSpec)

/-- 'galleylaw31.OrderOwn', WHERE WHAT IT READS IS OF BULK AT MOST 1048576: true; the input reads as it did. -/
def orderOwnUptoRow : OpenClaim := { program := "ytdomggegacgmnaadoor", sum := "37a1ade5c7a6783191ef99e3bb5615336d9f00a7f4792aea3780b019889cf3d9", func := "galley/galleylaw31.OrderOwn", spec := "orderOwn", unfollowed := true, recurses := true, named := ["galley/step.bad"], apart := false, laid := [("galley/step.bad", laid_galley_step_bad)], narrowed := true }
def OrderOwnUptoSaid : Prop := orderOwnUptoRow.holds Tryd.pinned (OpenSpec.upto orderOwnSpec)

end Rows
end Go.Proofs.YtdomggegacgmnaaDoor
