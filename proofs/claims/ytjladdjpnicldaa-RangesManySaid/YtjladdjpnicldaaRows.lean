/-
  No cell of these rows narrows 'for every input' (looked for: loops, veiled, ifaces, maps, wideKeys, modest, calm, conditions, laid).
  DERIVED. THE GIVEN ROWS OF THIS SEAT. 7 by the template 'for every input the law returns true; each argument reads behind the call as it read before'; 0 by the template 'total and deterministic' (their statements: YtjladdjpnicldaaTotals.lean).
  GIVEN WITH THE SEED: the statements are not yours to turn. If you find one false, say at which input.
  Laid BY PROGRAM, IN A SANDBOX (cutbox-rows.mjs): the forced cells as the released guide's own fill.sh prints them over the translation bc33b4fc691519d7… (all of the seat's roots in one cut). By AI agents, Wed Nov 11 2026. No macro, syntax, notation, axiom, sorry.
-/
import Derived.Test.YtjladdjpnicldaaChecked
import GoSem.Claim
import GoSem.ClaimJoined
import GoSem.ClaimMapViews
import Derived.JoinedTies
import Derived.KernelRfl
namespace Go.Proofs.Ytjladdjpnicldaa
/- THE CELL 'sum', in the pinned program and in every row, IS THE sha256 OF THE DUMP (.gsa) THAT YtjladdjpnicldaaProg.lean LOADS. Nothing in Lean hashes anything: it is a label: what it is worth is what the hold of that sum in a sandbox is worth. -/
noncomputable def Try.pinned : Pinned := { name := "ytjladdjpnicldaa", sum := "bc33b4fc691519d7ce731a426b12fdcc26626a070dbf6016c11a23df113cece5", checked := Try.checked }
namespace Rows
def none {H : Type} : Left H := { results := [], args := [] }

/-- 'galleylaw16.RangesNil': WHATEVER THE INPUT: true; the input reads as it did. -/
def rangesNilSpec : ChangeSpec := { name := "rangesNil", fn := fun _ => fun
  | [d1, d2] => { results := [.lit (.bool true)], args := [d1, d2] }
  | _ => none }
def rangesNilRow : OpenClaim := { program := "ytjladdjpnicldaa", sum := "bc33b4fc691519d7ce731a426b12fdcc26626a070dbf6016c11a23df113cece5", func := "galley/galleylaw16.RangesNil", spec := "rangesNil", inPlace := ["maps.clone"], unfollowed := true, recurses := true, apart := false }
def RangesNilSaid : Prop := rangesNilRow.holds Try.pinned (OpenSpec.ofChange rangesNilSpec)

/-- ITS FALSE NEIGHBOUR: 'it returns false'. Refute it at one input. -/
def rangesNilWrong : ChangeSpec := { name := "rangesNil", fn := fun _ => fun
  | [d1, d2] => { results := [.lit (.bool false)], args := [d1, d2] }
  | _ => none }
def RangesNilWrongFalsely : Prop := rangesNilRow.holds Try.pinned (OpenSpec.ofChange rangesNilWrong)

/-- 'galleylaw16.RangesOwn': WHATEVER THE INPUT: true; the input reads as it did. -/
def rangesOwnSpec : ChangeSpec := { name := "rangesOwn", fn := fun _ => fun
  | [d1, d2] => { results := [.lit (.bool true)], args := [d1, d2] }
  | _ => none }
def rangesOwnRow : OpenClaim := { program := "ytjladdjpnicldaa", sum := "bc33b4fc691519d7ce731a426b12fdcc26626a070dbf6016c11a23df113cece5", func := "galley/galleylaw16.RangesOwn", spec := "rangesOwn", inPlace := ["maps.clone"], unfollowed := true, recurses := true, apart := false }
def RangesOwnSaid : Prop := rangesOwnRow.holds Try.pinned (OpenSpec.ofChange rangesOwnSpec)

/-- ITS FALSE NEIGHBOUR: 'it returns false'. Refute it at one input. -/
def rangesOwnWrong : ChangeSpec := { name := "rangesOwn", fn := fun _ => fun
  | [d1, d2] => { results := [.lit (.bool false)], args := [d1, d2] }
  | _ => none }
def RangesOwnWrongFalsely : Prop := rangesOwnRow.holds Try.pinned (OpenSpec.ofChange rangesOwnWrong)

/-- 'galleylaw16.RangesHolds': WHATEVER THE INPUT: true; the input reads as it did. -/
def rangesHoldsSpec : ChangeSpec := { name := "rangesHolds", fn := fun _ => fun
  | [d1, d2, d3] => { results := [.lit (.bool true)], args := [d1, d2, d3] }
  | _ => none }
def rangesHoldsRow : OpenClaim := { program := "ytjladdjpnicldaa", sum := "bc33b4fc691519d7ce731a426b12fdcc26626a070dbf6016c11a23df113cece5", func := "galley/galleylaw16.RangesHolds", spec := "rangesHolds", inPlace := ["maps.clone"], unfollowed := true, recurses := true, apart := false }
def RangesHoldsSaid : Prop := rangesHoldsRow.holds Try.pinned (OpenSpec.ofChange rangesHoldsSpec)

/-- ITS FALSE NEIGHBOUR: 'it returns false'. Refute it at one input. -/
def rangesHoldsWrong : ChangeSpec := { name := "rangesHolds", fn := fun _ => fun
  | [d1, d2, d3] => { results := [.lit (.bool false)], args := [d1, d2, d3] }
  | _ => none }
def RangesHoldsWrongFalsely : Prop := rangesHoldsRow.holds Try.pinned (OpenSpec.ofChange rangesHoldsWrong)

/-- 'galleylaw16.RangesMany': WHATEVER THE INPUT: true; the input reads as it did. -/
def rangesManySpec : ChangeSpec := { name := "rangesMany", fn := fun _ => fun
  | [] => { results := [.lit (.bool true)], args := [] }
  | _ => none }
def rangesManyRow : OpenClaim := { program := "ytjladdjpnicldaa", sum := "bc33b4fc691519d7ce731a426b12fdcc26626a070dbf6016c11a23df113cece5", func := "galley/galleylaw16.RangesMany", spec := "rangesMany", inPlace := ["maps.clone"], unfollowed := true, recurses := true, apart := false }
def RangesManySaid : Prop := rangesManyRow.holds Try.pinned (OpenSpec.ofChange rangesManySpec)

/-- ITS FALSE NEIGHBOUR: 'it returns false'. Refute it at one input. -/
def rangesManyWrong : ChangeSpec := { name := "rangesMany", fn := fun _ => fun
  | [] => { results := [.lit (.bool false)], args := [] }
  | _ => none }
def RangesManyWrongFalsely : Prop := rangesManyRow.holds Try.pinned (OpenSpec.ofChange rangesManyWrong)

/-- 'galleylaw16.RangesCovers': WHATEVER THE INPUT: true; the input reads as it did. -/
def rangesCoversSpec : ChangeSpec := { name := "rangesCovers", fn := fun _ => fun
  | [d1, d2] => { results := [.lit (.bool true)], args := [d1, d2] }
  | _ => none }
def rangesCoversRow : OpenClaim := { program := "ytjladdjpnicldaa", sum := "bc33b4fc691519d7ce731a426b12fdcc26626a070dbf6016c11a23df113cece5", func := "galley/galleylaw16.RangesCovers", spec := "rangesCovers", inPlace := ["maps.clone"], unfollowed := true, recurses := true, apart := false }
def RangesCoversSaid : Prop := rangesCoversRow.holds Try.pinned (OpenSpec.ofChange rangesCoversSpec)

/-- ITS FALSE NEIGHBOUR: 'it returns false'. Refute it at one input. -/
def rangesCoversWrong : ChangeSpec := { name := "rangesCovers", fn := fun _ => fun
  | [d1, d2] => { results := [.lit (.bool false)], args := [d1, d2] }
  | _ => none }
def RangesCoversWrongFalsely : Prop := rangesCoversRow.holds Try.pinned (OpenSpec.ofChange rangesCoversWrong)

/-- 'galleylaw16.RangesPlays': WHATEVER THE INPUT: true; the input reads as it did. -/
def rangesPlaysSpec : ChangeSpec := { name := "rangesPlays", fn := fun _ => fun
  | [d1, d2] => { results := [.lit (.bool true)], args := [d1, d2] }
  | _ => none }
def rangesPlaysRow : OpenClaim := { program := "ytjladdjpnicldaa", sum := "bc33b4fc691519d7ce731a426b12fdcc26626a070dbf6016c11a23df113cece5", func := "galley/galleylaw16.RangesPlays", spec := "rangesPlays", inPlace := ["maps.clone"], unfollowed := true, recurses := true, apart := false }
def RangesPlaysSaid : Prop := rangesPlaysRow.holds Try.pinned (OpenSpec.ofChange rangesPlaysSpec)

/-- ITS FALSE NEIGHBOUR: 'it returns false'. Refute it at one input. -/
def rangesPlaysWrong : ChangeSpec := { name := "rangesPlays", fn := fun _ => fun
  | [d1, d2] => { results := [.lit (.bool false)], args := [d1, d2] }
  | _ => none }
def RangesPlaysWrongFalsely : Prop := rangesPlaysRow.holds Try.pinned (OpenSpec.ofChange rangesPlaysWrong)

/-- 'galleylaw16.RangesStay': WHATEVER THE INPUT: true; the input reads as it did. -/
def rangesStaySpec : ChangeSpec := { name := "rangesStay", fn := fun _ => fun
  | [d1, d2] => { results := [.lit (.bool true)], args := [d1, d2] }
  | _ => none }
def rangesStayRow : OpenClaim := { program := "ytjladdjpnicldaa", sum := "bc33b4fc691519d7ce731a426b12fdcc26626a070dbf6016c11a23df113cece5", func := "galley/galleylaw16.RangesStay", spec := "rangesStay", inPlace := ["maps.clone"], unfollowed := true, recurses := true, apart := false }
def RangesStaySaid : Prop := rangesStayRow.holds Try.pinned (OpenSpec.ofChange rangesStaySpec)

/-- ITS FALSE NEIGHBOUR: 'it returns false'. Refute it at one input. -/
def rangesStayWrong : ChangeSpec := { name := "rangesStay", fn := fun _ => fun
  | [d1, d2] => { results := [.lit (.bool false)], args := [d1, d2] }
  | _ => none }
def RangesStayWrongFalsely : Prop := rangesStayRow.holds Try.pinned (OpenSpec.ofChange rangesStayWrong)

/- THE SECOND FORM. 'bulk': how many values and letters a reading holds, each counted each time it is reached (what is shared counts as often as it is met; a slice's spare places count too). A statement '..UptoSaid' is the law's where the arguments, and the package variables that the reading takes, are together of bulk at most 1048576: NARROWER than '..Said'. Prove '..Said' where nothing that the law and all that it calls make is longer than what came in: it says more and counts as full. Else prove '..UptoSaid'. A law counts once. -/
mutual
def uptoBulk {H : Type} : DataW H → Nat
  | .lit (.string bytes) => bytes.length + 1
  | .lit _ => 1
  | .nil => 1
  | .ptr d => uptoBulk d + 1
  | .slice elems spare => uptoBulkAll elems + uptoBulkAll spare + 1
  | .agg parts => uptoBulkAll parts + 1
  | .iface _ d => uptoBulk d + 1
  | .map entries => uptoBulkEntries entries + 1
  | .held _ => 1
def uptoBulkAll {H : Type} : List (DataW H) → Nat
  | [] => 0
  | d :: r => uptoBulk d + uptoBulkAll r
def uptoBulkEntries {H : Type} : List (Lit × DataW H) → Nat
  | [] => 0
  | x :: r => uptoBulkEntry x + uptoBulkEntries r
def uptoBulkEntry {H : Type} : Lit × DataW H → Nat
  | (.string bytes, d) => bytes.length + uptoBulk d + 1
  | (_, d) => uptoBulk d + 1
 end
def uptoSmall : (H : Type) → List (DataW H) → Bool := fun _ ds => decide (uptoBulkAll ds ≤ 1048576)
def OpenSpec.upto (s : _root_.Go.ChangeSpec) : _root_.Go.OpenSpec := { _root_.Go.OpenSpec.ofChange s with cond := some uptoSmall }

/-- 'galleylaw16.RangesNil', WHERE WHAT IT READS IS OF BULK AT MOST 1048576: true; the input reads as it did. -/
def rangesNilUptoRow : OpenClaim := { program := "ytjladdjpnicldaa", sum := "bc33b4fc691519d7ce731a426b12fdcc26626a070dbf6016c11a23df113cece5", func := "galley/galleylaw16.RangesNil", spec := "rangesNil", inPlace := ["maps.clone"], unfollowed := true, recurses := true, apart := false, narrowed := true }
def RangesNilUptoSaid : Prop := rangesNilUptoRow.holds Try.pinned (OpenSpec.upto rangesNilSpec)

/-- 'galleylaw16.RangesOwn', WHERE WHAT IT READS IS OF BULK AT MOST 1048576: true; the input reads as it did. -/
def rangesOwnUptoRow : OpenClaim := { program := "ytjladdjpnicldaa", sum := "bc33b4fc691519d7ce731a426b12fdcc26626a070dbf6016c11a23df113cece5", func := "galley/galleylaw16.RangesOwn", spec := "rangesOwn", inPlace := ["maps.clone"], unfollowed := true, recurses := true, apart := false, narrowed := true }
def RangesOwnUptoSaid : Prop := rangesOwnUptoRow.holds Try.pinned (OpenSpec.upto rangesOwnSpec)

/-- 'galleylaw16.RangesHolds', WHERE WHAT IT READS IS OF BULK AT MOST 1048576: true; the input reads as it did. -/
def rangesHoldsUptoRow : OpenClaim := { program := "ytjladdjpnicldaa", sum := "bc33b4fc691519d7ce731a426b12fdcc26626a070dbf6016c11a23df113cece5", func := "galley/galleylaw16.RangesHolds", spec := "rangesHolds", inPlace := ["maps.clone"], unfollowed := true, recurses := true, apart := false, narrowed := true }
def RangesHoldsUptoSaid : Prop := rangesHoldsUptoRow.holds Try.pinned (OpenSpec.upto rangesHoldsSpec)

/-- 'galleylaw16.RangesMany', WHERE WHAT IT READS IS OF BULK AT MOST 1048576: true; the input reads as it did. -/
def rangesManyUptoRow : OpenClaim := { program := "ytjladdjpnicldaa", sum := "bc33b4fc691519d7ce731a426b12fdcc26626a070dbf6016c11a23df113cece5", func := "galley/galleylaw16.RangesMany", spec := "rangesMany", inPlace := ["maps.clone"], unfollowed := true, recurses := true, apart := false, narrowed := true }
def RangesManyUptoSaid : Prop := rangesManyUptoRow.holds Try.pinned (OpenSpec.upto rangesManySpec)

/-- 'galleylaw16.RangesCovers', WHERE WHAT IT READS IS OF BULK AT MOST 1048576: true; the input reads as it did. -/
def rangesCoversUptoRow : OpenClaim := { program := "ytjladdjpnicldaa", sum := "bc33b4fc691519d7ce731a426b12fdcc26626a070dbf6016c11a23df113cece5", func := "galley/galleylaw16.RangesCovers", spec := "rangesCovers", inPlace := ["maps.clone"], unfollowed := true, recurses := true, apart := false, narrowed := true }
def RangesCoversUptoSaid : Prop := rangesCoversUptoRow.holds Try.pinned (OpenSpec.upto rangesCoversSpec)

/-- 'galleylaw16.RangesPlays', WHERE WHAT IT READS IS OF BULK AT MOST 1048576: true; the input reads as it did. -/
def rangesPlaysUptoRow : OpenClaim := { program := "ytjladdjpnicldaa", sum := "bc33b4fc691519d7ce731a426b12fdcc26626a070dbf6016c11a23df113cece5", func := "galley/galleylaw16.RangesPlays", spec := "rangesPlays", inPlace := ["maps.clone"], unfollowed := true, recurses := true, apart := false, narrowed := true }
def RangesPlaysUptoSaid : Prop := rangesPlaysUptoRow.holds Try.pinned (OpenSpec.upto rangesPlaysSpec)

/-- 'galleylaw16.RangesStay', WHERE WHAT IT READS IS OF BULK AT MOST 1048576: true; the input reads as it did. -/
def rangesStayUptoRow : OpenClaim := { program := "ytjladdjpnicldaa", sum := "bc33b4fc691519d7ce731a426b12fdcc26626a070dbf6016c11a23df113cece5", func := "galley/galleylaw16.RangesStay", spec := "rangesStay", inPlace := ["maps.clone"], unfollowed := true, recurses := true, apart := false, narrowed := true }
def RangesStayUptoSaid : Prop := rangesStayUptoRow.holds Try.pinned (OpenSpec.upto rangesStaySpec)

end Rows
end Go.Proofs.Ytjladdjpnicldaa
