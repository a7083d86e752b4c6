/-
  No cell of these rows narrows 'for every input' (looked for: loops, veiled, ifaces, maps, wideKeys, modest, calm, conditions, laid).
  DERIVED. THE GIVEN ROWS OF THIS SEAT. 8 by the template 'for every input the law returns true; each argument reads behind the call as it read before'; 0 by the template 'total and deterministic' (their statements: YtfdecgfkdohdjaaTotals.lean).
  GIVEN WITH THE SEED: the statements are not yours to turn. If you find one false, say at which input.
  Laid BY PROGRAM, IN A SANDBOX (cutbox-rows.mjs): the forced cells as the released guide's own fill.sh prints them over the translation 27b75122b4f3b227… (all of the seat's roots in one cut). By AI agents, Wed Nov 11 2026. No macro, syntax, notation, axiom, sorry.
-/
import Derived.Test.YtfdecgfkdohdjaaChecked
import GoSem.Claim
import GoSem.ClaimJoined
import GoSem.ClaimMapViews
import Derived.JoinedTies
import Derived.KernelRfl
namespace Go.Proofs.Ytfdecgfkdohdjaa
/- THE CELL 'sum', in the pinned program and in every row, IS THE sha256 OF THE DUMP (.gsa) THAT YtfdecgfkdohdjaaProg.lean LOADS. Nothing in Lean hashes anything: it is a label: what it is worth is what the hold of that sum in a sandbox is worth. -/
noncomputable def Try.pinned : Pinned := { name := "ytfdecgfkdohdjaa", sum := "27b75122b4f3b2271f10c28d3872ac776869e0b80f803d228d26904cd7f13d6e", checked := Try.checked }
namespace Rows
def none {H : Type} : Left H := { results := [], args := [] }

/-- 'galleylaw15.MarksNames': WHATEVER THE INPUT: true; the input reads as it did. -/
def marksNamesSpec : ChangeSpec := { name := "marksNames", fn := fun _ => fun
  | [] => { results := [.lit (.bool true)], args := [] }
  | _ => none }
def marksNamesRow : OpenClaim := { program := "ytfdecgfkdohdjaa", sum := "27b75122b4f3b2271f10c28d3872ac776869e0b80f803d228d26904cd7f13d6e", func := "galley/galleylaw15.MarksNames", spec := "marksNames", apart := false }
def MarksNamesSaid : Prop := marksNamesRow.holds Try.pinned (OpenSpec.ofChange marksNamesSpec)

/-- ITS FALSE NEIGHBOUR: 'it returns false'. Refute it at one input. -/
def marksNamesWrong : ChangeSpec := { name := "marksNames", fn := fun _ => fun
  | [] => { results := [.lit (.bool false)], args := [] }
  | _ => none }
def MarksNamesWrongFalsely : Prop := marksNamesRow.holds Try.pinned (OpenSpec.ofChange marksNamesWrong)

/-- 'galleylaw15.MarksScripts': WHATEVER THE INPUT: true; the input reads as it did. -/
def marksScriptsSpec : ChangeSpec := { name := "marksScripts", fn := fun _ => fun
  | [d1, d2] => { results := [.lit (.bool true)], args := [d1, d2] }
  | _ => none }
def marksScriptsRow : OpenClaim := { program := "ytfdecgfkdohdjaa", sum := "27b75122b4f3b2271f10c28d3872ac776869e0b80f803d228d26904cd7f13d6e", func := "galley/galleylaw15.MarksScripts", spec := "marksScripts", inPlace := ["maps.clone"], unfollowed := true, recurses := true, apart := false }
def MarksScriptsSaid : Prop := marksScriptsRow.holds Try.pinned (OpenSpec.ofChange marksScriptsSpec)

/-- ITS FALSE NEIGHBOUR: 'it returns false'. Refute it at one input. -/
def marksScriptsWrong : ChangeSpec := { name := "marksScripts", fn := fun _ => fun
  | [d1, d2] => { results := [.lit (.bool false)], args := [d1, d2] }
  | _ => none }
def MarksScriptsWrongFalsely : Prop := marksScriptsRow.holds Try.pinned (OpenSpec.ofChange marksScriptsWrong)

/-- 'galleylaw15.MarksAsks': WHATEVER THE INPUT: true; the input reads as it did. -/
def marksAsksSpec : ChangeSpec := { name := "marksAsks", fn := fun _ => fun
  | [d1, d2, d3] => { results := [.lit (.bool true)], args := [d1, d2, d3] }
  | _ => none }
def marksAsksRow : OpenClaim := { program := "ytfdecgfkdohdjaa", sum := "27b75122b4f3b2271f10c28d3872ac776869e0b80f803d228d26904cd7f13d6e", func := "galley/galleylaw15.MarksAsks", spec := "marksAsks", inPlace := ["maps.clone"], unfollowed := true, recurses := true, apart := false }
def MarksAsksSaid : Prop := marksAsksRow.holds Try.pinned (OpenSpec.ofChange marksAsksSpec)

/-- ITS FALSE NEIGHBOUR: 'it returns false'. Refute it at one input. -/
def marksAsksWrong : ChangeSpec := { name := "marksAsks", fn := fun _ => fun
  | [d1, d2, d3] => { results := [.lit (.bool false)], args := [d1, d2, d3] }
  | _ => none }
def MarksAsksWrongFalsely : Prop := marksAsksRow.holds Try.pinned (OpenSpec.ofChange marksAsksWrong)

/-- 'galleylaw15.MarksGo': WHATEVER THE INPUT: true; the input reads as it did. -/
def marksGoSpec : ChangeSpec := { name := "marksGo", fn := fun _ => fun
  | [d1, d2, d3] => { results := [.lit (.bool true)], args := [d1, d2, d3] }
  | _ => none }
def marksGoRow : OpenClaim := { program := "ytfdecgfkdohdjaa", sum := "27b75122b4f3b2271f10c28d3872ac776869e0b80f803d228d26904cd7f13d6e", func := "galley/galleylaw15.MarksGo", spec := "marksGo", inPlace := ["maps.clone"], unfollowed := true, recurses := true, apart := false }
def MarksGoSaid : Prop := marksGoRow.holds Try.pinned (OpenSpec.ofChange marksGoSpec)

/-- ITS FALSE NEIGHBOUR: 'it returns false'. Refute it at one input. -/
def marksGoWrong : ChangeSpec := { name := "marksGo", fn := fun _ => fun
  | [d1, d2, d3] => { results := [.lit (.bool false)], args := [d1, d2, d3] }
  | _ => none }
def MarksGoWrongFalsely : Prop := marksGoRow.holds Try.pinned (OpenSpec.ofChange marksGoWrong)

/-- 'galleylaw15.MarksOrder': WHATEVER THE INPUT: true; the input reads as it did. -/
def marksOrderSpec : ChangeSpec := { name := "marksOrder", fn := fun _ => fun
  | [d1, d2, d3] => { results := [.lit (.bool true)], args := [d1, d2, d3] }
  | _ => none }
def marksOrderRow : OpenClaim := { program := "ytfdecgfkdohdjaa", sum := "27b75122b4f3b2271f10c28d3872ac776869e0b80f803d228d26904cd7f13d6e", func := "galley/galleylaw15.MarksOrder", spec := "marksOrder", inPlace := ["maps.clone"], unfollowed := true, recurses := true, apart := false }
def MarksOrderSaid : Prop := marksOrderRow.holds Try.pinned (OpenSpec.ofChange marksOrderSpec)

/-- ITS FALSE NEIGHBOUR: 'it returns false'. Refute it at one input. -/
def marksOrderWrong : ChangeSpec := { name := "marksOrder", fn := fun _ => fun
  | [d1, d2, d3] => { results := [.lit (.bool false)], args := [d1, d2, d3] }
  | _ => none }
def MarksOrderWrongFalsely : Prop := marksOrderRow.holds Try.pinned (OpenSpec.ofChange marksOrderWrong)

/-- 'galleylaw15.MarksNil': WHATEVER THE INPUT: true; the input reads as it did. -/
def marksNilSpec : ChangeSpec := { name := "marksNil", fn := fun _ => fun
  | [d1, d2, d3] => { results := [.lit (.bool true)], args := [d1, d2, d3] }
  | _ => none }
def marksNilRow : OpenClaim := { program := "ytfdecgfkdohdjaa", sum := "27b75122b4f3b2271f10c28d3872ac776869e0b80f803d228d26904cd7f13d6e", func := "galley/galleylaw15.MarksNil", spec := "marksNil", inPlace := ["maps.clone"], unfollowed := true, recurses := true, apart := false }
def MarksNilSaid : Prop := marksNilRow.holds Try.pinned (OpenSpec.ofChange marksNilSpec)

/-- ITS FALSE NEIGHBOUR: 'it returns false'. Refute it at one input. -/
def marksNilWrong : ChangeSpec := { name := "marksNil", fn := fun _ => fun
  | [d1, d2, d3] => { results := [.lit (.bool false)], args := [d1, d2, d3] }
  | _ => none }
def MarksNilWrongFalsely : Prop := marksNilRow.holds Try.pinned (OpenSpec.ofChange marksNilWrong)

/-- 'galleylaw15.MarksMany': WHATEVER THE INPUT: true; the input reads as it did. -/
def marksManySpec : ChangeSpec := { name := "marksMany", fn := fun _ => fun
  | [] => { results := [.lit (.bool true)], args := [] }
  | _ => none }
def marksManyRow : OpenClaim := { program := "ytfdecgfkdohdjaa", sum := "27b75122b4f3b2271f10c28d3872ac776869e0b80f803d228d26904cd7f13d6e", func := "galley/galleylaw15.MarksMany", spec := "marksMany", inPlace := ["maps.clone"], unfollowed := true, recurses := true, apart := false }
def MarksManySaid : Prop := marksManyRow.holds Try.pinned (OpenSpec.ofChange marksManySpec)

/-- ITS FALSE NEIGHBOUR: 'it returns false'. Refute it at one input. -/
def marksManyWrong : ChangeSpec := { name := "marksMany", fn := fun _ => fun
  | [] => { results := [.lit (.bool false)], args := [] }
  | _ => none }
def MarksManyWrongFalsely : Prop := marksManyRow.holds Try.pinned (OpenSpec.ofChange marksManyWrong)

/-- 'galleylaw15.MarksOwn': WHATEVER THE INPUT: true; the input reads as it did. -/
def marksOwnSpec : ChangeSpec := { name := "marksOwn", fn := fun _ => fun
  | [d1, d2, d3] => { results := [.lit (.bool true)], args := [d1, d2, d3] }
  | _ => none }
def marksOwnRow : OpenClaim := { program := "ytfdecgfkdohdjaa", sum := "27b75122b4f3b2271f10c28d3872ac776869e0b80f803d228d26904cd7f13d6e", func := "galley/galleylaw15.MarksOwn", spec := "marksOwn", inPlace := ["maps.clone"], unfollowed := true, recurses := true, apart := false }
def MarksOwnSaid : Prop := marksOwnRow.holds Try.pinned (OpenSpec.ofChange marksOwnSpec)

/-- ITS FALSE NEIGHBOUR: 'it returns false'. Refute it at one input. -/
def marksOwnWrong : ChangeSpec := { name := "marksOwn", fn := fun _ => fun
  | [d1, d2, d3] => { results := [.lit (.bool false)], args := [d1, d2, d3] }
  | _ => none }
def MarksOwnWrongFalsely : Prop := marksOwnRow.holds Try.pinned (OpenSpec.ofChange marksOwnWrong)

/- THE SECOND FORM. 'bulk': how many values and letters a reading holds, each counted each time it is reached (what is shared counts as often as it is met; a slice's spare places count too). A statement '..UptoSaid' is the law's where the arguments, and the package variables that the reading takes, are together of bulk at most 1048576: NARROWER than '..Said'. Prove '..Said' where nothing that the law and all that it calls make is longer than what came in: it says more and counts as full. Else prove '..UptoSaid'. A law counts once. -/
mutual
def uptoBulk {H : Type} : DataW H → Nat
  | .lit (.string bytes) => bytes.length + 1
  | .lit _ => 1
  | .nil => 1
  | .ptr d => uptoBulk d + 1
  | .slice elems spare => uptoBulkAll elems + uptoBulkAll spare + 1
  | .agg parts => uptoBulkAll parts + 1
  | .iface _ d => uptoBulk d + 1
  | .map entries => uptoBulkEntries entries + 1
  | .held _ => 1
def uptoBulkAll {H : Type} : List (DataW H) → Nat
  | [] => 0
  | d :: r => uptoBulk d + uptoBulkAll r
def uptoBulkEntries {H : Type} : List (Lit × DataW H) → Nat
  | [] => 0
  | x :: r => uptoBulkEntry x + uptoBulkEntries r
def uptoBulkEntry {H : Type} : Lit × DataW H → Nat
  | (.string bytes, d) => bytes.length + uptoBulk d + 1
  | (_, d) => uptoBulk d + 1
 end
def uptoSmall : (H : Type) → List (DataW H) → Bool := fun _ ds => decide (uptoBulkAll ds ≤ 1048576)
def OpenSpec.upto (s : _root_.Go.ChangeSpec) : _root_.Go.OpenSpec := { _root_.Go.OpenSpec.ofChange s with cond := some uptoSmall }

/-- 'galleylaw15.MarksNames', WHERE WHAT IT READS IS OF BULK AT MOST 1048576: true; the input reads as it did. -/
def marksNamesUptoRow : OpenClaim := { program := "ytfdecgfkdohdjaa", sum := "27b75122b4f3b2271f10c28d3872ac776869e0b80f803d228d26904cd7f13d6e", func := "galley/galleylaw15.MarksNames", spec := "marksNames", apart := false, narrowed := true }
def MarksNamesUptoSaid : Prop := marksNamesUptoRow.holds Try.pinned (OpenSpec.upto marksNamesSpec)

/-- 'galleylaw15.MarksScripts', WHERE WHAT IT READS IS OF BULK AT MOST 1048576: true; the input reads as it did. -/
def marksScriptsUptoRow : OpenClaim := { program := "ytfdecgfkdohdjaa", sum := "27b75122b4f3b2271f10c28d3872ac776869e0b80f803d228d26904cd7f13d6e", func := "galley/galleylaw15.MarksScripts", spec := "marksScripts", inPlace := ["maps.clone"], unfollowed := true, recurses := true, apart := false, narrowed := true }
def MarksScriptsUptoSaid : Prop := marksScriptsUptoRow.holds Try.pinned (OpenSpec.upto marksScriptsSpec)

/-- 'galleylaw15.MarksAsks', WHERE WHAT IT READS IS OF BULK AT MOST 1048576: true; the input reads as it did. -/
def marksAsksUptoRow : OpenClaim := { program := "ytfdecgfkdohdjaa", sum := "27b75122b4f3b2271f10c28d3872ac776869e0b80f803d228d26904cd7f13d6e", func := "galley/galleylaw15.MarksAsks", spec := "marksAsks", inPlace := ["maps.clone"], unfollowed := true, recurses := true, apart := false, narrowed := true }
def MarksAsksUptoSaid : Prop := marksAsksUptoRow.holds Try.pinned (OpenSpec.upto marksAsksSpec)

/-- 'galleylaw15.MarksGo', WHERE WHAT IT READS IS OF BULK AT MOST 1048576: true; the input reads as it did. -/
def marksGoUptoRow : OpenClaim := { program := "ytfdecgfkdohdjaa", sum := "27b75122b4f3b2271f10c28d3872ac776869e0b80f803d228d26904cd7f13d6e", func := "galley/galleylaw15.MarksGo", spec := "marksGo", inPlace := ["maps.clone"], unfollowed := true, recurses := true, apart := false, narrowed := true }
def MarksGoUptoSaid : Prop := marksGoUptoRow.holds Try.pinned (OpenSpec.upto marksGoSpec)

/-- 'galleylaw15.MarksOrder', WHERE WHAT IT READS IS OF BULK AT MOST 1048576: true; the input reads as it did. -/
def marksOrderUptoRow : OpenClaim := { program := "ytfdecgfkdohdjaa", sum := "27b75122b4f3b2271f10c28d3872ac776869e0b80f803d228d26904cd7f13d6e", func := "galley/galleylaw15.MarksOrder", spec := "marksOrder", inPlace := ["maps.clone"], unfollowed := true, recurses := true, apart := false, narrowed := true }
def MarksOrderUptoSaid : Prop := marksOrderUptoRow.holds Try.pinned (OpenSpec.upto marksOrderSpec)

/-- 'galleylaw15.MarksNil', WHERE WHAT IT READS IS OF BULK AT MOST 1048576: true; the input reads as it did. -/
def marksNilUptoRow : OpenClaim := { program := "ytfdecgfkdohdjaa", sum := "27b75122b4f3b2271f10c28d3872ac776869e0b80f803d228d26904cd7f13d6e", func := "galley/galleylaw15.MarksNil", spec := "marksNil", inPlace := ["maps.clone"], unfollowed := true, recurses := true, apart := false, narrowed := true }
def MarksNilUptoSaid : Prop := marksNilUptoRow.holds Try.pinned (OpenSpec.upto marksNilSpec)

/-- 'galleylaw15.MarksMany', WHERE WHAT IT READS IS OF BULK AT MOST 1048576: true; the input reads as it did. -/
def marksManyUptoRow : OpenClaim := { program := "ytfdecgfkdohdjaa", sum := "27b75122b4f3b2271f10c28d3872ac776869e0b80f803d228d26904cd7f13d6e", func := "galley/galleylaw15.MarksMany", spec := "marksMany", inPlace := ["maps.clone"], unfollowed := true, recurses := true, apart := false, narrowed := true }
def MarksManyUptoSaid : Prop := marksManyUptoRow.holds Try.pinned (OpenSpec.upto marksManySpec)

/-- 'galleylaw15.MarksOwn', WHERE WHAT IT READS IS OF BULK AT MOST 1048576: true; the input reads as it did. -/
def marksOwnUptoRow : OpenClaim := { program := "ytfdecgfkdohdjaa", sum := "27b75122b4f3b2271f10c28d3872ac776869e0b80f803d228d26904cd7f13d6e", func := "galley/galleylaw15.MarksOwn", spec := "marksOwn", inPlace := ["maps.clone"], unfollowed := true, recurses := true, apart := false, narrowed := true }
def MarksOwnUptoSaid : Prop := marksOwnUptoRow.holds Try.pinned (OpenSpec.upto marksOwnSpec)

end Rows
end Go.Proofs.Ytfdecgfkdohdjaa
