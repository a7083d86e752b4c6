/- Plain functions on lists of bytes: the runes and the units that one sees, the comparison of lists, the stable sort by a ruler. No program. -/
import Derived.Test.YtdomggegacgmnaaDoorPAx3
namespace Go.Proofs.YtdomggegacgmnaaDoor.PA
open Go.RowKit Go.Proofs.YtdomggegacgmnaaDoorW.PrintWords Go.Proofs.YtdomggegacgmnaaDoorW.PrintLast Go.Proofs.YtdomggegacgmnaaDoorW.PrintMore

/-- the byte in a place, -1 elsewhere -/
def atV (l : List Int) (p : Int) : Int := if p < 0 then -1 else if p ≥ (l.length : Int) then -1 else wrap64 (rd l p)
def inV (x lo hi : Int) : Bool := decide (lo ≤ x) && decide (x ≤ hi)
/-- how many bytes the encoding has that x, y, z, v begin -/
def longV (x y z v : Int) : Int :=
  if inV x 0 127 then 1
  else if inV x 194 223 && inV y 128 191 then 2
  else if inV z 128 191 && ((x == 224 && inV y 160 191) || (inV x 225 236 && inV y 128 191) || (x == 237 && inV y 128 159) || (inV x 238 239 && inV y 128 191)) then 3
  else if inV z 128 191 && inV v 128 191 && ((x == 240 && inV y 144 191) || (inV x 241 243 && inV y 128 191) || (x == 244 && inV y 128 143)) then 4
  else 0
def galleyref02_Long.f (l0 : List Int) (a1 : Int) : Option Int := some (longV (atV l0 a1) (atV l0 (wrap64 (a1 + 1))) (atV l0 (wrap64 (a1 + 2))) (atV l0 (wrap64 (a1 + 3))))

/-- the runes of a text from a place on, as the language ranges over it -/
def runesFrom (s : ByteArray) : Nat → Nat → List Int
  | 0, _ => []
  | f + 1, i => if i < s.size then ((Utf8.decode s i).1 : Int) :: runesFrom s f (i + (Utf8.decode s i).2) else []
def runesOf (l : List Int) : List Int := runesFrom (strOfNums l) l.length 0
/-- the units of a rune -/
def unitsR (r : Int) : List Int := if 65535 < r ∧ r ≤ 1114111 then [55296 + (r - 65536) / 1024, 56320 + (r - 65536) % 1024] else [IntKind.u16.wrap r]
def unitsOf (l : List Int) : List Int := (runesOf l).flatMap unitsR
/-- the step with which a text begins -/
def firstV (s : ByteArray) : Int × Int × Bool :=
  if s.size = 0 then (65533, 1, false)
  else if (Utf8.decode s 0).1 = 65533 ∧ ¬ (s.extract 0 3).toList = [239, 191, 189] then (65533, 1, false)
  else ((Utf8.decode s 0).1, (Utf8.encode (Utf8.decode s 0).1).size, true)
def step_first.f (s : ByteArray) : Option (Int × Int × Bool) := some (firstV s)
/-- the step that an encoding at p would be; 0 ≤ p ≤ the length -/
def atS (l : List Int) (p : Nat) : Int × Int × Bool := firstV (strOfNums ((l.take (p + 4)).drop p))
def step_at.f (l0 : List Int) (a1 : Int) : Option (Int × Int × Bool) := if 0 ≤ a1 ∧ a1 ≤ l0.length ∧ l0.length ≤ 140737488355328 then some (atS l0 a1.toNat) else none
/-- how far ahead of p the encoding begins that goes over it -/
def insideV (l : List Int) (p : Nat) : Nat :=
  if 1 ≤ p ∧ 1 < (atS l (p - 1)).2.1 then 1 else if 2 ≤ p ∧ 2 < (atS l (p - 2)).2.1 then 2 else if 3 ≤ p ∧ 3 < (atS l (p - 3)).2.1 then 3 else 0
def step_inside.f (l0 : List Int) (a1 : Int) : Option Int := if 0 ≤ a1 ∧ a1 ≤ l0.length ∧ l0.length ≤ 140737488355328 then some (insideV l0 a1.toNat) else none
/-- the longest beginning of both that ends at an edge of both: step by step from p on -/
def commonV (a b : List Int) : Nat → Nat → Nat
  | 0, p => p
  | f + 1, p =>
    if p < a.length ∧ p < b.length then
      if atS a p = atS b p ∧ strOfNums ((a.take (p + (atS a p).2.1.toNat)).drop p) = strOfNums ((b.take (p + (atS a p).2.1.toNat)).drop p) then commonV a b f (p + (atS a p).2.1.toNat) else p
    else p
def order_Common.f (l0 l1 : List Int) : Option Int := if l0.length ≤ 140737488355328 ∧ l1.length ≤ 140737488355328 then some (commonV l0 l1 (l0.length + 1) 0) else none
def units_To.f (l0 : List Int) : Option (List Int) := if l0.length < 35184372088832 then some (unitsOf l0) else none

/-- lists place by place -/
def cmpL : List Int → List Int → Int
  | [], [] => 0
  | [], _ :: _ => -1
  | _ :: _, [] => 1
  | x :: xs, y :: ys => if x < y then -1 else if x > y then 1 else cmpL xs ys
def thingsV (l : List Int) (r : Int) : List Int := if r = 1 then l else if r = 2 then runesOf l else unitsOf l
def small (l : List Int) : Bool := decide (l.length < 35184372088832)
def order_Compare.f (l0 l1 : List Int) (a2 : Int) : Option (Int × Int) :=
  if a2 = 1 ∨ a2 = 2 ∨ a2 = 3 then (if small l0 && small l1 then some (cmpL (thingsV l0 a2) (thingsV l1 a2), 0) else none) else some (0, 3)
/-- is one less than the other by a ruler? -/
def ltV (r : Int) (x y : List Int) : Bool := decide (cmpL (thingsV x r) (thingsV y r) < 0)
def sortV (l : List (List Int)) (r : Int) : List (List Int) := l.mergeSort (fun x y => !ltV r y x)
def order_Sort.f (l0 : List (List Int)) (a1 : Int) : Option (List (List Int) × Int) :=
  if a1 = 1 ∨ a1 = 2 ∨ a1 = 3 then (if l0.all small && decide (l0.length < 1099511627776) then some (sortV l0 a1, 0) else none) else some ([], 3)
end Go.Proofs.YtdomggegacgmnaaDoor.PA
