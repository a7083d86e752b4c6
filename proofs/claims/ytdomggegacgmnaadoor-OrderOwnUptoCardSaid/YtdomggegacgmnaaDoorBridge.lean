/- Plain law: the step at a place told by the four bytes there; an edge and a step make an edge. No program. -/
import Derived.Test.YtdomggegacgmnaaDoorGCore
import Derived.Lib.DecodeN
namespace Go.Proofs.YtdomggegacgmnaaDoor.PA
open Go.RowKit Go.Proofs.YtdomggegacgmnaaDoorW.PrintWords Go.Proofs.YtdomggegacgmnaaDoorW.PrintLast Go.Proofs.YtdomggegacgmnaaDoorW.PrintMore

/-- the byte in a place; 0 beyond the end -/
def B (l : List Int) (i : Nat) : Nat := (l.getD i 0).toNat % 256
theorem get_s (l : List Int) (i : Nat) : ((strOfNums l).get! i).toNat = B l i := by
  unfold B strOfNums
  by_cases h : i < l.length
  · have : (⟨(l.map fun n => UInt8.ofNat n.toNat).toArray⟩ : ByteArray).get! i = UInt8.ofNat (l[i]).toNat := by
      show (l.map fun n => UInt8.ofNat n.toNat).toArray[i]! = _
      simp [h]
    rw [this, List.getD_eq_getElem?_getD, List.getElem?_eq_getElem h]
    simp
  · have : (⟨(l.map fun n => UInt8.ofNat n.toNat).toArray⟩ : ByteArray).get! i = 0 := by
      show (l.map fun n => UInt8.ofNat n.toNat).toArray[i]! = _
      rw [getElem!_neg _ _ (by simpa using h)]; rfl
    rw [this, List.getD_eq_getElem?_getD, List.getElem?_eq_none (by omega)]
    simp
/-- the width of the encoding that four bytes (n of them there) begin with; 0: none -/
def wN (n b0 b1 b2 b3 : Nat) : Nat :=
  if b0 < 128 then 1
  else if 194 ≤ b0 ∧ b0 ≤ 223 ∧ 1 < n ∧ 128 ≤ b1 ∧ b1 ≤ 191 then 2
  else if 2 < n ∧ 128 ≤ b2 ∧ b2 ≤ 191 ∧ ((b0 = 224 ∧ 160 ≤ b1 ∧ b1 ≤ 191) ∨ (225 ≤ b0 ∧ b0 ≤ 236 ∧ 128 ≤ b1 ∧ b1 ≤ 191) ∨ (b0 = 237 ∧ 128 ≤ b1 ∧ b1 ≤ 159) ∨ (238 ≤ b0 ∧ b0 ≤ 239 ∧ 128 ≤ b1 ∧ b1 ≤ 191)) then 3
  else if 3 < n ∧ 128 ≤ b2 ∧ b2 ≤ 191 ∧ 128 ≤ b3 ∧ b3 ≤ 191 ∧ ((b0 = 240 ∧ 144 ≤ b1 ∧ b1 ≤ 191) ∨ (241 ≤ b0 ∧ b0 ≤ 243 ∧ 128 ≤ b1 ∧ b1 ≤ 191) ∨ (b0 = 244 ∧ 128 ≤ b1 ∧ b1 ≤ 143)) then 4
  else 0
/-- the rune of an encoding of that width -/
def rN (w b0 b1 b2 b3 : Nat) : Nat :=
  if w = 1 then b0 else if w = 2 then b0 % 32 * 64 + b1 % 64 else if w = 3 then b0 % 16 * 4096 + b1 % 64 * 64 + b2 % 64
  else if w = 4 then b0 % 8 * 262144 + b1 % 64 * 4096 + b2 % 64 * 64 + b3 % 64 else 65533

set_option maxRecDepth 100000 in
set_option maxHeartbeats 8000000 in
theorem decodeN_eq (n b0 b1 b2 b3 : Nat) (h0 : b0 < 256) (h1 : b1 < 256) (h2 : b2 < 256) (h3 : b3 < 256) :
    Lib.decodeN n b0 b1 b2 b3 = (rN (wN n b0 b1 b2 b3) b0 b1 b2 b3, if wN n b0 b1 b2 b3 = 0 then 1 else wN n b0 b1 b2 b3) := by
  unfold wN Lib.decodeN
  by_cases c1 : b0 < 128
  · simp [c1, rN]
  · rw [if_neg c1, if_neg c1]
    by_cases c2 : 194 ≤ b0 ∧ b0 ≤ 223 ∧ 1 < n ∧ 128 ≤ b1 ∧ b1 ≤ 191
    · rw [if_pos c2, if_pos (by omega), if_pos (by omega)]; simp [rN]
    · rw [if_neg c2]
      by_cases c3 : 2 < n ∧ 128 ≤ b2 ∧ b2 ≤ 191 ∧ ((b0 = 224 ∧ 160 ≤ b1 ∧ b1 ≤ 191) ∨ (225 ≤ b0 ∧ b0 ≤ 236 ∧ 128 ≤ b1 ∧ b1 ≤ 191) ∨ (b0 = 237 ∧ 128 ≤ b1 ∧ b1 ≤ 159) ∨ (238 ≤ b0 ∧ b0 ≤ 239 ∧ 128 ≤ b1 ∧ b1 ≤ 191))
      · rw [if_pos c3, if_neg (by omega), if_pos (by omega), if_pos (by omega)]; simp [rN]
      · rw [if_neg c3]
        by_cases c4 : 3 < n ∧ 128 ≤ b2 ∧ b2 ≤ 191 ∧ 128 ≤ b3 ∧ b3 ≤ 191 ∧ ((b0 = 240 ∧ 144 ≤ b1 ∧ b1 ≤ 191) ∨ (241 ≤ b0 ∧ b0 ≤ 243 ∧ 128 ≤ b1 ∧ b1 ≤ 191) ∨ (b0 = 244 ∧ 128 ≤ b1 ∧ b1 ≤ 143))
        · rw [if_pos c4, if_neg (by omega), if_neg (by omega), if_pos (by omega), if_pos (by omega)]; simp [rN]
        · rw [if_neg c4]
          by_cases d2 : b0 / 32 = 6 ∧ (1 < n ∧ b1 / 64 = 2)
          · rw [if_pos d2, if_neg (by omega)]; simp [rN]
          · rw [if_neg d2]
            by_cases d3 : b0 / 16 = 14 ∧ (1 < n ∧ b1 / 64 = 2) ∧ (2 < n ∧ b2 / 64 = 2)
            · rw [if_pos d3, if_neg (by omega)]; simp [rN]
            · rw [if_neg d3]
              by_cases d4 : b0 / 8 = 30 ∧ (1 < n ∧ b1 / 64 = 2) ∧ (2 < n ∧ b2 / 64 = 2) ∧ (3 < n ∧ b3 / 64 = 2)
              · rw [if_pos d4, if_neg (by omega)]; simp [rN]
              · rw [if_neg d4]; simp [rN]

theorem wN_range (n b0 b1 b2 b3 : Nat) : wN n b0 b1 b2 b3 ≤ 4 := by
  unfold wN; repeat' split
  all_goals omega
theorem wN_le (n b0 b1 b2 b3 : Nat) (hn : 0 < n) : wN n b0 b1 b2 b3 ≤ n := by
  unfold wN; repeat' split
  all_goals omega
theorem wN_lead (n b0 b1 b2 b3 : Nat) (h : 1 < wN n b0 b1 b2 b3) : 194 ≤ b0 := by
  unfold wN at h; revert h; repeat' split
  all_goals omega
theorem wN_cont1 (n b0 b1 b2 b3 : Nat) (h : 1 < wN n b0 b1 b2 b3) : 128 ≤ b1 ∧ b1 ≤ 191 := by
  unfold wN at h; revert h; repeat' split
  all_goals omega
theorem wN_cont2 (n b0 b1 b2 b3 : Nat) (h : 2 < wN n b0 b1 b2 b3) : 128 ≤ b2 ∧ b2 ≤ 191 := by
  unfold wN at h; revert h; repeat' split
  all_goals omega
theorem wN_cont3 (n b0 b1 b2 b3 : Nat) (h : 3 < wN n b0 b1 b2 b3) : 128 ≤ b3 ∧ b3 ≤ 191 := by
  unfold wN at h; revert h; repeat' split
  all_goals omega
/-- the size of the encoding of the rune -/
theorem encode_size (r : Nat) (h : r < 55296 ∨ (57343 < r ∧ r ≤ 1114111)) : (Utf8.encode (r : Int)).size = if r < 128 then 1 else if r < 2048 then 2 else if r < 65536 then 3 else 4 := by
  have hv : Utf8.valid (r : Int) = true := by rw [validRune_eq]; exact decide_eq_true (by omega)
  unfold Utf8.encode
  simp only [hv, if_true, Int.toNat_natCast]
  split
  · rfl
  · split
    · rfl
    · split <;> rfl
set_option maxHeartbeats 4000000 in
theorem rN_size (n b0 b1 b2 b3 : Nat) (h0 : b0 < 256) (h1 : b1 < 256) (h2 : b2 < 256) (h3 : b3 < 256) (h : 0 < wN n b0 b1 b2 b3) :
    (Utf8.encode (rN (wN n b0 b1 b2 b3) b0 b1 b2 b3 : Nat)).size = wN n b0 b1 b2 b3 := by
  obtain ⟨w, hw⟩ : ∃ w, w = wN n b0 b1 b2 b3 := ⟨_, rfl⟩
  rw [← hw] at h ⊢
  unfold wN at hw
  by_cases c1 : b0 < 128
  · rw [if_pos c1] at hw
    subst hw
    rw [show rN 1 b0 b1 b2 b3 = b0 by simp [rN], encode_size _ (by omega), if_pos c1]
  · rw [if_neg c1] at hw
    by_cases c2 : 194 ≤ b0 ∧ b0 ≤ 223 ∧ 1 < n ∧ 128 ≤ b1 ∧ b1 ≤ 191
    · rw [if_pos c2] at hw
      subst hw
      rw [show rN 2 b0 b1 b2 b3 = b0 % 32 * 64 + b1 % 64 by simp [rN], encode_size _ (by omega), if_neg (by omega), if_pos (by omega)]
    · rw [if_neg c2] at hw
      by_cases c3 : 2 < n ∧ 128 ≤ b2 ∧ b2 ≤ 191 ∧ ((b0 = 224 ∧ 160 ≤ b1 ∧ b1 ≤ 191) ∨ (225 ≤ b0 ∧ b0 ≤ 236 ∧ 128 ≤ b1 ∧ b1 ≤ 191) ∨ (b0 = 237 ∧ 128 ≤ b1 ∧ b1 ≤ 159) ∨ (238 ≤ b0 ∧ b0 ≤ 239 ∧ 128 ≤ b1 ∧ b1 ≤ 191))
      · rw [if_pos c3] at hw
        subst hw
        rw [show rN 3 b0 b1 b2 b3 = b0 % 16 * 4096 + b1 % 64 * 64 + b2 % 64 by simp [rN], encode_size _ (by omega), if_neg (by omega), if_neg (by omega), if_pos (by omega)]
      · rw [if_neg c3] at hw
        by_cases c4 : 3 < n ∧ 128 ≤ b2 ∧ b2 ≤ 191 ∧ 128 ≤ b3 ∧ b3 ≤ 191 ∧ ((b0 = 240 ∧ 144 ≤ b1 ∧ b1 ≤ 191) ∨ (241 ≤ b0 ∧ b0 ≤ 243 ∧ 128 ≤ b1 ∧ b1 ≤ 191) ∨ (b0 = 244 ∧ 128 ≤ b1 ∧ b1 ≤ 143))
        · rw [if_pos c4] at hw
          subst hw
          rw [show rN 4 b0 b1 b2 b3 = b0 % 8 * 262144 + b1 % 64 * 4096 + b2 % 64 * 64 + b3 % 64 by simp [rN], encode_size _ (by omega), if_neg (by omega), if_neg (by omega), if_neg (by omega)]
        · rw [if_neg c4] at hw
          omega
/-- the rune is U+FFFD just at no encoding, and at its own -/
theorem rN_fffd (n b0 b1 b2 b3 : Nat) (h0 : b0 < 256) (h1 : b1 < 256) (h2 : b2 < 256) (h3 : b3 < 256) :
    rN (wN n b0 b1 b2 b3) b0 b1 b2 b3 = 65533 ↔ wN n b0 b1 b2 b3 = 0 ∨ (2 < n ∧ b0 = 239 ∧ b1 = 191 ∧ b2 = 189) := by
  unfold wN
  by_cases c1 : b0 < 128
  · rw [if_pos c1, show rN 1 b0 b1 b2 b3 = b0 by simp [rN]]; omega
  · rw [if_neg c1]
    by_cases c2 : 194 ≤ b0 ∧ b0 ≤ 223 ∧ 1 < n ∧ 128 ≤ b1 ∧ b1 ≤ 191
    · rw [if_pos c2, show rN 2 b0 b1 b2 b3 = b0 % 32 * 64 + b1 % 64 by simp [rN]]; omega
    · rw [if_neg c2]
      by_cases c3 : 2 < n ∧ 128 ≤ b2 ∧ b2 ≤ 191 ∧ ((b0 = 224 ∧ 160 ≤ b1 ∧ b1 ≤ 191) ∨ (225 ≤ b0 ∧ b0 ≤ 236 ∧ 128 ≤ b1 ∧ b1 ≤ 191) ∨ (b0 = 237 ∧ 128 ≤ b1 ∧ b1 ≤ 159) ∨ (238 ≤ b0 ∧ b0 ≤ 239 ∧ 128 ≤ b1 ∧ b1 ≤ 191))
      · rw [if_pos c3, show rN 3 b0 b1 b2 b3 = b0 % 16 * 4096 + b1 % 64 * 64 + b2 % 64 by simp [rN]]; omega
      · rw [if_neg c3]
        by_cases c4 : 3 < n ∧ 128 ≤ b2 ∧ b2 ≤ 191 ∧ 128 ≤ b3 ∧ b3 ≤ 191 ∧ ((b0 = 240 ∧ 144 ≤ b1 ∧ b1 ≤ 191) ∨ (241 ≤ b0 ∧ b0 ≤ 243 ∧ 128 ≤ b1 ∧ b1 ≤ 191) ∨ (b0 = 244 ∧ 128 ≤ b1 ∧ b1 ≤ 143))
        · rw [if_pos c4, show rN 4 b0 b1 b2 b3 = b0 % 8 * 262144 + b1 % 64 * 4096 + b2 % 64 * 64 + b3 % 64 by simp [rN]]; omega
        · rw [if_neg c4, show rN 0 b0 b1 b2 b3 = 65533 by simp [rN]]; simp

/-- the step that four bytes begin with -/
def stepN (n b0 b1 b2 b3 : Nat) : Int × Int × Bool := if wN n b0 b1 b2 b3 = 0 then (65533, 1, false) else ((rN (wN n b0 b1 b2 b3) b0 b1 b2 b3 : Nat), (wN n b0 b1 b2 b3 : Nat), true)
theorem head3 (s : ByteArray) : (s.extract 0 3).toList = [239, 191, 189] ↔ 2 < s.size ∧ (s.get! 0).toNat = 239 ∧ (s.get! 1).toNat = 191 ∧ (s.get! 2).toNat = 189 := by
  rw [Go.ByteArray.toList_eq, ByteArray.data_extract]
  obtain ⟨⟨l⟩⟩ := s
  show ((l.toArray.extract 0 3).toList) = _ ↔ 2 < l.toArray.size ∧ (l.toArray[0]!).toNat = 239 ∧ (l.toArray[1]!).toNat = 191 ∧ (l.toArray[2]!).toNat = 189
  have u : ∀ (x : UInt8) (m : Nat) (_ : m < 256), x.toNat = m ↔ x = UInt8.ofNat m := fun x m hm => ⟨fun h => by rw [← h]; simp, fun h => by rw [h]; simp; omega⟩
  rw [u _ 239 (by omega), u _ 191 (by omega), u _ 189 (by omega)]
  match l with
  | [] => simp
  | [a] => simp
  | [a, b] => simp
  | a :: b :: c :: t => simp
theorem firstV_eq (s : ByteArray) (h : 0 < s.size) : firstV s = stepN s.size (s.get! 0).toNat (s.get! 1).toNat (s.get! 2).toNat (s.get! 3).toNat := by
  have b0 := (s.get! 0).toNat_lt
  have b1 := (s.get! 1).toNat_lt
  have b2 := (s.get! 2).toNat_lt
  have b3 := (s.get! 3).toNat_lt
  have hd : (Utf8.decode s 0).1 = rN (wN s.size (s.get! 0).toNat (s.get! 1).toNat (s.get! 2).toNat (s.get! 3).toNat) (s.get! 0).toNat (s.get! 1).toNat (s.get! 2).toNat (s.get! 3).toNat := by
    rw [Lib.decode_at s 0, Nat.sub_zero, decodeN_eq _ _ _ _ _ b0 b1 b2 b3]
  have h3 := head3 s
  have hf := rN_fffd s.size _ _ _ _ b0 b1 b2 b3
  unfold firstV stepN
  rw [if_neg (by omega)]
  rw [← hd] at hf
  by_cases hw : wN s.size (s.get! 0).toNat (s.get! 1).toNat (s.get! 2).toNat (s.get! 3).toNat = 0
  · have : ¬ (2 < s.size ∧ (s.get! 0).toNat = 239 ∧ (s.get! 1).toNat = 191 ∧ (s.get! 2).toNat = 189) := by
      rintro ⟨g, e0, e1, e2⟩
      rw [e0, e1, e2] at hw
      simp [wN, g] at hw
    rw [if_pos hw, if_pos ⟨hf.2 (.inl hw), fun g => this (h3.1 g)⟩]
  · rw [if_neg hw, if_neg (fun g => g.2 (h3.2 ((hf.1 g.1).resolve_left hw))), hd, rN_size _ _ _ _ _ b0 b1 b2 b3 (by omega)]
/-- the step at a place, by the bytes there -/
def wAt (l : List Int) (p : Nat) : Nat := wN (l.length - p) (B l p) (B l (p + 1)) (B l (p + 2)) (B l (p + 3))
def rAt (l : List Int) (p : Nat) : Nat := rN (wAt l p) (B l p) (B l (p + 1)) (B l (p + 2)) (B l (p + 3))
theorem wN_min (n b0 b1 b2 b3 : Nat) : wN (min 4 n) b0 b1 b2 b3 = wN n b0 b1 b2 b3 := by
  have e1 : (1 < min 4 n) = (1 < n) := propext (by omega)
  have e2 : (2 < min 4 n) = (2 < n) := propext (by omega)
  have e3 : (3 < min 4 n) = (3 < n) := propext (by omega)
  unfold wN
  simp only [e1, e2, e3]
theorem atS_eq (l : List Int) (p : Nat) (h : p < l.length) : atS l p = if wAt l p = 0 then (65533, 1, false) else (((rAt l p : Nat) : Int), ((wAt l p : Nat) : Int), true) := by
  unfold atS
  have hn : ((l.take (p + 4)).drop p).length = min 4 (l.length - p) := by simp; omega
  rw [firstV_eq _ (by rw [strOfNums_size, hn]; omega), strOfNums_size, hn]
  have hb : ∀ j, j < 4 → ((strOfNums ((l.take (p + 4)).drop p)).get! j).toNat = B l (p + j) := by
    intro j hj
    rw [get_s]
    unfold B
    rw [List.getD_eq_getElem?_getD, List.getD_eq_getElem?_getD, List.getElem?_drop, List.getElem?_take_of_lt (by omega)]
  rw [hb 0 (by omega), hb 1 (by omega), hb 2 (by omega), hb 3 (by omega)]
  unfold stepN wAt rAt wAt
  rw [wN_min]
  rfl
/-- the width of the step at a place: at least 1 -/
def stepW (l : List Int) (p : Nat) : Nat := if wAt l p = 0 then 1 else wAt l p
theorem width_eq (l : List Int) (p : Nat) (h : p < l.length) : (atS l p).2.1 = stepW l p := by
  rw [atS_eq l p h]
  unfold stepW
  split <;> rfl
theorem width_end (l : List Int) (p : Nat) (h : l.length ≤ p) : (atS l p).2.1 = 1 := by
  unfold atS
  have : (l.take (p + 4)).drop p = [] := by simp; omega
  rw [this]
  rfl
theorem stepW_pos (l : List Int) (p : Nat) : 1 ≤ stepW l p := by unfold stepW; split <;> omega
theorem stepW_le (l : List Int) (p : Nat) (h : p < l.length) : p + stepW l p ≤ l.length := by
  have := wN_le (l.length - p) (B l p) (B l (p + 1)) (B l (p + 2)) (B l (p + 3)) (by omega)
  unfold stepW wAt
  split <;> omega
theorem stepW_le4 (l : List Int) (p : Nat) : stepW l p ≤ 4 := by
  have := wN_range (l.length - p) (B l p) (B l (p + 1)) (B l (p + 2)) (B l (p + 3))
  unfold stepW wAt
  split <;> omega
/-- no encoding goes over p -/
theorem inside_zero (l : List Int) (p : Nat) (hp : p ≤ l.length) : insideV l p = 0 ↔ ∀ j, 1 ≤ j → j ≤ 3 → j ≤ p → stepW l (p - j) ≤ j := by
  have e : ∀ j, 1 ≤ j → j ≤ p → (atS l (p - j)).2.1 = stepW l (p - j) := fun j h1 h2 => width_eq l _ (by omega)
  unfold insideV
  constructor
  · intro h j h1 h3 hj
    have ej := e j h1 hj
    by_cases c1 : 1 ≤ p ∧ 1 < (atS l (p - 1)).2.1
    · rw [if_pos c1] at h; omega
    rw [if_neg c1] at h
    by_cases c2 : 2 ≤ p ∧ 2 < (atS l (p - 2)).2.1
    · rw [if_pos c2] at h; omega
    rw [if_neg c2] at h
    by_cases c3 : 3 ≤ p ∧ 3 < (atS l (p - 3)).2.1
    · rw [if_pos c3] at h; omega
    rcases (by omega : j = 1 ∨ j = 2 ∨ j = 3) with rfl | rfl | rfl
    · omega
    · omega
    · omega
  · intro h
    rw [if_neg, if_neg, if_neg]
    · rintro ⟨g1, g2⟩
      have := h 3 (by omega) (by omega) g1
      rw [e 3 (by omega) g1] at g2; omega
    · rintro ⟨g1, g2⟩
      have := h 2 (by omega) (by omega) g1
      rw [e 2 (by omega) g1] at g2; omega
    · rintro ⟨g1, g2⟩
      have := h 1 (by omega) (by omega) g1
      rw [e 1 (by omega) g1] at g2; omega
/-- inside an encoding there are no leading bytes -/
theorem cont_of (l : List Int) (p i : Nat) (h1 : 1 ≤ i) (h : i < stepW l p) : stepW l (p + i) = 1 := by
  have hw : stepW l p = wAt l p := by
    unfold stepW at h ⊢
    by_cases g : wAt l p = 0
    · rw [if_pos g] at h; omega
    · rw [if_neg g]
  have h4 := stepW_le4 l p
  rw [hw] at h h4
  have hc : 128 ≤ B l (p + i) ∧ B l (p + i) ≤ 191 := by
    unfold wAt at h h4
    rcases (by omega : i = 1 ∨ i = 2 ∨ i = 3) with rfl | rfl | rfl
    · exact wN_cont1 _ _ _ _ _ (by omega)
    · exact wN_cont2 _ _ _ _ _ (by omega)
    · exact wN_cont3 _ _ _ _ _ (by omega)
  unfold stepW
  by_cases g : wAt l (p + i) = 0
  · rw [if_pos g]
  · rw [if_neg g]
    by_cases g2 : 1 < wAt l (p + i)
    · have := wN_lead _ _ _ _ _ g2; omega
    · omega
theorem inside_step (l : List Int) (p : Nat) (hp : p < l.length) (h : insideV l p = 0) : insideV l (p + stepW l p) = 0 := by
  have hle := stepW_le l p hp
  have h1 := stepW_pos l p
  rw [inside_zero l p (by omega)] at h
  rw [inside_zero l _ hle]
  intro j g1 g3 gj
  by_cases c : j < stepW l p
  · have := cont_of l p (stepW l p - j) (by omega) (by omega)
    rw [show p + stepW l p - j = p + (stepW l p - j) by omega, this]; omega
  · by_cases c2 : j = stepW l p
    · rw [show p + stepW l p - j = p by omega]; omega
    · have := h (j - stepW l p) (by omega) (by omega) (by omega)
      rw [show p + stepW l p - j = p - (j - stepW l p) by omega]; omega
theorem inside_nil (l : List Int) : insideV l 0 = 0 := by
  rw [inside_zero l 0 (by omega)]
  intro j h1 _ h2; omega
end Go.Proofs.YtdomggegacgmnaaDoor.PA
