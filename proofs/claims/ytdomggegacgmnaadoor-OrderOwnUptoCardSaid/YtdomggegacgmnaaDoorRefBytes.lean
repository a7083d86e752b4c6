/- Plain law: the document's layer 2 (Long, Inside, Edges, Of, Steps) told by the bytes. Conditions: bytes from 0 to 255; at most 2^20 of them where lists are made. -/
import Derived.Test.YtdomggegacgmnaaDoorPAx5
import Derived.Test.YtdomggegacgmnaaDoorBridge
import Derived.Test.YtdomggegacgmnaaDoorGTo
namespace Go.Proofs.YtdomggegacgmnaaDoor.ref
open Go.RowKit PA Go.Proofs.YtdomggegacgmnaaDoorW.PrintWords Go.Proofs.YtdomggegacgmnaaDoorW.PrintLast Go.Proofs.YtdomggegacgmnaaDoorW.PrintMore

theorem atV_in (l : List Int) (w : ∀ x ∈ l, 0 ≤ x ∧ x ≤ 255) (q : Nat) (h : q < l.length) : atV l q = B l q := by
  unfold atV B
  have hr : rd l q = l[q] := by simp [rd, List.getD_eq_getElem?_getD, h]
  have hw := w l[q] (List.getElem_mem h)
  rw [if_neg (by omega), if_neg (by omega), hr, List.getD_eq_getElem?_getD, List.getElem?_eq_getElem h]
  simp only [Option.getD_some]
  unfold wrap64; omega
theorem atV_out (l : List Int) (q : Int) (h : (l.length : Int) ≤ q) : atV l q = -1 := by
  unfold atV
  rw [if_neg (by omega), if_pos (by omega)]
theorem B_lt (l : List Int) (i : Nat) : B l i < 256 := Nat.mod_lt _ (by omega)
set_option maxHeartbeats 8000000 in
theorem longV_wN (n b0 b1 b2 b3 : Nat) (x y z v : Int) (hn : 0 < n) (h0 : b0 < 256) (h1 : b1 < 256) (h2 : b2 < 256) (h3 : b3 < 256) (hx : x = b0) (hy : (1 < n ∧ y = b1) ∨ (n ≤ 1 ∧ y = -1)) (hz : (2 < n ∧ z = b2) ∨ (n ≤ 2 ∧ z = -1)) (hv : (3 < n ∧ v = b3) ∨ (n ≤ 3 ∧ v = -1)) :
    longV x y z v = (wN n b0 b1 b2 b3 : Nat) := by
  unfold wN
  simp only [longV, inV, Bool.and_eq_true, Bool.or_eq_true, decide_eq_true_eq, beq_iff_eq]
  by_cases c1 : b0 < 128
  · rw [if_pos (by omega), if_pos c1]; rfl
  · rw [if_neg (by omega), if_neg c1]
    by_cases c2 : 194 ≤ b0 ∧ b0 ≤ 223 ∧ 1 < n ∧ 128 ≤ b1 ∧ b1 ≤ 191
    · rw [if_pos (by omega), if_pos c2]; rfl
    · rw [if_neg (by omega), if_neg c2]
      by_cases c3 : 2 < n ∧ 128 ≤ b2 ∧ b2 ≤ 191 ∧ ((b0 = 224 ∧ 160 ≤ b1 ∧ b1 ≤ 191) ∨ (225 ≤ b0 ∧ b0 ≤ 236 ∧ 128 ≤ b1 ∧ b1 ≤ 191) ∨ (b0 = 237 ∧ 128 ≤ b1 ∧ b1 ≤ 159) ∨ (238 ≤ b0 ∧ b0 ≤ 239 ∧ 128 ≤ b1 ∧ b1 ≤ 191))
      · rw [if_pos (by omega), if_pos c3]; rfl
      · rw [if_neg (by omega), if_neg c3]
        by_cases c4 : 3 < n ∧ 128 ≤ b2 ∧ b2 ≤ 191 ∧ 128 ≤ b3 ∧ b3 ≤ 191 ∧ ((b0 = 240 ∧ 144 ≤ b1 ∧ b1 ≤ 191) ∨ (241 ≤ b0 ∧ b0 ≤ 243 ∧ 128 ≤ b1 ∧ b1 ≤ 191) ∨ (b0 = 244 ∧ 128 ≤ b1 ∧ b1 ≤ 143))
        · rw [if_pos (by omega), if_pos c4]; rfl
        · rw [if_neg (by omega), if_neg c4]; rfl
theorem long_f (l : List Int) (w : ∀ x ∈ l, 0 ≤ x ∧ x ≤ 255) (q : Nat) (h : q < l.length) (hm : l.length ≤ 140737488355328) : galleyref02_Long.f l q = some (wAt l q : Int) := by
  unfold galleyref02_Long.f
  have e : ∀ j : Nat, j < 4 → wrap64 ((q : Int) + j) = ((q + j : Nat) : Int) := fun j hj => by unfold wrap64; omega
  have e1 := e 1 (by omega)
  have e2 := e 2 (by omega)
  have e3 := e 3 (by omega)
  simp only [Int.cast_ofNat_Int] at e1 e2 e3
  rw [e1, e2, e3]
  refine congrArg some (longV_wN (l.length - q) _ _ _ _ _ _ _ _ (by omega) (B_lt l q) (B_lt l (q + 1)) (B_lt l (q + 2)) (B_lt l (q + 3)) (atV_in l w q h) ?_ ?_ ?_)
  · by_cases g : q + 1 < l.length
    · exact .inl ⟨by omega, atV_in l w _ g⟩
    · exact .inr ⟨by omega, atV_out l _ (by omega)⟩
  · by_cases g : q + 2 < l.length
    · exact .inl ⟨by omega, atV_in l w _ g⟩
    · exact .inr ⟨by omega, atV_out l _ (by omega)⟩
  · by_cases g : q + 3 < l.length
    · exact .inl ⟨by omega, atV_in l w _ g⟩
    · exact .inr ⟨by omega, atV_out l _ (by omega)⟩
/-- does the encoding j ahead of p go over p? -/
def over (l : List Int) (p j : Nat) : Bool := decide (j ≤ p ∧ j < stepW l (p - j))
theorem inside_l (l : List Int) (w : ∀ x ∈ l, 0 ≤ x ∧ x ≤ 255) (p : Nat) (hp : p ≤ l.length) (hm : l.length ≤ 140737488355328) (k j : Nat) (h1 : 1 ≤ j) (h3 : j ≤ 3) :
    galleyref02_Inside.l0 (k + 1) l p j = if over l p j = true then some true else galleyref02_Inside.l0 k l p ((j + 1 : Nat) : Int) := by
  rw [galleyref02_Inside.l0, if_pos (by omega)]
  have ej : wrap64 ((j : Int) + 1) = ((j + 1 : Nat) : Int) := by unfold wrap64; omega
  rw [ej]
  by_cases g : j ≤ p
  · have ep : wrap64 ((p : Int) - j) = ((p - j : Nat) : Int) := by unfold wrap64; omega
    rw [ep, if_pos (by omega), long_f l w (p - j) (by omega) hm, Option.bind_some]
    have hs : ((wAt l (p - j) : Nat) : Int) > (j : Int) ↔ over l p j = true := by
      unfold over stepW
      rw [decide_eq_true_eq]
      by_cases hz : wAt l (p - j) = 0
      · rw [if_pos hz]; omega
      · rw [if_neg hz]; omega
    by_cases c : over l p j = true
    · rw [if_pos (hs.2 c), if_pos c]
    · rw [if_neg (fun h => c (hs.1 h)), if_neg c]
  · have : over l p j = false := decide_eq_false (by omega)
    rw [if_neg (by unfold wrap64; omega), this, if_neg (by simp)]
theorem inside_f (l : List Int) (w : ∀ x ∈ l, 0 ≤ x ∧ x ≤ 255) (p : Nat) (hp : p ≤ l.length) (hm : l.length ≤ 140737488355328) (k : Nat) :
    galleyref02_Inside.f (k + 4) l p = some (!decide (insideV l p = 0)) := by
  unfold galleyref02_Inside.f
  have t := inside_l l w p hp hm
  have h0 := inside_zero l p hp
  have t1 := t (k + 3) 1 (by omega) (by omega)
  have t2 := t (k + 2) 2 (by omega) (by omega)
  have t3 := t (k + 1) 3 (by omega) (by omega)
  have t4 : galleyref02_Inside.l0 (k + 1) l p ((3 + 1 : Nat) : Int) = some false := by rw [galleyref02_Inside.l0, if_neg (by omega)]
  have hov : ∀ j, over l p j = true ↔ (j ≤ p ∧ j < stepW l (p - j)) := fun j => by unfold over; rw [decide_eq_true_eq]
  rw [show (1 : Int) = ((1 : Nat) : Int) from rfl, t1]
  by_cases c1 : over l p 1 = true
  · rw [if_pos c1, decide_eq_false (fun h => by have := h0.1 h 1 (by omega) (by omega) ((hov 1).1 c1).1; have := ((hov 1).1 c1).2; omega)]; rfl
  · rw [if_neg c1, t2]
    by_cases c2 : over l p 2 = true
    · rw [if_pos c2, decide_eq_false (fun h => by have := h0.1 h 2 (by omega) (by omega) ((hov 2).1 c2).1; have := ((hov 2).1 c2).2; omega)]; rfl
    · rw [if_neg c2, t3]
      by_cases c3 : over l p 3 = true
      · rw [if_pos c3, decide_eq_false (fun h => by have := h0.1 h 3 (by omega) (by omega) ((hov 3).1 c3).1; have := ((hov 3).1 c3).2; omega)]; rfl
      · rw [if_neg c3, t4, decide_eq_true]
        · rfl
        · rw [h0]
          intro j g1 g2 g3
          rcases (by omega : j = 1 ∨ j = 2 ∨ j = 3) with rfl | rfl | rfl
          · exact Nat.le_of_not_lt fun h => c1 ((hov 1).2 ⟨g3, h⟩)
          · exact Nat.le_of_not_lt fun h => c2 ((hov 2).2 ⟨g3, h⟩)
          · exact Nat.le_of_not_lt fun h => c3 ((hov 3).2 ⟨g3, h⟩)

theorem rdB (l : List Int) (w : ∀ x ∈ l, 0 ≤ x ∧ x ≤ 255) (q : Nat) (h : q < l.length) : rd l (q : Int) = B l q := by
  have hw := w l[q] (List.getElem_mem h)
  have e : rd l (q : Int) = l[q] := by simp [rd, List.getD_eq_getElem?_getD, h]
  unfold B
  rw [e, List.getD_eq_getElem?_getD, List.getElem?_eq_getElem h]
  simp only [Option.getD_some]; omega
/-- the positions at which steps begin -/
def pos (l : List Int) : Nat → Nat → List Nat
  | 0, _ => []
  | f + 1, p => if p < l.length then p :: pos l f (p + stepW l p) else []
theorem decode_pos (l : List Int) (p : Nat) (_h : p < l.length) : Utf8.decode (strOfNums l) p = (rAt l p, stepW l p) := by
  rw [Lib.decode_at, strOfNums_size, get_s, get_s, get_s, get_s, decodeN_eq _ _ _ _ _ (B_lt _ _) (B_lt _ _) (B_lt _ _) (B_lt _ _)]
  rfl
theorem runes_pos (l : List Int) : ∀ f p, runesFrom (strOfNums l) f p = (pos l f p).map fun q => (rAt l q : Int)
  | 0, _ => rfl
  | f + 1, p => by
    rw [runesFrom, pos, strOfNums_size]
    by_cases h : p < l.length
    · rw [if_pos h, if_pos h, decode_pos l p h, List.map_cons, runes_pos l f]
    · rw [if_neg h, if_neg h]; rfl
/-- Of is the step there -/
theorem of_f (l : List Int) (w : ∀ x ∈ l, 0 ≤ x ∧ x ≤ 255) (p : Nat) (h : p < l.length) (hm : l.length ≤ 140737488355328) (k : Nat) : galleyref02_Of.f (k + 6) l p = some (atS l p) := by
  rw [atS_eq l p h]
  unfold galleyref02_Of.f
  rw [long_f l w p h hm, Option.bind_some]
  have hle := wN_le (l.length - p) (B l p) (B l (p + 1)) (B l (p + 2)) (B l (p + 3)) (by omega)
  have h4 := wN_range (l.length - p) (B l p) (B l (p + 1)) (B l (p + 2)) (B l (p + 3))
  have hw : wAt l p = wN (l.length - p) (B l p) (B l (p + 1)) (B l (p + 2)) (B l (p + 3)) := rfl
  rw [← hw] at hle h4
  unfold rAt
  have b0 := B_lt l p
  have b1 := B_lt l (p + 1)
  have b2 := B_lt l (p + 2)
  have b3 := B_lt l (p + 3)
  have r0 := rdB l w p h
  have ws : ∀ x : Int, 0 ≤ x → x < 4294967296 → wrap64 x = x := fun x g1 g2 => by unfold wrap64; omega
  have tm : ∀ x m : Nat, Int.tmod (x : Int) (m : Int) = ((x % m : Nat) : Int) := fun x m => by rw [Int.tmod_eq_emod_of_nonneg (by omega)]; omega
  have add : ∀ j : Nat, j < 4 → wrap64 ((p : Int) + (j : Int)) = ((p + j : Nat) : Int) := fun j hj => by unfold wrap64; omega
  have a1 := add 1 (by omega)
  have a2 := add 2 (by omega)
  have a3 := add 3 (by omega)
  simp only [Int.cast_ofNat_Int] at a1 a2 a3
  have w32 : ∀ x : Int, 0 ≤ x → x < 2147483648 → wrap32 x = x := fun x g1 g2 => by unfold wrap32; omega
  generalize hW : wAt l p = n at *
  clear hw hW
  by_cases c0 : n = 0
  · rw [if_pos (by omega), if_pos c0]
  · rw [if_neg (by omega), if_neg c0, if_pos (by omega), if_pos (by omega), r0, ws _ (by omega) (by omega)]
    have e32 := tm (B l p) 32
    have e16 := tm (B l p) 16
    have e8 := tm (B l p) 8
    simp only [Int.cast_ofNat_Int] at e32 e16 e8
    rw [e32, e16, e8]
    rcases (by omega : n = 1 ∨ n = 2 ∨ n = 3 ∨ n = 4) with rfl | rfl | rfl | rfl
    · rw [if_neg (by omega), if_neg (by omega), if_neg (by omega), galleyref02_Of.j0, galleyref02_Of.l0, if_neg (by omega), w32 _ (by omega) (by omega)]
      simp [rN]
    · have r1 := rdB l w (p + 1) (by omega)
      have t1 := tm (B l (p + 1)) 64
      simp only [Int.cast_ofNat_Int] at t1
      rw [if_pos (by omega), galleyref02_Of.j0, galleyref02_Of.l0, if_pos (by omega), a1, if_pos (by omega), if_pos (by omega), r1, ws ((B l (p + 1) : Nat) : Int) (by omega) (by omega), t1, ws (((B l p % 32 : Nat) : Int) * 64) (by omega) (by omega), ws _ (by omega) (by omega), ws (1 + 1) (by omega) (by omega), galleyref02_Of.l0, if_neg (by omega), w32 _ (by omega) (by omega)]
      simp [rN]
    · have r1 := rdB l w (p + 1) (by omega)
      have r2 := rdB l w (p + 2) (by omega)
      have t1 := tm (B l (p + 1)) 64
      have t2 := tm (B l (p + 2)) 64
      simp only [Int.cast_ofNat_Int] at t1 t2
      rw [if_neg (by omega), if_pos (by omega), galleyref02_Of.j0, galleyref02_Of.l0, if_pos (by omega), a1, if_pos (by omega), if_pos (by omega), r1, ws ((B l (p + 1) : Nat) : Int) (by omega) (by omega), t1, ws (((B l p % 16 : Nat) : Int) * 64) (by omega) (by omega), ws _ (by omega) (by omega), ws (1 + 1) (by omega) (by omega),
        galleyref02_Of.l0, if_pos (by omega), show (1 : Int) + 1 = 2 from rfl, a2, if_pos (by omega), if_pos (by omega), r2, ws ((B l (p + 2) : Nat) : Int) (by omega) (by omega), t2, ws ((((B l p % 16 : Nat) : Int) * 64 + ((B l (p + 1) % 64 : Nat) : Int)) * 64) (by omega) (by omega), ws _ (by omega) (by omega), ws (2 + 1) (by omega) (by omega), galleyref02_Of.l0, if_neg (by omega), w32 _ (by omega) (by omega)]
      simp [rN]; omega
    · have r1 := rdB l w (p + 1) (by omega)
      have r2 := rdB l w (p + 2) (by omega)
      have r3 := rdB l w (p + 3) (by omega)
      have t1 := tm (B l (p + 1)) 64
      have t2 := tm (B l (p + 2)) 64
      have t3 := tm (B l (p + 3)) 64
      simp only [Int.cast_ofNat_Int] at t1 t2 t3
      rw [if_neg (by omega), if_neg (by omega), if_pos (by omega), galleyref02_Of.j0, galleyref02_Of.l0, if_pos (by omega), a1, if_pos (by omega), if_pos (by omega), r1, ws ((B l (p + 1) : Nat) : Int) (by omega) (by omega), t1, ws (((B l p % 8 : Nat) : Int) * 64) (by omega) (by omega), ws _ (by omega) (by omega), ws (1 + 1) (by omega) (by omega),
        galleyref02_Of.l0, if_pos (by omega), show (1 : Int) + 1 = 2 from rfl, a2, if_pos (by omega), if_pos (by omega), r2, ws ((B l (p + 2) : Nat) : Int) (by omega) (by omega), t2, ws ((((B l p % 8 : Nat) : Int) * 64 + ((B l (p + 1) % 64 : Nat) : Int)) * 64) (by omega) (by omega), ws _ (by omega) (by omega), ws (2 + 1) (by omega) (by omega),
        galleyref02_Of.l0, if_pos (by omega), show (2 : Int) + 1 = 3 from rfl, a3, if_pos (by omega), if_pos (by omega), r3, ws ((B l (p + 3) : Nat) : Int) (by omega) (by omega), t3, ws (((((B l p % 8 : Nat) : Int) * 64 + ((B l (p + 1) % 64 : Nat) : Int)) * 64 + ((B l (p + 2) % 64 : Nat) : Int)) * 64) (by omega) (by omega), ws _ (by omega) (by omega), ws (3 + 1) (by omega) (by omega), galleyref02_Of.l0, if_neg (by omega), w32 _ (by omega) (by omega)]
      simp [rN]; omega
/-- the edges from p on -/
def edges (l : List Int) : Nat → Nat → List Nat
  | 0, _ => []
  | n + 1, p => if insideV l p = 0 then p :: edges l n (p + 1) else edges l n (p + 1)
theorem edges_skip (l : List Int) (p : Nat) (hp : p < l.length) : ∀ (n q : Nat), p < q → q ≤ p + stepW l p → n = l.length + 1 - q → edges l n q = edges l (l.length + 1 - (p + stepW l p)) (p + stepW l p)
  | n, q, h1, h2, hn => by
    have hle := stepW_le l p hp
    by_cases c : q = p + stepW l p
    · subst c; rw [hn]
    · obtain ⟨m, rfl⟩ : ∃ m, n = m + 1 := ⟨n - 1, by omega⟩
      have h4 := stepW_le4 l p
      have hins : ¬ insideV l q = 0 := fun h => by
        have := (inside_zero l q (by omega)).1 h (q - p) (by omega) (by omega) (by omega)
        rw [show q - (q - p) = p by omega] at this; omega
      rw [edges, if_neg hins]
      exact edges_skip l p hp m (q + 1) (by omega) (by omega) (by omega)
  termination_by n => n
theorem edges_pos (l : List Int) : ∀ (f p : Nat), p ≤ l.length → l.length - p < f → insideV l p = 0 → edges l (l.length + 1 - p) p = pos l f p ++ [l.length]
  | 0, p, _, h, _ => by omega
  | f + 1, p, h1, h2, h3 => by
    rw [show l.length + 1 - p = (l.length - p) + 1 by omega, edges, if_pos h3, pos]
    by_cases c : p < l.length
    · have hw := stepW_pos l p
      have hle := stepW_le l p c
      rw [if_pos c, edges_skip l p c (l.length - p) (p + 1) (by omega) (by omega) (by omega), edges_pos l f (p + stepW l p) hle (by omega) (inside_step l p c h3)]
      rfl
    · rw [if_neg c, show l.length - p = 0 by omega, edges, show p = l.length by omega]; rfl
theorem edges_l (l : List Int) (w : ∀ x ∈ l, 0 ≤ x ∧ x ≤ 255) (hm : l.length ≤ 1048576) : ∀ (n p k : Nat) (acc : List Int), n = l.length + 1 - p → p ≤ l.length + 1 → acc.length ≤ p → n + 5 ≤ k →
    galleyref02_Edges.l0 k l acc p = some (acc ++ (edges l n p).map fun q : Nat => (q : Int))
  | 0, p, k, acc, h1, h2, h3, hk => by
    obtain ⟨k, rfl⟩ : ∃ k', k = k' + 1 := ⟨k - 1, by omega⟩
    rw [galleyref02_Edges.l0, if_neg (by omega)]
    simp [edges]
  | n + 1, p, k, acc, h1, h2, h3, hk => by
    obtain ⟨k, rfl⟩ : ∃ k', k = k' + 5 := ⟨k - 5, by omega⟩
    have ew : wrap64 ((p : Int) + 1) = ((p + 1 : Nat) : Int) := by unfold wrap64; omega
    rw [galleyref02_Edges.l0, if_pos (by omega), inside_f l w p (by omega) (by omega) k, Option.bind_some, ew, edges]
    by_cases c : insideV l p = 0
    · rw [if_pos c, if_neg (by simp [c]), if_pos (by omega), edges_l l w hm n (p + 1) (k + 4) _ (by omega) (by omega) (by simp; omega) (by omega)]
      simp
    · rw [if_neg c, if_pos (by simp [c]), edges_l l w hm n (p + 1) (k + 4) _ (by omega) (by omega) (by omega) (by omega)]
theorem edges_f (l : List Int) (w : ∀ x ∈ l, 0 ≤ x ∧ x ≤ 255) (hm : l.length ≤ 1048576) (k : Nat) (hk : l.length + 6 ≤ k) : galleyref02_Edges.f k l = some ((pos l (l.length + 1) 0 ++ [l.length]).map fun q : Nat => (q : Int)) := by
  unfold galleyref02_Edges.f
  have := edges_l l w hm (l.length + 1) 0 k [] (by omega) (by omega) (by simp) (by omega)
  rw [show ((0 : Nat) : Int) = 0 from rfl] at this
  rw [this, List.nil_append]
  have e := edges_pos l (l.length + 1) 0 (by omega) (by omega) (inside_nil l)
  rw [Nat.sub_zero] at e
  rw [e]
/-! ### the steps -/
def toS (x : Int × Int × Bool) : S60 := ⟨x.1, x.2.1, x.2.2⟩
theorem pos_lt (l : List Int) : ∀ f p, ∀ q ∈ pos l f p, q < l.length
  | 0, p, q, h => by simp [pos] at h
  | f + 1, p, q, h => by
    rw [pos] at h
    by_cases c : p < l.length
    · rw [if_pos c] at h
      rcases List.mem_cons.1 h with rfl | h
      · exact c
      · exact pos_lt l f _ q h
    · rw [if_neg c] at h; simp at h
theorem pos_len (l : List Int) : ∀ f p, (pos l f p).length ≤ l.length - p
  | 0, p => by simp [pos]
  | f + 1, p => by
    rw [pos]
    by_cases c : p < l.length
    · rw [if_pos c]
      have := pos_len l f (p + stepW l p)
      have := stepW_pos l p
      simp only [List.length_cons]; omega
    · rw [if_neg c]; simp
theorem steps_l (l : List Int) (w : ∀ x ∈ l, 0 ≤ x ∧ x ≤ 255) (hm : l.length ≤ 1048576) (ps : List Nat) (hps : ∀ q ∈ ps, q < l.length) (hlen : ps.length ≤ 1048576) (E : List Int) (hE : E = (ps ++ [l.length]).map fun q : Nat => (q : Int)) :
    ∀ (n i k : Nat) (acc : List S60), n = ps.length - i → i ≤ ps.length → acc.length ≤ i → n + 8 ≤ k → galleyref02_Steps.l0 k l acc E i = some (acc ++ (ps.drop i).map fun q => toS (atS l q))
  | n, i, 0, acc, h1, h2, h3, hk => by omega
  | n, i, k + 1, acc, h1, h2, h3, hk => by
    have eE : E.length = ps.length + 1 := by rw [hE]; simp
    have ew : wrap64 ((i : Int) + 1) = ((i + 1 : Nat) : Int) := by unfold wrap64; omega
    rw [galleyref02_Steps.l0, ew, eE]
    by_cases c : i < ps.length
    · have hr : rd E (i : Int) = (ps[i] : Int) := by
        rw [hE]
        simp [rd, List.getD_eq_getElem?_getD, List.getElem?_append_left, c]
      obtain ⟨k, rfl⟩ : ∃ k', k = k' + 6 := ⟨k - 6, by omega⟩
      rw [if_pos (by omega), if_pos (by omega), if_pos (by omega), hr, of_f l w _ (hps _ (List.getElem_mem c)) (by omega) k, Option.bind_some, if_pos (by omega)]
      match n, h1 with
      | 0, h1 => omega
      | n + 1, h1 =>
        rw [steps_l l w hm ps hps hlen E hE n (i + 1) (k + 6) _ (by omega) (by omega) (by simp; omega) (by omega), List.drop_eq_getElem_cons c, List.map_cons, List.append_assoc]
        rfl
    · rw [if_neg (by omega), List.drop_eq_nil_of_le (by omega)]
      simp
theorem steps_f (l : List Int) (w : ∀ x ∈ l, 0 ≤ x ∧ x ≤ 255) (hm : l.length ≤ 1048576) (k : Nat) (hk : l.length + 16 ≤ k) : galleyref02_Steps.f k l = some ((pos l (l.length + 1) 0).map fun q => toS (atS l q)) := by
  unfold galleyref02_Steps.f
  rw [edges_f l w hm k (by omega), Option.bind_some]
  have hl := pos_len l (l.length + 1) 0
  have := steps_l l w hm (pos l (l.length + 1) 0) (pos_lt l _ _) (by omega) _ rfl (pos l (l.length + 1) 0).length 0 k [] (by omega) (by omega) (by simp) (by omega)
  rw [show ((0 : Nat) : Int) = 0 from rfl] at this
  rw [this]
  simp
theorem runes_of (l : List Int) : runesOf l = (pos l (l.length + 1) 0).map fun q => (atS l q).1 := by
  have e : ∀ f p, l.length - p ≤ f → pos l (f + 1) p = pos l f p := by
    intro f
    induction f with
    | zero => intro p h; simp only [pos]; rw [if_neg (by omega)]
    | succ f ih =>
      intro p h
      have e1 : ∀ g, pos l (g + 1) p = if p < l.length then p :: pos l g (p + stepW l p) else [] := fun g => by rw [pos]
      rw [e1 (f + 1), e1 f]
      by_cases c : p < l.length
      · have := stepW_pos l p
        rw [if_pos c, if_pos c, ih _ (by omega)]
      · rw [if_neg c, if_neg c]
  unfold runesOf
  rw [runes_pos, e l.length 0 (by omega)]
  refine List.map_congr_left fun q hq => ?_
  rw [atS_eq l q (pos_lt l _ _ q hq)]
  by_cases hz : wAt l q = 0
  · rw [if_pos hz]; unfold rAt; rw [hz]; simp [rN]
  · rw [if_neg hz]
end Go.Proofs.YtdomggegacgmnaaDoor.ref
