/- Plain law: the document's things and comparison (galleyref03.To, galleyref31.Things, Lists, Compare) are XGCore's. Conditions: bytes from 0 to 255, at most 2^20 of them. -/
import Derived.Test.YtdomggegacgmnaaDoorPAx6
import Derived.Test.YtdomggegacgmnaaDoorPAx3
import Derived.Test.YtdomggegacgmnaaDoorPAx5
import Derived.Test.YtdomggegacgmnaaDoorRefBytes
import Derived.Test.YtdomggegacgmnaaDoorGCompare
namespace Go.Proofs.YtdomggegacgmnaaDoor.ref
open Go.RowKit PA Go.Proofs.YtdomggegacgmnaaDoorW.PrintWords Go.Proofs.YtdomggegacgmnaaDoorW.PrintLast Go.Proofs.YtdomggegacgmnaaDoorW.PrintMore

theorem lists31_l (a b : List Int) (ha : a.length ≤ 140737488355328) : ∀ (n p k : Nat), a.length - p ≤ n → p ≤ a.length → p ≤ b.length → 2 * n + 2 ≤ k →
    galleyref31_Lists.l0 k a b p = some (cmpL (a.drop p) (b.drop p))
  | n, p, k + 2, h1, h2, h3, h4 => by
    rw [galleyref31_Lists.l0]
    have fin : (p = a.length ∨ p = b.length) → (if (a.length : Int) < b.length then some (-1) else if (a.length : Int) > b.length then some 1 else some 0) = some (cmpL (a.drop p) (b.drop p)) := fun h => by
      rw [cmpL_end a b p h2 h3 h]
      split
      · rfl
      · split <;> rfl
    by_cases c1 : (p : Int) < (a.length : Int)
    · rw [if_pos c1]
      by_cases c2 : (p : Int) < (b.length : Int)
      · have g1 : p < a.length := by omega
        have g2 : p < b.length := by omega
        rw [decide_eq_true c2, galleyref31_Lists.j1, if_pos rfl, if_pos (by omega), if_pos c1, if_pos c2, rd_nat a p g1, rd_nat b p g2, cmpL_cons a b p g1 g2]
        by_cases c3 : a[p] < b[p]
        · rw [if_pos c3, if_pos c3]
        · rw [if_neg c3, if_neg c3]
          by_cases c4 : a[p] > b[p]
          · rw [if_pos c4, if_pos c4]
          · rw [if_neg c4, if_neg c4]
            have e : wrap64 ((p : Int) + 1) = ((p + 1 : Nat) : Int) := by unfold wrap64; omega
            rw [e]
            match n, h1 with
            | 0, h1 => omega
            | n + 1, h1 => exact lists31_l a b ha n (p + 1) k (by omega) (by omega) (by omega) (by omega)
      · rw [decide_eq_false c2, galleyref31_Lists.j1, if_neg (by simp)]
        exact fin (by omega)
    · rw [if_neg c1, galleyref31_Lists.j1, if_neg (by simp)]
      exact fin (by omega)
  | n, p, 0, h1, h2, h3, h4 => by omega
  | n, p, 1, h1, h2, h3, h4 => by omega
theorem lists31 (a b : List Int) (ha : a.length ≤ 140737488355328) (k : Nat) (hk : 2 * a.length + 2 ≤ k) : galleyref31_Lists.f k a b = some (cmpL a b) :=
  lists31_l a b ha a.length 0 k (by omega) (by omega) (by omega) hk

set_option maxHeartbeats 4000000 in
theorem rN_le (n b0 b1 b2 b3 : Nat) (h0 : b0 < 256) : rN (wN n b0 b1 b2 b3) b0 b1 b2 b3 ≤ 1114111 := by
  unfold wN
  by_cases c1 : b0 < 128
  · rw [if_pos c1, show rN 1 b0 b1 b2 b3 = b0 by simp [rN]]; omega
  · rw [if_neg c1]
    split
    · rw [show rN 2 b0 b1 b2 b3 = b0 % 32 * 64 + b1 % 64 by simp [rN]]; omega
    · split
      · rw [show rN 3 b0 b1 b2 b3 = b0 % 16 * 4096 + b1 % 64 * 64 + b2 % 64 by simp [rN]]; omega
      · split
        · rw [show rN 4 b0 b1 b2 b3 = b0 % 8 * 262144 + b1 % 64 * 4096 + b2 % 64 * 64 + b3 % 64 by simp [rN]]; omega
        · rw [show rN 0 b0 b1 b2 b3 = 65533 by simp [rN]]; omega
theorem rune_range (l : List Int) (q : Nat) (h : q < l.length) : 0 ≤ (atS l q).1 ∧ (atS l q).1 ≤ 1114111 := by
  have := rN_le (l.length - q) (B l q) (B l (q + 1)) (B l (q + 2)) (B l (q + 3)) (B_lt _ _)
  rw [atS_eq l q h]
  by_cases hz : wAt l q = 0
  · rw [if_pos hz]; simp only; omega
  · rw [if_neg hz]
    show 0 ≤ ((rAt l q : Nat) : Int) ∧ ((rAt l q : Nat) : Int) ≤ 1114111
    unfold rAt wAt; omega
theorem bad_rune (l : List Int) (q : Nat) (h : q < l.length) (hb : (atS l q).2.2 = false) : (atS l q).1 = 65533 := by
  rw [atS_eq l q h] at hb ⊢
  by_cases hz : wAt l q = 0
  · rw [if_pos hz]
  · rw [if_neg hz] at hb; simp at hb
theorem u16_id (n : Int) (a : 0 ≤ n) (b : n < 65536) : IntKind.u16.wrap n = n := by simp [IntKind.wrap, IntKind.bits, IntKind.signed]; omega
theorem split31 (r : Int) (h0 : 0 ≤ r) (h1 : r ≤ 1114111) (k : Nat) : galleyref03_Split.f (k + 1) r = some (if 65535 < r then (55296 + (r - 65536) / 1024, 56320 + (r - 65536) % 1024, true) else (0, 0, false)) := by
  unfold galleyref03_Split.f
  have hlen : galleyref03_Len.f (k + 1) r = some (if 65535 < r then 2 else if 55296 ≤ r ∧ r ≤ 57343 then 0 else 1) := by
    unfold galleyref03_Len.f
    rw [if_neg (by omega)]
    by_cases c1 : r ≥ 55296
    · rw [if_pos c1]
      by_cases c2 : r ≤ 57343
      · rw [if_pos c2, galleyref03_Len.j0, if_pos rfl, if_neg (by omega), if_pos ⟨c1, c2⟩]
      · rw [if_neg c2, galleyref03_Len.j0, decide_eq_false (by omega), if_neg (by simp)]
        by_cases c3 : 65535 < r
        · rw [if_pos c3, if_pos c3]
        · rw [if_neg c3, if_neg c3, if_neg (by omega)]
    · rw [if_neg c1, galleyref03_Len.j0, decide_eq_false (by omega), if_neg (by simp), if_neg (by omega), if_neg (by omega), if_neg (by omega)]
  rw [hlen, Option.bind_some]
  have ws : ∀ x : Int, 0 ≤ x → x < 4294967296 → wrap64 x = x := fun x g1 g2 => by unfold wrap64; omega
  by_cases c : 65535 < r
  · rw [if_pos c, if_pos rfl, if_pos c, ws r (by omega) (by omega), ws (r - 65536) (by omega) (by omega), Int.tdiv_eq_ediv_of_nonneg (by omega), Int.tmod_eq_emod_of_nonneg (by omega), ws ((r - 65536) / 1024) (by omega) (by omega), ws (55296 + (r - 65536) / 1024) (by omega) (by omega), ws (56320 + (r - 65536) % 1024) (by omega) (by omega), u16_id _ (by omega) (by omega), u16_id _ (by omega) (by omega)]
  · rw [if_neg c, if_neg (by split <;> omega), if_neg c]
theorem add_f (l : List Int) (q : Nat) (h : q < l.length) (acc : List Int) (ha : acc.length < 4294967296) (k : Nat) :
    galleyref03_add.f (k + 1) acc (atS l q).1 (atS l q).2.1 (atS l q).2.2 65533 = some (acc ++ unitsR (atS l q).1) := by
  have hr := rune_range l q h
  unfold galleyref03_add.f
  by_cases hb : (atS l q).2.2 = true
  · rw [if_pos hb, split31 _ hr.1 hr.2 k, Option.bind_some]
    unfold unitsR
    by_cases c : 65535 < (atS l q).1
    · rw [if_pos c, if_pos rfl, if_pos (by omega), Option.bind_some, if_pos (by simp; omega), if_pos ⟨c, hr.2⟩]
      simp
    · rw [if_neg c, if_neg (by simp), if_pos (by omega), if_neg (by omega)]
  · rw [if_neg hb, if_pos (by omega), bad_rune l q h (by simpa using hb)]
    rfl
theorem unitsR_len (r : Int) : (unitsR r).length ≤ 2 := by unfold unitsR; split <;> simp
theorem to_l (l : List Int) (ps : List Nat) (hps : ∀ q ∈ ps, q < l.length) (hlen : ps.length ≤ 1048576) (T : List S60) (hT : T = ps.map fun q => toS (atS l q)) :
    ∀ (n i k : Nat) (acc : List Int), n = ps.length - i → i ≤ ps.length → acc.length ≤ 2 * i → n + 2 ≤ k → galleyref03_To.l0 k acc T i = some (acc ++ (ps.drop i).flatMap fun q => unitsR (atS l q).1)
  | n, i, 0, acc, h1, h2, h3, hk => by omega
  | n, i, k + 1, acc, h1, h2, h3, hk => by
    have eT : T.length = ps.length := by rw [hT]; simp
    have ew : wrap64 ((i : Int) + 1) = ((i + 1 : Nat) : Int) := by unfold wrap64; omega
    rw [galleyref03_To.l0, eT, ew]
    by_cases c : i < ps.length
    · have hr : rd_T60 T (i : Int) = toS (atS l ps[i]) := by
        rw [hT]
        simp [rd_T60, List.getD_eq_getElem?_getD, c]
      obtain ⟨k, rfl⟩ : ∃ k', k = k' + 1 := ⟨k - 1, by omega⟩
      have hq := hps _ (List.getElem_mem c)
      rw [if_pos (by omega), if_pos (by omega), hr]
      show ((galleyref03_add.f (k + 1) acc (atS l ps[i]).1 (atS l ps[i]).2.1 (atS l ps[i]).2.2 65533).bind _) = _
      rw [add_f l _ hq acc (by omega) k, Option.bind_some]
      match n, h1 with
      | 0, h1 => omega
      | n + 1, h1 =>
        have hu := unitsR_len (atS l ps[i]).1
        rw [to_l l ps hps hlen T hT n (i + 1) (k + 1) _ (by omega) (by omega) (by rw [List.length_append]; omega) (by omega), List.drop_eq_getElem_cons c, List.flatMap_cons, List.append_assoc]
    · rw [if_neg (by omega), List.drop_eq_nil_of_le (by omega)]
      simp
theorem to_f (l : List Int) (w : ∀ x ∈ l, 0 ≤ x ∧ x ≤ 255) (hm : l.length ≤ 1048576) (k : Nat) (hk : l.length + 16 ≤ k) : galleyref03_To.f k l = some (unitsOf l) := by
  unfold galleyref03_To.f
  rw [steps_f l w hm k hk, Option.bind_some]
  have hl := pos_len l (l.length + 1) 0
  have := to_l l (pos l (l.length + 1) 0) (pos_lt l _ _) (by omega) _ rfl (pos l (l.length + 1) 0).length 0 k [] (by omega) (by omega) (by simp) (by omega)
  rw [show ((0 : Nat) : Int) = 0 from rfl] at this
  rw [this, List.drop_zero, List.nil_append]
  unfold unitsOf
  rw [runes_of, List.flatMap_map]
/-! ### things -/
theorem th0 (l : List Int) (w : ∀ x ∈ l, 0 ≤ x ∧ x ≤ 4294967295) (hm : l.length ≤ 4194304) : ∀ (n i k : Nat) (acc : List Int), n = l.length - i → i ≤ l.length → acc.length ≤ i → n + 1 ≤ k → galleyref31_Things.l0 k l acc i = some (acc ++ l.drop i)
  | n, i, 0, acc, h1, h2, h3, hk => by omega
  | n, i, k + 1, acc, h1, h2, h3, hk => by
    have ew : wrap64 ((i : Int) + 1) = ((i + 1 : Nat) : Int) := by unfold wrap64; omega
    rw [galleyref31_Things.l0, ew]
    by_cases c : i < l.length
    · have hw := w l[i] (List.getElem_mem c)
      rw [if_pos (by omega), if_pos (by omega), if_pos (by omega), rd_nat l i c, show wrap64 l[i] = l[i] by unfold wrap64; omega]
      match n, h1 with
      | 0, h1 => omega
      | n + 1, h1 =>
        rw [th0 l w hm n (i + 1) k _ (by omega) (by omega) (by simp; omega) (by omega), List.drop_eq_getElem_cons c, List.append_assoc]
        rfl
    · rw [if_neg (by omega), List.drop_eq_nil_of_le (by omega)]; simp
theorem th2 (l : List Int) (w : ∀ x ∈ l, 0 ≤ x ∧ x ≤ 4294967295) (hm : l.length ≤ 4194304) : ∀ (n i k : Nat) (acc : List Int), n = l.length - i → i ≤ l.length → acc.length ≤ i → n + 1 ≤ k → galleyref31_Things.l2 k acc l i = some (acc ++ l.drop i)
  | n, i, 0, acc, h1, h2, h3, hk => by omega
  | n, i, k + 1, acc, h1, h2, h3, hk => by
    have ew : wrap64 ((i : Int) + 1) = ((i + 1 : Nat) : Int) := by unfold wrap64; omega
    rw [galleyref31_Things.l2, ew]
    by_cases c : i < l.length
    · have hw := w l[i] (List.getElem_mem c)
      rw [if_pos (by omega), if_pos (by omega), if_pos (by omega), rd_nat l i c, show wrap64 l[i] = l[i] by unfold wrap64; omega]
      match n, h1 with
      | 0, h1 => omega
      | n + 1, h1 =>
        rw [th2 l w hm n (i + 1) k _ (by omega) (by omega) (by simp; omega) (by omega), List.drop_eq_getElem_cons c, List.append_assoc]
        rfl
    · rw [if_neg (by omega), List.drop_eq_nil_of_le (by omega)]; simp
theorem th1 (l : List Int) (ps : List Nat) (hps : ∀ q ∈ ps, q < l.length) (hlen : ps.length ≤ 1048576) (T : List S60) (hT : T = ps.map fun q => toS (atS l q)) :
    ∀ (n i k : Nat) (acc : List Int), n = ps.length - i → i ≤ ps.length → acc.length ≤ i → n + 1 ≤ k → galleyref31_Things.l1 k acc T i = some (acc ++ (ps.drop i).map fun q => (atS l q).1)
  | n, i, 0, acc, h1, h2, h3, hk => by omega
  | n, i, k + 1, acc, h1, h2, h3, hk => by
    have eT : T.length = ps.length := by rw [hT]; simp
    have ew : wrap64 ((i : Int) + 1) = ((i + 1 : Nat) : Int) := by unfold wrap64; omega
    rw [galleyref31_Things.l1, eT, ew]
    by_cases c : i < ps.length
    · have hr : rd_T60 T (i : Int) = toS (atS l ps[i]) := by
        rw [hT]
        simp [rd_T60, List.getD_eq_getElem?_getD, c]
      have hb := rune_range l ps[i] (hps _ (List.getElem_mem c))
      rw [if_pos (by omega), if_pos (by omega), if_pos (by omega), hr, show (toS (atS l ps[i])).f0 = (atS l ps[i]).1 from rfl, show wrap64 (atS l ps[i]).1 = (atS l ps[i]).1 by unfold wrap64; omega]
      match n, h1 with
      | 0, h1 => omega
      | n + 1, h1 =>
        rw [th1 l ps hps hlen T hT n (i + 1) k _ (by omega) (by omega) (by simp; omega) (by omega), List.drop_eq_getElem_cons c, List.map_cons, List.append_assoc]
        rfl
    · rw [if_neg (by omega), List.drop_eq_nil_of_le (by omega)]; simp
theorem units_range (l : List Int) : ∀ u ∈ unitsOf l, 0 ≤ u ∧ u ≤ 4294967295 := by
  intro u hu
  unfold unitsOf at hu
  obtain ⟨r, hr, hu⟩ := List.mem_flatMap.1 hu
  unfold unitsR at hu
  split at hu
  · rename_i c
    rcases List.mem_cons.1 hu with rfl | hu
    · omega
    · rw [List.mem_singleton.1 hu]; omega
  · rw [List.mem_singleton.1 hu]
    simp [IntKind.wrap, IntKind.bits, IntKind.signed]; omega
theorem things_f (l : List Int) (w : ∀ x ∈ l, 0 ≤ x ∧ x ≤ 255) (hm : l.length ≤ 1048576) (r : Int) (hr : r = 1 ∨ r = 2 ∨ r = 3) (k : Nat) (hk : 2 * l.length + 16 ≤ k) : galleyref31_Things.f k l r = some (thingsV l r) := by
  unfold galleyref31_Things.f thingsV
  have hl := pos_len l (l.length + 1) 0
  rcases hr with rfl | rfl | rfl
  · rw [if_pos rfl, if_pos rfl]
    have := th0 l (fun x hx => by have := w x hx; omega) (by omega) l.length 0 k [] (by omega) (by omega) (by simp) (by omega)
    rw [show ((0 : Nat) : Int) = 0 from rfl] at this
    rw [this]; simp
  · rw [if_neg (by omega), if_pos rfl, if_neg (by omega), if_pos rfl, steps_f l w hm k (by omega), Option.bind_some]
    have := th1 l (pos l (l.length + 1) 0) (pos_lt l _ _) (by omega) _ rfl (pos l (l.length + 1) 0).length 0 k [] (by omega) (by omega) (by simp) (by omega)
    rw [show ((0 : Nat) : Int) = 0 from rfl] at this
    rw [this, runes_of]; simp
  · rw [if_neg (by omega), if_neg (by omega), if_neg (by omega), if_neg (by omega), to_f l w hm k (by omega), Option.bind_some]
    have hu := units_le (runesOf l)
    have hr := runesOf_le l
    have h2 : (unitsOf l).length ≤ 2 * l.length := by unfold unitsOf; omega
    have := th2 (unitsOf l) (units_range l) (by omega) (unitsOf l).length 0 k [] (by omega) (by omega) (by simp) (by omega)
    rw [show ((0 : Nat) : Int) = 0 from rfl] at this
    rw [this]; simp
theorem things_len (l : List Int) (r : Int) : (thingsV l r).length ≤ 2 * l.length := by
  unfold thingsV
  have hu := units_le (runesOf l)
  have hr := runesOf_le l
  split
  · omega
  · split
    · omega
    · unfold unitsOf; omega
theorem compare_f (a b : List Int) (wa : ∀ x ∈ a, 0 ≤ x ∧ x ≤ 255) (wb : ∀ x ∈ b, 0 ≤ x ∧ x ≤ 255) (ha : a.length ≤ 1048576) (hb : b.length ≤ 1048576) (r : Int) (k : Nat) (hk : 8388608 ≤ k) :
    galleyref31_Compare.f k a b r = order_Compare.f a b r := by
  obtain ⟨k, rfl⟩ : ∃ k', k = k' + 1 := ⟨k - 1, by omega⟩
  unfold galleyref31_Compare.f order_Compare.f
  by_cases hr : r = 1 ∨ r = 2 ∨ r = 3
  · have hj : galleyref31_Compare.j0 (k + 1) a b r false = some (cmpL (thingsV a r) (thingsV b r), 0) := by
      have hl := things_len a r
      rw [galleyref31_Compare.j0, if_neg (by simp), things_f a wa ha r hr k (by omega), things_f b wb hb r hr k (by omega), Option.bind_some, Option.bind_some, lists31 _ _ (by omega) k (by omega), Option.bind_some]
    have hsm : (small a && small b) = true := by simp only [small, Bool.and_eq_true, decide_eq_true_eq]; omega
    rcases hr with rfl | rfl | rfl
    · simp [hj, hsm]
    · simp [hj, hsm]
    · simp [hj, hsm]
  · rw [if_neg (by omega), if_neg (by omega), if_neg hr, show (r != 3) = true by simp; omega, galleyref31_Compare.j0, if_pos rfl]
end Go.Proofs.YtdomggegacgmnaaDoor.ref
