/- order.Compare: two texts by a ruler: the call hands back what the plain function of XGCore says. Condition: fewer than 2^45 bytes each. -/
import Derived.Test.YtdomggegacgmnaaDoorGTo
import Derived.Test.YtdomggegacgmnaaDoorPAx2
namespace Go.Proofs.YtdomggegacgmnaaDoor.PA
open Go.RowKit Go.Proofs.YtdomggegacgmnaaDoorW.PrintWords Go.Proofs.YtdomggegacgmnaaDoorW.PrintLast Go.Proofs.YtdomggegacgmnaaDoorW.PrintMore

theorem cmpL_cons (a b : List Int) (p : Nat) (h1 : p < a.length) (h2 : p < b.length) :
    cmpL (a.drop p) (b.drop p) = if a[p] < b[p] then -1 else if a[p] > b[p] then 1 else cmpL (a.drop (p + 1)) (b.drop (p + 1)) := by
  rw [List.drop_eq_getElem_cons h1, List.drop_eq_getElem_cons h2, cmpL]
theorem cmpL_end (a b : List Int) (p : Nat) (h1 : p ≤ a.length) (h2 : p ≤ b.length) (h : p = a.length ∨ p = b.length) :
    cmpL (a.drop p) (b.drop p) = if (a.length : Int) < b.length then -1 else if (a.length : Int) > b.length then 1 else 0 := by
  by_cases ha : p = a.length
  · rw [ha, List.drop_length]
    by_cases hb : a.length < b.length
    · rw [List.drop_eq_getElem_cons hb, cmpL, if_pos (by omega)]
    · rw [if_neg (by omega), if_neg (by omega), List.drop_eq_nil_of_le (by omega), cmpL]
  · have hb : p = b.length := by omega
    rw [hb, List.drop_length, List.drop_eq_getElem_cons (by omega : b.length < a.length), cmpL, if_neg (by omega), if_pos (by omega)]
theorem cmp_int (a b : Int) : cmp_Compare_int.f a b = some (if a < b then -1 else if a > b then 1 else 0) := by
  unfold cmp_Compare_int.f cmp_isNaN_int.f
  simp only [bne_self_eq_false, Option.bind_some, Bool.false_eq_true, if_false]
  split
  · rfl
  · split <;> rfl
theorem rd_nat (l : List Int) (p : Nat) (h : p < l.length) : rd l p = l[p] := by
  simp [rd, List.getD_eq_getElem?_getD, h]
theorem cmp_byte (a b : Int) : cmp_Compare_byte.f a b = some (if a < b then -1 else if a > b then 1 else 0) := by
  unfold cmp_Compare_byte.f cmp_isNaN_byte.f
  simp only [bne_self_eq_false, Option.bind_some, Bool.false_eq_true, if_false]
  split
  · rfl
  · split <;> rfl
theorem lists_byte_l (a b : List Int) (ha : a.length ≤ 140737488355328) : ∀ (n p k : Nat), a.length - p ≤ n → p ≤ a.length → p ≤ b.length → 2 * n + 2 ≤ k →
    order_lists_byte.l0 k a b p = some (cmpL (a.drop p) (b.drop p))
  | n, p, k + 2, h1, h2, h3, h4 => by
    rw [order_lists_byte.l0]
    by_cases c1 : (p : Int) < (a.length : Int)
    · rw [if_pos c1]
      by_cases c2 : (p : Int) < (b.length : Int)
      · have g1 : p < a.length := by omega
        have g2 : p < b.length := by omega
        rw [decide_eq_true c2, order_lists_byte.j1, if_pos rfl, if_pos (by omega), if_pos c1, if_pos c2, rd_nat a p g1, rd_nat b p g2, cmpL_cons a b p g1 g2]
        by_cases c3 : a[p] = b[p]
        · rw [if_pos c3, if_neg (by omega), if_neg (by omega)]
          have e : wrap64 ((p : Int) + 1) = ((p + 1 : Nat) : Int) := by unfold wrap64; omega
          rw [e]
          match n, h1 with
          | 0, h1 => omega
          | n + 1, h1 => exact lists_byte_l a b ha n (p + 1) k (by omega) (by omega) (by omega) (by omega)
        · rw [if_neg c3, cmp_byte, Option.bind_some]
          by_cases c4 : a[p] < b[p]
          · rw [if_pos c4, if_pos c4]
          · rw [if_neg c4, if_neg c4, if_pos (by omega), if_pos (by omega)]
      · rw [decide_eq_false c2, order_lists_byte.j1, if_neg (by simp), cmp_int, Option.bind_some, cmpL_end a b p h2 h3 (by omega)]
    · rw [if_neg c1, order_lists_byte.j1, if_neg (by simp), cmp_int, Option.bind_some, cmpL_end a b p h2 h3 (by omega)]
  | n, p, 0, h1, h2, h3, h4 => by omega
  | n, p, 1, h1, h2, h3, h4 => by omega
theorem lists_byte (a b : List Int) (ha : a.length ≤ 140737488355328) : order_lists_byte.f (2 * a.length + 2) a b = some (cmpL a b) :=
  lists_byte_l a b ha a.length 0 _ (by omega) (by omega) (by omega) (by omega)
theorem cmp_rune (a b : Int) : cmp_Compare_rune.f a b = some (if a < b then -1 else if a > b then 1 else 0) := by
  unfold cmp_Compare_rune.f cmp_isNaN_rune.f
  simp only [bne_self_eq_false, Option.bind_some, Bool.false_eq_true, if_false]
  split
  · rfl
  · split <;> rfl
theorem lists_rune_l (a b : List Int) (ha : a.length ≤ 140737488355328) : ∀ (n p k : Nat), a.length - p ≤ n → p ≤ a.length → p ≤ b.length → 2 * n + 2 ≤ k →
    order_lists_rune.l0 k a b p = some (cmpL (a.drop p) (b.drop p))
  | n, p, k + 2, h1, h2, h3, h4 => by
    rw [order_lists_rune.l0]
    by_cases c1 : (p : Int) < (a.length : Int)
    · rw [if_pos c1]
      by_cases c2 : (p : Int) < (b.length : Int)
      · have g1 : p < a.length := by omega
        have g2 : p < b.length := by omega
        rw [decide_eq_true c2, order_lists_rune.j1, if_pos rfl, if_pos (by omega), if_pos c1, if_pos c2, rd_nat a p g1, rd_nat b p g2, cmpL_cons a b p g1 g2]
        by_cases c3 : a[p] = b[p]
        · rw [if_pos c3, if_neg (by omega), if_neg (by omega)]
          have e : wrap64 ((p : Int) + 1) = ((p + 1 : Nat) : Int) := by unfold wrap64; omega
          rw [e]
          match n, h1 with
          | 0, h1 => omega
          | n + 1, h1 => exact lists_rune_l a b ha n (p + 1) k (by omega) (by omega) (by omega) (by omega)
        · rw [if_neg c3, cmp_rune, Option.bind_some]
          by_cases c4 : a[p] < b[p]
          · rw [if_pos c4, if_pos c4]
          · rw [if_neg c4, if_neg c4, if_pos (by omega), if_pos (by omega)]
      · rw [decide_eq_false c2, order_lists_rune.j1, if_neg (by simp), cmp_int, Option.bind_some, cmpL_end a b p h2 h3 (by omega)]
    · rw [if_neg c1, order_lists_rune.j1, if_neg (by simp), cmp_int, Option.bind_some, cmpL_end a b p h2 h3 (by omega)]
  | n, p, 0, h1, h2, h3, h4 => by omega
  | n, p, 1, h1, h2, h3, h4 => by omega
theorem lists_rune (a b : List Int) (ha : a.length ≤ 140737488355328) : order_lists_rune.f (2 * a.length + 2) a b = some (cmpL a b) :=
  lists_rune_l a b ha a.length 0 _ (by omega) (by omega) (by omega) (by omega)
theorem cmp_uint16 (a b : Int) : cmp_Compare_uint16.f a b = some (if a < b then -1 else if a > b then 1 else 0) := by
  unfold cmp_Compare_uint16.f cmp_isNaN_uint16.f
  simp only [bne_self_eq_false, Option.bind_some, Bool.false_eq_true, if_false]
  split
  · rfl
  · split <;> rfl
theorem lists_uint16_l (a b : List Int) (ha : a.length ≤ 140737488355328) : ∀ (n p k : Nat), a.length - p ≤ n → p ≤ a.length → p ≤ b.length → 2 * n + 2 ≤ k →
    order_lists_uint16.l0 k a b p = some (cmpL (a.drop p) (b.drop p))
  | n, p, k + 2, h1, h2, h3, h4 => by
    rw [order_lists_uint16.l0]
    by_cases c1 : (p : Int) < (a.length : Int)
    · rw [if_pos c1]
      by_cases c2 : (p : Int) < (b.length : Int)
      · have g1 : p < a.length := by omega
        have g2 : p < b.length := by omega
        rw [decide_eq_true c2, order_lists_uint16.j1, if_pos rfl, if_pos (by omega), if_pos c1, if_pos c2, rd_nat a p g1, rd_nat b p g2, cmpL_cons a b p g1 g2]
        by_cases c3 : a[p] = b[p]
        · rw [if_pos c3, if_neg (by omega), if_neg (by omega)]
          have e : wrap64 ((p : Int) + 1) = ((p + 1 : Nat) : Int) := by unfold wrap64; omega
          rw [e]
          match n, h1 with
          | 0, h1 => omega
          | n + 1, h1 => exact lists_uint16_l a b ha n (p + 1) k (by omega) (by omega) (by omega) (by omega)
        · rw [if_neg c3, cmp_uint16, Option.bind_some]
          by_cases c4 : a[p] < b[p]
          · rw [if_pos c4, if_pos c4]
          · rw [if_neg c4, if_neg c4, if_pos (by omega), if_pos (by omega)]
      · rw [decide_eq_false c2, order_lists_uint16.j1, if_neg (by simp), cmp_int, Option.bind_some, cmpL_end a b p h2 h3 (by omega)]
    · rw [if_neg c1, order_lists_uint16.j1, if_neg (by simp), cmp_int, Option.bind_some, cmpL_end a b p h2 h3 (by omega)]
  | n, p, 0, h1, h2, h3, h4 => by omega
  | n, p, 1, h1, h2, h3, h4 => by omega
theorem lists_uint16 (a b : List Int) (ha : a.length ≤ 140737488355328) : order_lists_uint16.f (2 * a.length + 2) a b = some (cmpL a b) :=
  lists_uint16_l a b ha a.length 0 _ (by omega) (by omega) (by omega) (by omega)

set_option maxHeartbeats 8000000 in
set_option maxRecDepth 100000 in
theorem compare_bytes (A0 : Option Addr) (c0 : Nat) (l0 : List Int) (A1 : Option Addr) (c1 : Nat) (l1 : List Int) (w : World) (hr0 : Kd.C (Kd.int .u8) w A0 l0.length l0) (hc0 : l0.length ≤ c0) (hr1 : Kd.C (Kd.int .u8) w A1 l1.length l1) (hc1 : l1.length ≤ c1) (hm : l0.length ≤ 140737488355328) :
    Calls Tryd.prog 12 #[.slice A0 l0.length c0, .slice A1 l1.length c1, .int .i64 1] w fun e w' => e = .returned (.tuple #[.int .i64 (cmpL l0 l1), .int .i64 0]) ∧ Below w.heap.size w w' := by
  have hc := Aside0.mk (order_lists_byte.calls _ A0 c0 l0 A1 c1 l1 _ w hr0 hc0 hr1 hc1 (lists_byte l0 l1 hm))
  clear hr0 hr1
  generalize cmpL l0 l1 = r at hc ⊢
  go_enter Tryd.func12, Tryd.ntmps12
  go_wp2_with fail
  refine hc.out.mono ?_
  rintro e w' ⟨rfl, hd⟩
  have hb := Aside0.mk hd.below
  clear hc hd
  go_wp2_with fail
  go_ret2
  exact ⟨rfl, hb.out⟩

set_option maxHeartbeats 8000000 in
set_option maxRecDepth 100000 in
theorem compare_runes (A0 : Option Addr) (c0 : Nat) (l0 : List Int) (A1 : Option Addr) (c1 : Nat) (l1 : List Int) (w : World) (hr0 : Kd.C (Kd.int .u8) w A0 l0.length l0) (_hc0 : l0.length ≤ c0) (hr1 : Kd.C (Kd.int .u8) w A1 l1.length l1) (_hc1 : l1.length ≤ c1) (hm : l0.length < 35184372088832) (hm1 : l1.length < 35184372088832) :
    Calls Tryd.prog 12 #[.slice A0 l0.length c0, .slice A1 l1.length c1, .int .i64 2] w fun e w' => e = .returned (.tuple #[.int .i64 (cmpL (runesOf l0) (runesOf l1)), .int .i64 0]) ∧ Below w.heap.size w w' := by
  have hv0 := Kd.C_string Tryd.underlying22 Tryd.underlying5 Tryd.underlying9 hr0 (c := c0)
  have hs0 : (strOfNums l0).size = l0.length := strOfNums_size l0
  have hl0 := runesOf_le l0
  obtain ⟨k0, W1, hq0, hk0, hB0, hC0⟩ := conv_runes (strOfNums l0) w (by rw [hs0]; unfold runesOf at hl0; omega)
  have hv1 := Kd.C_string Tryd.underlying22 Tryd.underlying5 Tryd.underlying9 (Kd.C_below hr1 hB0) (c := c1)
  have hs1 : (strOfNums l1).size = l1.length := strOfNums_size l1
  have hl1 := runesOf_le l1
  obtain ⟨k1, W2, hq1, hk1, hB1, hC1⟩ := conv_runes (strOfNums l1) W1 (by rw [hs1]; unfold runesOf at hl1; omega)
  rw [hs0, show runesFrom (strOfNums l0) l0.length 0 = runesOf l0 from rfl] at hq0 hk0 hC0
  rw [hs1, show runesFrom (strOfNums l1) l1.length 0 = runesOf l1 from rfl] at hq1 hk1 hC1
  have hc := Aside0.mk (order_lists_rune.calls _ _ k0 (runesOf l0) _ k1 (runesOf l1) _ W2 (Kd.C_below hC0 hB1) hk0 hC1 hk1 (lists_rune (runesOf l0) (runesOf l1) (by omega)))
  have HB := Aside0.mk (below_then hB0 hB0.size hB1)
  generalize cmpL (runesOf l0) (runesOf l1) = r at hc ⊢
  generalize strOfNums l0 = s0 at hv0 hq0
  generalize strOfNums l1 = s1 at hv1 hq1
  clear hr0 hr1 hC0 hC1 hB0 hB1 hs0 hs1 hl0 hl1
  go_enter Tryd.func12, Tryd.ntmps12
  go_wp2_with fail
  refine hc.out.mono ?_
  rintro e w' ⟨rfl, hd⟩
  have hb := Aside0.mk (below_then HB.out HB.out.size hd.below)
  clear hc hd HB
  go_wp2_with fail
  go_ret2
  exact ⟨rfl, hb.out⟩

set_option maxHeartbeats 8000000 in
set_option maxRecDepth 100000 in
theorem compare_units (A0 : Option Addr) (c0 : Nat) (l0 : List Int) (A1 : Option Addr) (c1 : Nat) (l1 : List Int) (w : World) (hr0 : Kd.C (Kd.int .u8) w A0 l0.length l0) (hc0 : l0.length ≤ c0) (hr1 : Kd.C (Kd.int .u8) w A1 l1.length l1) (hc1 : l1.length ≤ c1) (hm : l0.length < 35184372088832) (hm1 : l1.length < 35184372088832) :
    Calls Tryd.prog 12 #[.slice A0 l0.length c0, .slice A1 l1.length c1, .int .i64 3] w fun e w' => e = .returned (.tuple #[.int .i64 (cmpL (unitsOf l0) (unitsOf l1)), .int .i64 0]) ∧ Below w.heap.size w w' := by
  have HR1 := Aside0.mk hr1
  have h0 := Aside0.mk (to_walk A0 c0 l0 w hr0 hc0 hm)
  have hlen : (unitsOf l0).length ≤ 140737488355328 := by
    have g1 := units_le (runesOf l0)
    have g2 := runesOf_le l0
    unfold unitsOf; omega
  generalize unitsOf l0 = u0 at h0 hlen ⊢
  generalize hg : cmpL u0 (unitsOf l1) = r
  have HG := Aside0.mk hg
  clear hr0 hr1 hg
  go_enter Tryd.func12, Tryd.ntmps12
  go_wp2_with fail
  refine h0.out.mono ?_
  rintro e W1 ⟨v0, rfl, hR0, hB0⟩
  obtain ⟨B0, k0, rfl, hk0, hC0⟩ := Kd.R_reads hR0
  have h1 := Aside0.mk (to_walk A1 c1 l1 W1 (Kd.C_below HR1.out hB0) hc1 hm1)
  have HC0 := Aside0.mk hC0
  have HB0 := Aside0.mk hB0
  clear hR0 hC0 hB0 h0 HR1
  go_wp2_with fail
  refine h1.out.mono ?_
  rintro e W2 ⟨v1, rfl, hR1, hB1⟩
  obtain ⟨B1, k1, rfl, hk1, hC1⟩ := Kd.R_reads hR1
  have hc := Aside0.mk (order_lists_uint16.calls _ B0 k0 u0 B1 k1 (unitsOf l1) r W2 (Kd.C_below HC0.out hB1) hk0 hC1 hk1 (HG.out ▸ lists_uint16 u0 (unitsOf l1) hlen))
  have HB := Aside0.mk (below_then HB0.out HB0.out.size hB1)
  clear hR1 hC1 hB1 h1 HC0 HB0
  go_wp2_with fail
  refine hc.out.mono ?_
  rintro e w' ⟨rfl, hd⟩
  have hb := Aside0.mk (below_then HB.out HB.out.size hd.below)
  clear hc hd HB
  go_wp2_with fail
  go_ret2
  exact ⟨rfl, hb.out⟩

set_option maxHeartbeats 8000000 in
set_option maxRecDepth 100000 in
theorem compare_none (v0 v1 : Value) (a2 : Int) (w : World) (h : ¬ (a2 = 1 ∨ a2 = 2 ∨ a2 = 3)) :
    Calls Tryd.prog 12 #[v0, v1, .int .i64 a2] w fun e w' => e = .returned (.tuple #[.int .i64 0, .int .i64 3]) ∧ Below w.heap.size w w' := by
  have e1 : (a2 == 1) = false := beq_eq_false_iff_ne.2 (by omega)
  have e2 : (a2 == 2) = false := beq_eq_false_iff_ne.2 (by omega)
  have e3 : (a2 == 3) = false := beq_eq_false_iff_ne.2 (by omega)
  go_enter Tryd.func12, Tryd.ntmps12
  go_wp2_with fail
  go_ret2
  exact ⟨rfl, by repeat (first | exact Below.refl _ _ | apply pw_below_drewN | apply below_drew1)⟩

theorem order_Compare.calls (A0 : Option Addr) (c0 : Nat) (l0 : List Int) (A1 : Option Addr) (c1 : Nat) (l1 : List Int) (a2 : Int) (r1 : Int) (r2 : Int) (w : World) (hr0 : Kd.C (Kd.int .u8) w A0 l0.length l0) (hc0 : l0.length ≤ c0) (hr1 : Kd.C (Kd.int .u8) w A1 l1.length l1) (hc1 : l1.length ≤ c1) (h : order_Compare.f l0 l1 a2 = some (r1, r2)) :
    Calls Tryd.prog 12 #[.slice A0 l0.length c0, .slice A1 l1.length c1, .int .i64 a2] w fun e w' => e = .returned (.tuple #[.int .i64 r1, .int .i64 r2]) ∧ Below w.heap.size w w' := by
  unfold order_Compare.f at h
  by_cases c : a2 = 1 ∨ a2 = 2 ∨ a2 = 3
  · rw [if_pos c] at h
    by_cases hs : (small l0 && small l1) = true
    · rw [if_pos hs] at h
      simp only [Option.some.injEq, Prod.mk.injEq] at h
      obtain ⟨rfl, rfl⟩ := h
      simp only [small, Bool.and_eq_true, decide_eq_true_eq] at hs
      rcases c with rfl | rfl | rfl
      · exact compare_bytes A0 c0 l0 A1 c1 l1 w hr0 hc0 hr1 hc1 (by omega)
      · exact compare_runes A0 c0 l0 A1 c1 l1 w hr0 hc0 hr1 hc1 hs.1 hs.2
      · exact compare_units A0 c0 l0 A1 c1 l1 w hr0 hc0 hr1 hc1 hs.1 hs.2
    · rw [if_neg hs] at h; cases h
  · rw [if_neg c] at h
    simp only [Option.some.injEq, Prod.mk.injEq] at h
    obtain ⟨rfl, rfl⟩ := h
    exact compare_none _ _ a2 w c
end Go.Proofs.YtdomggegacgmnaaDoor.PA
