/- Plain law: OrderTotal's function answers true. Condition: fewer than 2^45 bytes each. -/
import Derived.Test.YtdomggegacgmnaaDoorPAx10
import Derived.Test.YtdomggegacgmnaaDoorGSort
namespace Go.Proofs.YtdomggegacgmnaaDoor.pure
open Go.RowKit PA Go.Proofs.YtdomggegacgmnaaDoorW.PrintWords Go.Proofs.YtdomggegacgmnaaDoorW.PrintLast Go.Proofs.YtdomggegacgmnaaDoorW.PrintMore

theorem own_f (l : List Int) (h : l.length ≤ 1048576) : galleylaw31_own.f l = some l := by
  unfold galleylaw31_own.f
  simp only [Option.bind_some, List.length_nil, List.nil_append]
  rw [if_pos (by omega)]
theorem cmp_f (a b : List Int) (r : Int) (hr : r = 1 ∨ r = 2 ∨ r = 3) (ha : a.length ≤ 1048576) (hb : b.length ≤ 1048576) : order_Compare.f a b r = some (cmpL (thingsV a r) (thingsV b r), 0) := by
  unfold order_Compare.f
  rw [if_pos hr, if_pos (by simp only [small, Bool.and_eq_true, decide_eq_true_eq]; omega)]
theorem cmpL_range : ∀ a b : List Int, -1 ≤ cmpL a b ∧ cmpL a b ≤ 1
  | [], [] => by simp [cmpL]
  | [], y :: ys => by simp [cmpL]
  | x :: xs, [] => by simp [cmpL]
  | x :: xs, y :: ys => by
    rw [cmpL]
    split
    · omega
    · split
      · omega
      · exact cmpL_range xs ys
theorem cmpL_min (a b c : List Int) (h1 : cmpL a b ≤ 0) (h2 : cmpL b c ≤ 0) : cmpL a c = mn (cmpL a b) (cmpL b c) := by
  have r1 := cmpL_range a b
  have r2 := cmpL_range b c
  have r3 := cmpL_range a c
  unfold mn
  by_cases e1 : cmpL a b = 0
  · rw [cmpL_zero a b e1] at h1 ⊢; rw [cmpL_self]; split <;> omega
  · by_cases e2 : cmpL b c = 0
    · rw [← cmpL_zero b c e2, cmpL_self]; split <;> omega
    · have := cmpL_lt_trans a b c (by omega) (by omega)
      split <;> omega
theorem cmpL_max (a b c : List Int) (h1 : cmpL a b ≥ 0) (h2 : cmpL b c ≥ 0) : cmpL a c = mx (cmpL a b) (cmpL b c) := by
  have r1 := cmpL_range a b
  have r2 := cmpL_range b c
  have r3 := cmpL_range a c
  have n1 := cmpL_anti a b
  have n2 := cmpL_anti b c
  have n3 := cmpL_anti a c
  have := cmpL_min c b a (by omega) (by omega)
  unfold mn at this
  unfold mx
  revert this
  split <;> split <;> omega
theorem strOf_inj (a b : List Int) (ha : ∀ x ∈ a, 0 ≤ x ∧ x ≤ 255) (hb : ∀ x ∈ b, 0 ≤ x ∧ x ≤ 255) (h : (strOfNums a).toList = (strOfNums b).toList) : a = b := by
  rw [Go.ByteArray.toList_eq, Go.ByteArray.toList_eq] at h
  have h : (a.map fun n => UInt8.ofNat n.toNat) = (b.map fun n => UInt8.ofNat n.toNat) := h
  induction a generalizing b with
  | nil => cases b with
    | nil => rfl
    | cons y ys => simp at h
  | cons x xs ih =>
    cases b with
    | nil => simp at h
    | cons y ys =>
      simp only [List.map_cons, List.cons.injEq] at h
      have hx := ha x (by simp)
      have hy := hb y (by simp)
      have e := congrArg UInt8.toNat h.1
      simp only [UInt8.toNat_ofNat'] at e
      rw [ih ys (fun z hz => ha z (by simp [hz])) (fun z hz => hb z (by simp [hz])) h.2 h.2, show x = y by omega]
theorem range_of {l : List Int} (w : ∀ x ∈ l, (Lit.int .u8 x).wf = true) : ∀ x ∈ l, 0 ≤ x ∧ x ≤ 255 := fun x hx => by
  have := w x hx
  simp [Lit.wf, IntKind.min, IntKind.max, IntKind.bits, IntKind.signed] at this
  omega
theorem total_round (k : Nat) (l0 l1 l2 : List Int) (h0 : l0.length ≤ 1048576) (w0 : ∀ x ∈ l0, 0 ≤ x ∧ x ≤ 255) (h1 : l1.length ≤ 1048576) (w1 : ∀ x ∈ l1, 0 ≤ x ∧ x ≤ 255) (h2 : l2.length ≤ 1048576) (r : Int) (hr : r = 1 ∨ r = 2 ∨ r = 3) :
    galleylaw31_OrderTotal.l0 (k + 3) l0 l1 l2 r = galleylaw31_OrderTotal.l0 k l0 l1 l2 (wrap64 (r + 1)) := by
  rw [galleylaw31_OrderTotal.l0, if_pos (by omega)]
  simp only [own_f _ h0, own_f _ h1, own_f _ h2, cmp_f _ _ r hr h0 h1, cmp_f _ _ r hr h1 h0, cmp_f _ _ r hr h1 h2, cmp_f _ _ r hr h0 h2, Option.bind_some, if_true]
  have n1 := cmpL_anti (thingsV l0 r) (thingsV l1 r)
  have r1 := cmpL_range (thingsV l0 r) (thingsV l1 r)
  have mnl := cmpL_min (thingsV l0 r) (thingsV l1 r) (thingsV l2 r)
  have mxl := cmpL_max (thingsV l0 r) (thingsV l1 r) (thingsV l2 r)
  have eqs : (strOfNums l0).toList = (strOfNums l1).toList → cmpL (thingsV l0 r) (thingsV l1 r) = 0 := fun h => by rw [strOf_inj _ _ w0 w1 h, cmpL_self]
  have eqb : r = 1 → cmpL (thingsV l0 r) (thingsV l1 r) = 0 → (strOfNums l0).toList = (strOfNums l1).toList := fun hr h => by
    subst hr
    have : l0 = l1 := cmpL_zero l0 l1 h
    rw [this]
  generalize cmpL (thingsV l0 r) (thingsV l1 r) = ab at *
  generalize cmpL (thingsV l1 r) (thingsV l0 r) = ba at *
  generalize cmpL (thingsV l1 r) (thingsV l2 r) = bc at *
  generalize cmpL (thingsV l0 r) (thingsV l2 r) = ac at *
  have ew : wrap64 (-ba) = -ba := by unfold wrap64; omega
  rw [ew, if_pos n1, if_neg (by omega), decide_eq_false (by omega), galleylaw31_OrderTotal.j1, if_neg (by simp)]
  have j2 : galleylaw31_OrderTotal.j2 (k + 1) l0 l1 l2 r ab false = galleylaw31_OrderTotal.l0 k l0 l1 l2 (wrap64 (r + 1)) := by
    rw [galleylaw31_OrderTotal.j2, if_neg (by simp)]
    by_cases c : (strOfNums l0).toList = (strOfNums l1).toList
    · rw [if_pos c, if_pos (eqs c)]; split <;> rfl
    · rw [if_neg c]
      by_cases c2 : r = 1
      · rw [if_pos c2, if_neg (fun h => c (eqb c2 h))]
      · rw [if_neg c2]
  have mx2 : ab ≥ 0 → bc ≥ 0 → (ac != mx ab bc) = false := fun g1 g2 => by rw [mxl g1 g2]; simp
  by_cases c1 : ab ≤ 0
  · rw [if_pos c1]
    by_cases c2 : bc ≤ 0
    · rw [if_pos c2, if_pos (mnl c1 c2)]
      by_cases c3 : ab ≥ 0
      · rw [if_pos c3]
        by_cases c4 : bc ≥ 0
        · rw [if_pos c4, mx2 c3 c4, j2]
        · rw [if_neg c4, j2]
      · rw [if_neg c3, j2]
    · rw [if_neg c2]
      by_cases c3 : ab ≥ 0
      · rw [if_pos c3]
        by_cases c4 : bc ≥ 0
        · rw [if_pos c4, mx2 c3 c4, j2]
        · rw [if_neg c4, j2]
      · rw [if_neg c3, j2]
  · rw [if_neg c1]
    by_cases c3 : ab ≥ 0
    · rw [if_pos c3]
      by_cases c4 : bc ≥ 0
      · rw [if_pos c4, mx2 c3 c4, j2]
      · rw [if_neg c4, j2]
    · rw [if_neg c3, j2]
theorem OrderTotal (l0 l1 l2 : List Int) (h0 : l0.length ≤ 1048576) (w0 : ∀ x ∈ l0, (Lit.int .u8 x).wf = true) (h1 : l1.length ≤ 1048576) (w1 : ∀ x ∈ l1, (Lit.int .u8 x).wf = true) (h2 : l2.length ≤ 1048576) (_w2 : ∀ x ∈ l2, (Lit.int .u8 x).wf = true) : ∃ k, galleylaw31_OrderTotal.f k l0 l1 l2 = some true := by
  refine ⟨10, ?_⟩
  unfold galleylaw31_OrderTotal.f galleylaw31_wakes.f
  rw [Option.bind_some, if_pos rfl]
  have t := fun k r hr => total_round k l0 l1 l2 h0 (range_of w0) h1 (range_of w1) h2 r hr
  rw [t 7 1 (by omega), t 4 _ (by unfold wrap64; omega), t 1 _ (by unfold wrap64; omega)]
  rw [galleylaw31_OrderTotal.l0, if_neg (by unfold wrap64; omega)]
end Go.Proofs.YtdomggegacgmnaaDoor.pure
