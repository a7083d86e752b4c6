/- Plain law: OrderCommon's function answers true. Condition: at most 2^47 bytes each, all of them from 0 to 255. -/
import Derived.Test.YtdomggegacgmnaaDoorPAx9
import Derived.Test.YtdomggegacgmnaaDoorBridge
namespace Go.Proofs.YtdomggegacgmnaaDoor.pure
open Go.RowKit PA Go.Proofs.YtdomggegacgmnaaDoorW.PrintWords Go.Proofs.YtdomggegacgmnaaDoorW.PrintLast Go.Proofs.YtdomggegacgmnaaDoorW.PrintMore

theorem atV_in (l : List Int) (w : ∀ x ∈ l, 0 ≤ x ∧ x ≤ 255) (q : Nat) (h : q < l.length) : atV l q = B l q := by
  unfold atV B
  have hr : rd l q = l[q] := by simp [rd, List.getD_eq_getElem?_getD, h]
  have hw := w l[q] (List.getElem_mem h)
  rw [if_neg (by omega), if_neg (by omega), hr, List.getD_eq_getElem?_getD, List.getElem?_eq_getElem h]
  simp only [Option.getD_some]
  unfold wrap64; omega
theorem atV_out (l : List Int) (q : Int) (h : (l.length : Int) ≤ q) : atV l q = -1 := by
  unfold atV
  rw [if_neg (by omega), if_pos (by omega)]
theorem B_lt (l : List Int) (i : Nat) : B l i < 256 := Nat.mod_lt _ (by omega)
set_option maxHeartbeats 8000000 in
theorem longV_wN (n b0 b1 b2 b3 : Nat) (x y z v : Int) (hn : 0 < n) (h0 : b0 < 256) (h1 : b1 < 256) (h2 : b2 < 256) (h3 : b3 < 256) (hx : x = b0) (hy : (1 < n ∧ y = b1) ∨ (n ≤ 1 ∧ y = -1)) (hz : (2 < n ∧ z = b2) ∨ (n ≤ 2 ∧ z = -1)) (hv : (3 < n ∧ v = b3) ∨ (n ≤ 3 ∧ v = -1)) :
    longV x y z v = (wN n b0 b1 b2 b3 : Nat) := by
  unfold wN
  simp only [longV, inV, Bool.and_eq_true, Bool.or_eq_true, decide_eq_true_eq, beq_iff_eq]
  by_cases c1 : b0 < 128
  · rw [if_pos (by omega), if_pos c1]; rfl
  · rw [if_neg (by omega), if_neg c1]
    by_cases c2 : 194 ≤ b0 ∧ b0 ≤ 223 ∧ 1 < n ∧ 128 ≤ b1 ∧ b1 ≤ 191
    · rw [if_pos (by omega), if_pos c2]; rfl
    · rw [if_neg (by omega), if_neg c2]
      by_cases c3 : 2 < n ∧ 128 ≤ b2 ∧ b2 ≤ 191 ∧ ((b0 = 224 ∧ 160 ≤ b1 ∧ b1 ≤ 191) ∨ (225 ≤ b0 ∧ b0 ≤ 236 ∧ 128 ≤ b1 ∧ b1 ≤ 191) ∨ (b0 = 237 ∧ 128 ≤ b1 ∧ b1 ≤ 159) ∨ (238 ≤ b0 ∧ b0 ≤ 239 ∧ 128 ≤ b1 ∧ b1 ≤ 191))
      · rw [if_pos (by omega), if_pos c3]; rfl
      · rw [if_neg (by omega), if_neg c3]
        by_cases c4 : 3 < n ∧ 128 ≤ b2 ∧ b2 ≤ 191 ∧ 128 ≤ b3 ∧ b3 ≤ 191 ∧ ((b0 = 240 ∧ 144 ≤ b1 ∧ b1 ≤ 191) ∨ (241 ≤ b0 ∧ b0 ≤ 243 ∧ 128 ≤ b1 ∧ b1 ≤ 191) ∨ (b0 = 244 ∧ 128 ≤ b1 ∧ b1 ≤ 143))
        · rw [if_pos (by omega), if_pos c4]; rfl
        · rw [if_neg (by omega), if_neg c4]; rfl
theorem long_f (l : List Int) (w : ∀ x ∈ l, 0 ≤ x ∧ x ≤ 255) (q : Nat) (h : q < l.length) (hm : l.length ≤ 140737488355328) : galleyref02_Long.f l q = some (wAt l q : Int) := by
  unfold galleyref02_Long.f
  have e : ∀ j : Nat, j < 4 → wrap64 ((q : Int) + j) = ((q + j : Nat) : Int) := fun j hj => by unfold wrap64; omega
  have e1 := e 1 (by omega)
  have e2 := e 2 (by omega)
  have e3 := e 3 (by omega)
  simp only [Int.cast_ofNat_Int] at e1 e2 e3
  rw [e1, e2, e3]
  refine congrArg some (longV_wN (l.length - q) _ _ _ _ _ _ _ _ (by omega) (B_lt l q) (B_lt l (q + 1)) (B_lt l (q + 2)) (B_lt l (q + 3)) (atV_in l w q h) ?_ ?_ ?_)
  · by_cases g : q + 1 < l.length
    · exact .inl ⟨by omega, atV_in l w _ g⟩
    · exact .inr ⟨by omega, atV_out l _ (by omega)⟩
  · by_cases g : q + 2 < l.length
    · exact .inl ⟨by omega, atV_in l w _ g⟩
    · exact .inr ⟨by omega, atV_out l _ (by omega)⟩
  · by_cases g : q + 3 < l.length
    · exact .inl ⟨by omega, atV_in l w _ g⟩
    · exact .inr ⟨by omega, atV_out l _ (by omega)⟩
/-- does the encoding j ahead of p go over p? -/
def over (l : List Int) (p j : Nat) : Bool := decide (j ≤ p ∧ j < stepW l (p - j))
theorem inside_l (l : List Int) (w : ∀ x ∈ l, 0 ≤ x ∧ x ≤ 255) (p : Nat) (hp : p ≤ l.length) (hm : l.length ≤ 140737488355328) (k j : Nat) (h1 : 1 ≤ j) (h3 : j ≤ 3) :
    galleyref02_Inside.l0 (k + 1) l p j = if over l p j = true then some true else galleyref02_Inside.l0 k l p ((j + 1 : Nat) : Int) := by
  rw [galleyref02_Inside.l0, if_pos (by omega)]
  have ej : wrap64 ((j : Int) + 1) = ((j + 1 : Nat) : Int) := by unfold wrap64; omega
  rw [ej]
  by_cases g : j ≤ p
  · have ep : wrap64 ((p : Int) - j) = ((p - j : Nat) : Int) := by unfold wrap64; omega
    rw [ep, if_pos (by omega), long_f l w (p - j) (by omega) hm, Option.bind_some]
    have hs : ((wAt l (p - j) : Nat) : Int) > (j : Int) ↔ over l p j = true := by
      unfold over stepW
      rw [decide_eq_true_eq]
      by_cases hz : wAt l (p - j) = 0
      · rw [if_pos hz]; omega
      · rw [if_neg hz]; omega
    by_cases c : over l p j = true
    · rw [if_pos (hs.2 c), if_pos c]
    · rw [if_neg (fun h => c (hs.1 h)), if_neg c]
  · have : over l p j = false := decide_eq_false (by omega)
    rw [if_neg (by unfold wrap64; omega), this, if_neg (by simp)]
theorem inside_f (l : List Int) (w : ∀ x ∈ l, 0 ≤ x ∧ x ≤ 255) (p : Nat) (hp : p ≤ l.length) (hm : l.length ≤ 140737488355328) (k : Nat) :
    galleyref02_Inside.f (k + 4) l p = some (!decide (insideV l p = 0)) := by
  unfold galleyref02_Inside.f
  have t := inside_l l w p hp hm
  have h0 := inside_zero l p hp
  have t1 := t (k + 3) 1 (by omega) (by omega)
  have t2 := t (k + 2) 2 (by omega) (by omega)
  have t3 := t (k + 1) 3 (by omega) (by omega)
  have t4 : galleyref02_Inside.l0 (k + 1) l p ((3 + 1 : Nat) : Int) = some false := by rw [galleyref02_Inside.l0, if_neg (by omega)]
  have hov : ∀ j, over l p j = true ↔ (j ≤ p ∧ j < stepW l (p - j)) := fun j => by unfold over; rw [decide_eq_true_eq]
  rw [show (1 : Int) = ((1 : Nat) : Int) from rfl, t1]
  by_cases c1 : over l p 1 = true
  · rw [if_pos c1, decide_eq_false (fun h => by have := h0.1 h 1 (by omega) (by omega) ((hov 1).1 c1).1; have := ((hov 1).1 c1).2; omega)]; rfl
  · rw [if_neg c1, t2]
    by_cases c2 : over l p 2 = true
    · rw [if_pos c2, decide_eq_false (fun h => by have := h0.1 h 2 (by omega) (by omega) ((hov 2).1 c2).1; have := ((hov 2).1 c2).2; omega)]; rfl
    · rw [if_neg c2, t3]
      by_cases c3 : over l p 3 = true
      · rw [if_pos c3, decide_eq_false (fun h => by have := h0.1 h 3 (by omega) (by omega) ((hov 3).1 c3).1; have := ((hov 3).1 c3).2; omega)]; rfl
      · rw [if_neg c3, t4, decide_eq_true]
        · rfl
        · rw [h0]
          intro j g1 g2 g3
          rcases (by omega : j = 1 ∨ j = 2 ∨ j = 3) with rfl | rfl | rfl
          · exact Nat.le_of_not_lt fun h => c1 ((hov 1).2 ⟨g3, h⟩)
          · exact Nat.le_of_not_lt fun h => c2 ((hov 2).2 ⟨g3, h⟩)
          · exact Nat.le_of_not_lt fun h => c3 ((hov 3).2 ⟨g3, h⟩)
theorem edge_f (l : List Int) (w : ∀ x ∈ l, 0 ≤ x ∧ x ≤ 255) (p : Nat) (hp : p ≤ l.length) (hm : l.length ≤ 140737488355328) (k : Nat) :
    galleyref02_Edge.f (k + 4) l p = some (decide (insideV l p = 0)) := by
  unfold galleyref02_Edge.f
  rw [if_pos (by omega), if_pos (by omega), inside_f l w p hp hm k, Option.bind_some, Bool.not_not]

/-! ### a common beginning that ends at an edge of both -/
def Com (a b : List Int) (p : Nat) : Prop := p ≤ a.length ∧ p ≤ b.length ∧ (∀ i, i < p → B a i = B b i) ∧ insideV a p = 0 ∧ insideV b p = 0
theorem edge_far (l : List Int) (q p : Nat) (hp : p ≤ l.length) (hqp : q < p) (hi : insideV l p = 0) : q + stepW l q ≤ p := by
  rw [inside_zero l p hp] at hi
  have h4 := stepW_le4 l q
  by_cases h : p - q ≤ 3
  · have := hi (p - q) (by omega) h (by omega)
    rw [show p - (p - q) = q by omega] at this
    omega
  · omega
theorem wN_same (n m b0 b1 b2 b3 c0 c1 c2 c3 d : Nat) (hn : d ≤ n) (hm : d ≤ m) (hd : 1 ≤ d) (hw : wN n b0 b1 b2 b3 ≤ d) (hv : wN m c0 c1 c2 c3 ≤ d)
    (h0 : b0 = c0) (h1 : 1 < d → b1 = c1) (h2 : 2 < d → b2 = c2) (h3 : 3 < d → b3 = c3) : wN n b0 b1 b2 b3 = wN m c0 c1 c2 c3 := by
  subst h0
  by_cases e1 : 1 < d
  · have h1 := h1 e1
    subst h1
    by_cases e2 : 2 < d
    · have h2 := h2 e2
      subst h2
      by_cases e3 : 3 < d
      · have h3 := h3 e3
        subst h3
        unfold wN
        simp only [show (1 < n) = True from eq_true (by omega), show (1 < m) = True from eq_true (by omega), show (2 < n) = True from eq_true (by omega), show (2 < m) = True from eq_true (by omega), show (3 < n) = True from eq_true (by omega), show (3 < m) = True from eq_true (by omega)]
      · unfold wN at hw hv ⊢
        simp only [show (1 < n) = True from eq_true (by omega), show (1 < m) = True from eq_true (by omega), show (2 < n) = True from eq_true (by omega), show (2 < m) = True from eq_true (by omega)] at hw hv ⊢
        revert hw hv
        (repeat' split) <;> omega
    · unfold wN at hw hv ⊢
      simp only [show (1 < n) = True from eq_true (by omega), show (1 < m) = True from eq_true (by omega)] at hw hv ⊢
      revert hw hv
      (repeat' split) <;> omega
  · unfold wN at hw hv ⊢
    revert hw hv
    (repeat' split) <;> omega

theorem Com_step (a b : List Int) (q p : Nat) (_hq : Com a b q) (hp : Com a b p) (hqp : q < p) : wAt a q = wAt b q ∧ stepW a q = stepW b q ∧ q + stepW a q ≤ p := by
  obtain ⟨p1, p2, p3, p4, p5⟩ := hp
  have fa := edge_far a q p p1 hqp p4
  have fb := edge_far b q p p2 hqp p5
  have wa : wAt a q ≤ p - q := by unfold stepW at fa; split at fa <;> omega
  have wb : wAt b q ≤ p - q := by unfold stepW at fb; split at fb <;> omega
  have e : wAt a q = wAt b q := by
    unfold wAt at wa wb ⊢
    exact wN_same _ _ _ _ _ _ _ _ _ _ (p - q) (by omega) (by omega) (by omega) wa wb (p3 q hqp) (fun h => p3 _ (by omega)) (fun h => p3 _ (by omega)) (fun h => p3 _ (by omega))
  exact ⟨e, by unfold stepW; rw [e], fa⟩
theorem atS_same (a b : List Int) (q : Nat) (ha : q < a.length) (hb : q < b.length) (e : wAt a q = wAt b q) (h : ∀ i, i < stepW a q → B a (q + i) = B b (q + i)) : atS a q = atS b q := by
  rw [atS_eq a q ha, atS_eq b q hb, ← e]
  by_cases hz : wAt a q = 0
  · rw [if_pos hz, if_pos hz]
  · rw [if_neg hz, if_neg hz]
    have hw : stepW a q = wAt a q := by unfold stepW; rw [if_neg hz]
    rw [hw] at h
    have h4 : wAt a q ≤ 4 := by unfold wAt; exact wN_range _ _ _ _ _
    have er : rAt a q = rAt b q := by
      unfold rAt
      rw [← e]
      generalize wAt a q = w at *
      rcases (by omega : w = 1 ∨ w = 2 ∨ w = 3 ∨ w = 4) with rfl | rfl | rfl | rfl
      · simp only [rN, if_true]; exact h 0 (by omega)
      · rw [show B a q = B b q from h 0 (by omega), h 1 (by omega)]; rfl
      · rw [show B a q = B b q from h 0 (by omega), h 1 (by omega), h 2 (by omega)]; rfl
      · rw [show B a q = B b q from h 0 (by omega), h 1 (by omega), h 2 (by omega), h 3 (by omega)]
    rw [er]
theorem cut_get (l : List Int) (q n i : Nat) (hi : i < n) : ((strOfNums ((l.take (q + n)).drop q)).get! i).toNat = B l (q + i) := by
  rw [get_s]
  unfold B
  rw [List.getD_eq_getElem?_getD, List.getD_eq_getElem?_getD, List.getElem?_drop, List.getElem?_take_of_lt (by omega)]
theorem cut_same (a b : List Int) (q n : Nat) (ha : q + n ≤ a.length) (hb : q + n ≤ b.length) : strOfNums ((a.take (q + n)).drop q) = strOfNums ((b.take (q + n)).drop q) ↔ ∀ i, i < n → B a (q + i) = B b (q + i) := by
  constructor
  · intro h i hi
    rw [← cut_get a q n i hi, ← cut_get b q n i hi, h]
  · intro h
    unfold strOfNums
    congr 2
    apply List.ext_getElem?
    intro i
    by_cases hi : i < n
    · have ea : a[q + i]? = some a[q + i] := List.getElem?_eq_getElem (by omega)
      have eb : b[q + i]? = some b[q + i] := List.getElem?_eq_getElem (by omega)
      rw [List.getElem?_map, List.getElem?_map, List.getElem?_drop, List.getElem?_drop, List.getElem?_take_of_lt (by omega), List.getElem?_take_of_lt (by omega), ea, eb]
      have hB := h i hi
      unfold B at hB
      rw [List.getD_eq_getElem?_getD, List.getD_eq_getElem?_getD, ea, eb] at hB
      simp only [Option.getD_some] at hB
      simp only [Option.map_some, Option.some.injEq]
      apply UInt8.toNat_inj.1
      simp only [UInt8.toNat_ofNat']
      exact hB
    · rw [List.getElem?_eq_none (by simp; omega), List.getElem?_eq_none (by simp; omega)]
theorem common_max (a b : List Int) : ∀ (f q : Nat), Com a b q → a.length - q < f → Com a b (commonV a b f q) ∧ ∀ p, Com a b p → p ≤ commonV a b f q
  | 0, q, _, h => by omega
  | f + 1, q, hq, hf => by
    rw [commonV]
    by_cases c : q < a.length ∧ q < b.length
    · rw [if_pos c]
      have hw := width_eq a q c.1
      have hwn : (atS a q).2.1.toNat = stepW a q := by rw [hw]; rfl
      have la := stepW_le a q c.1
      have pos := stepW_pos a q
      by_cases g : atS a q = atS b q ∧ strOfNums ((a.take (q + (atS a q).2.1.toNat)).drop q) = strOfNums ((b.take (q + (atS a q).2.1.toNat)).drop q)
      · rw [if_pos g, hwn]
        have es : stepW a q = stepW b q := by
          have h2 := width_eq b q c.2
          rw [← g.1, hw] at h2; omega
        have lb := stepW_le b q c.2
        rw [← es] at lb
        rw [hwn] at g
        have hb := (cut_same a b q (stepW a q) la lb).1 g.2
        have hC : Com a b (q + stepW a q) := ⟨la, lb, fun i hi => by
          by_cases hiq : i < q
          · exact hq.2.2.1 i hiq
          · have := hb (i - q) (by omega)
            rwa [show q + (i - q) = i by omega] at this, inside_step a q c.1 hq.2.2.2.1, by rw [es]; exact inside_step b q c.2 hq.2.2.2.2⟩
        exact common_max a b f _ hC (by omega)
      · rw [if_neg g]
        refine ⟨hq, fun p hp => Nat.le_of_not_lt fun hlt => g ?_⟩
        obtain ⟨e1, e2, e3⟩ := Com_step a b q p hq hp hlt
        have hbytes : ∀ i, i < stepW a q → B a (q + i) = B b (q + i) := fun i hi => hp.2.2.1 _ (by omega)
        refine ⟨atS_same a b q c.1 c.2 e1 hbytes, ?_⟩
        rw [hwn]
        exact (cut_same a b q (stepW a q) la (by have := hp.2.1; omega)).2 hbytes
    · rw [if_neg c]
      exact ⟨hq, fun p hp => by have := hp.1; have := hp.2.1; omega⟩
theorem Com_nil (a b : List Int) : Com a b 0 := ⟨by omega, by omega, fun i h => by omega, inside_nil a, inside_nil b⟩

/-- the document's loop -/
theorem ref_l (a b : List Int) (wa : ∀ x ∈ a, 0 ≤ x ∧ x ≤ 255) (wb : ∀ x ∈ b, 0 ≤ x ∧ x ≤ 255) (ha : a.length ≤ 140737488355328) (hb : b.length ≤ 140737488355328) (R : Nat) (hR : Com a b R) (hmax : ∀ p, Com a b p → p ≤ R) :
    ∀ (n p best k : Nat), a.length + 1 - p ≤ n → p ≤ a.length + 1 → Com a b best → (∀ p', Com a b p' → p' < p → p' ≤ best) → (∀ i, i + 1 < p → B a i = B b i) → 3 * n + 8 ≤ k →
      galleyref31_Common.l0 k a b best p = some (R : Int) := by
  intro n
  induction n with
  | zero =>
    intro p best k h1 hpa hb1 hb2 hpre hk
    have fin : (∀ p', Com a b p' → p' < p) → (best : Int) = (R : Int) := fun h => by
      have g1 := hb2 R hR (h R hR)
      have g2 := hmax best hb1
      omega
    obtain ⟨k, rfl⟩ : ∃ k', k = k' + 7 := ⟨k - 7, by omega⟩
    rw [galleyref31_Common.l0, if_neg (by omega), galleyref31_Common.j1, if_neg (by simp)]
    exact congrArg some (fin fun p' hp' => by have := hp'.1; omega)
  | succ n ih =>
    intro p best k h1 hpa hb1 hb2 hpre hk
    have fin : (∀ p', Com a b p' → p' < p) → (best : Int) = (R : Int) := fun h => by
      have g1 := hb2 R hR (h R hR)
      have g2 := hmax best hb1
      omega
    obtain ⟨k, rfl⟩ : ∃ k', k = k' + 7 := ⟨k - 7, by omega⟩
    rw [galleyref31_Common.l0]
    by_cases c1 : p ≤ a.length
    · rw [if_pos (by omega)]
      by_cases c2 : p ≤ b.length
      · rw [decide_eq_true (by omega), galleyref31_Common.j1, if_pos rfl]
        have go : (∀ i, i < p → B a i = B b i) → galleyref31_Common.j2 (k + 5) a b best p false = some (R : Int) := fun hall => by
          rw [galleyref31_Common.j2, if_neg (by simp), edge_f a wa p c1 ha k, edge_f b wb p c2 hb k, Option.bind_some, Option.bind_some]
          have ew : wrap64 ((p : Int) + 1) = ((p + 1 : Nat) : Int) := by unfold wrap64; omega
          rw [ew]
          · by_cases e1 : insideV a p = 0
            · rw [if_pos (decide_eq_true e1)]
              by_cases e2 : insideV b p = 0
              · rw [if_pos (decide_eq_true e2)]
                have hC : Com a b p := ⟨c1, c2, hall, e1, e2⟩
                refine ih (p + 1) p (k + 4) (by omega) (by omega) hC (fun p' _ h => by omega) (fun i hi => hall i (by omega)) (by omega)
              · rw [if_neg (by simpa using e2)]
                refine ih (p + 1) best (k + 4) (by omega) (by omega) hb1 (fun p' hp' h => ?_) (fun i hi => hall i (by omega)) (by omega)
                by_cases e : p' = p
                · subst e; exact absurd hp'.2.2.2.2 e2
                · exact hb2 p' hp' (by omega)
            · rw [if_neg (by simpa using e1)]
              refine ih (p + 1) best (k + 4) (by omega) (by omega) hb1 (fun p' hp' h => ?_) (fun i hi => hall i (by omega)) (by omega)
              by_cases e : p' = p
              · subst e; exact absurd hp'.2.2.2.1 e1
              · exact hb2 p' hp' (by omega)
        by_cases c3 : 0 < p
        · have ep : wrap64 ((p : Int) - 1) = ((p - 1 : Nat) : Int) := by unfold wrap64; omega
          rw [if_pos (by omega), ep, if_pos (by omega), if_pos (by omega), if_pos (by omega)]
          have ra : rd a ((p - 1 : Nat) : Int) = B a (p - 1) := by
            have := atV_in a wa (p - 1) (by omega)
            have hw := wa a[p - 1] (List.getElem_mem (by omega))
            have e : rd a ((p - 1 : Nat) : Int) = a[p - 1] := by simp [rd, List.getD_eq_getElem?_getD, show p - 1 < a.length by omega]
            unfold B
            rw [e, List.getD_eq_getElem?_getD, List.getElem?_eq_getElem (by omega)]
            simp only [Option.getD_some]; omega
          have rb : rd b ((p - 1 : Nat) : Int) = B b (p - 1) := by
            have hw := wb b[p - 1] (List.getElem_mem (by omega))
            have e : rd b ((p - 1 : Nat) : Int) = b[p - 1] := by simp [rd, List.getD_eq_getElem?_getD, show p - 1 < b.length by omega]
            unfold B
            rw [e, List.getD_eq_getElem?_getD, List.getElem?_eq_getElem (by omega)]
            simp only [Option.getD_some]; omega
          rw [ra, rb]
          by_cases c4 : B a (p - 1) = B b (p - 1)
          · rw [c4, show (((B b (p - 1) : Nat) : Int) != ((B b (p - 1) : Nat) : Int)) = false by simp]
            exact go fun i hi => by
              by_cases e : i = p - 1
              · rw [e]; exact c4
              · exact hpre i (by omega)
          · rw [show (((B a (p - 1) : Nat) : Int) != ((B b (p - 1) : Nat) : Int)) = true by simp; omega, galleyref31_Common.j2, if_pos rfl]
            refine congrArg some (fin fun p' hp' => Nat.lt_of_not_le fun h => c4 (hp'.2.2.1 (p - 1) (by omega)))
        · rw [if_neg (by omega)]
          exact go fun i hi => by omega
      · rw [decide_eq_false (by omega), galleyref31_Common.j1, if_neg (by simp)]
        exact congrArg some (fin fun p' hp' => by have := hp'.2.1; omega)
    · rw [if_neg (by omega), galleyref31_Common.j1, if_neg (by simp)]
      exact congrArg some (fin fun p' hp' => by have := hp'.1; omega)

theorem range8 {l : List Int} (w : ∀ x ∈ l, (Lit.int .u8 x).wf = true) : ∀ x ∈ l, 0 ≤ x ∧ x ≤ 255 := fun x hx => by
  have := w x hx
  simp [Lit.wf, IntKind.min, IntKind.max, IntKind.bits, IntKind.signed] at this
  omega
theorem own_big (l : List Int) (h : l.length ≤ 140737488351232) : galleylaw31_own.f l = some l := by
  unfold galleylaw31_own.f
  simp only [Option.bind_some, List.length_nil, List.nil_append]
  rw [if_pos (by omega)]
theorem OrderCommon (l0 l1 : List Int) (h0 : l0.length ≤ 140737488351232) (w0 : ∀ x ∈ l0, (Lit.int .u8 x).wf = true) (h1 : l1.length ≤ 140737488351232) (w1 : ∀ x ∈ l1, (Lit.int .u8 x).wf = true) : ∃ k, galleylaw31_OrderCommon.f k l0 l1 = some true := by
  have m := common_max l0 l1 (l0.length + 1) 0 (Com_nil l0 l1) (by omega)
  have r := ref_l l0 l1 (range8 w0) (range8 w1) (by omega) (by omega) _ m.1 m.2 (l0.length + 1) 0 0 (3 * (l0.length + 1) + 8) (by omega) (by omega) (Com_nil l0 l1) (fun p' _ h => by omega) (fun i h => by omega) (Nat.le_refl _)
  refine ⟨3 * (l0.length + 1) + 8, ?_⟩
  unfold galleylaw31_OrderCommon.f galleylaw31_wakes.f
  rw [Option.bind_some, if_pos rfl, own_big l0 h0, own_big l1 h1]
  simp only [Option.bind_some]
  unfold order_Common.f galleyref31_Common.f
  rw [if_pos ⟨by omega, by omega⟩, Option.bind_some, show ((0 : Int)) = ((0 : Nat) : Int) from rfl, r, Option.bind_some, beq_self_eq_true]
end Go.Proofs.YtdomggegacgmnaaDoor.pure
