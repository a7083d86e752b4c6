-- printed by wip/print_given.py (a program of this session over the kit's printer); not trusted: Lean checks it
import Derived.Test.YtdomggegacgmnaaDoorPAx0
import Derived.Test.YtdomggegacgmnaaDoorPAx4
import Derived.Test.YtdomggegacgmnaaDoorPAx8
import Derived.Test.YtdomggegacgmnaaDoorGSort
import Derived.Test.YtdomggegacgmnaaDoorGWakes
namespace Go.Proofs.YtdomggegacgmnaaDoor.PA
open Go.RowKit Go.Proofs.YtdomggegacgmnaaDoorW.PrintWords Go.Proofs.YtdomggegacgmnaaDoorW.PrintLast Go.Proofs.YtdomggegacgmnaaDoorW.PrintMore
attribute [local go_sem] max2_int min2_int max_two min_two max_three min_three max_four min_four   -- for this text's walks alone
set_option linter.unusedVariables false
set_option linter.unusedSimpArgs false

/-! ### galleylaw31_OrderSorts: function 4 -/
mutual
def galleylaw31_OrderSorts.j0 : Nat → List (List Int) → Int → List (List Int) → Int → Bool → Option (Bool)
  | 0, _, _, _, _, _ => none
  | k + 1, x0, x1, x5, x6, x23 => if x23 = true then (if (x5.length : Int) = 0 then (some (x6 == 3)) else (some false)) else ((galleyref31_Sort.f k x0 x1).bind fun t424 => (if x6 = 0 then (galleylaw31_OrderSorts.j1 k x0 x5 t424 ((x5.length : Int) != (x0.length : Int))) else (galleylaw31_OrderSorts.j1 k x0 x5 t424 true)))
def galleylaw31_OrderSorts.j1 : Nat → List (List Int) → List (List Int) → List Int → Bool → Option (Bool)
  | 0, _, _, _, _ => none
  | k + 1, x0, x5, x7, x42 => if x42 = true then (some false) else (galleylaw31_OrderSorts.l0 k x0 x5 x7 0)
def galleylaw31_OrderSorts.l0 : Nat → List (List Int) → List (List Int) → List Int → Int → Option (Bool)
  | 0, _, _, _, _ => none
  | k + 1, x0, x5, x7, x8 => if x8 < (x5.length : Int) then (if 0 ≤ x8 then (if x8 < (x7.length : Int) then (if 0 ≤ (rd x7 x8) then (if (rd x7 x8) < (x0.length : Int) then (if (strOfNums (rd_L4 x5 x8)).toList = (strOfNums (rd_L4 x0 (rd x7 x8))).toList then (galleylaw31_OrderSorts.l0 k x0 x5 x7 (wrap64 (x8 + 1))) else (some false)) else (none)) else (none)) else (none)) else (none)) else (some true)
end
def galleylaw31_OrderSorts.f (k : Nat) (l0 : List (List Int)) (a1 : Int) : Option (Bool) := (galleylaw31_wakes.f).bind fun t416 => (if t416 = true then ((galleylaw31_copied.f k l0).bind fun t417 => ((order_Sort.f t417 a1).bind fun bt420 => (if a1 < 1 then (galleylaw31_OrderSorts.j0 k l0 a1 bt420.1 bt420.2 true) else (galleylaw31_OrderSorts.j0 k l0 a1 bt420.1 bt420.2 (decide (a1 > 3)))))) else (some false))
theorem galleylaw31_OrderSorts.mono_l : ∀ k, (∀ y0 y1 y2 y3 y4, LeO (galleylaw31_OrderSorts.j0 k y0 y1 y2 y3 y4) (galleylaw31_OrderSorts.j0 (k + 1) y0 y1 y2 y3 y4)) ∧ (∀ y0 y1 y2 y3, LeO (galleylaw31_OrderSorts.j1 k y0 y1 y2 y3) (galleylaw31_OrderSorts.j1 (k + 1) y0 y1 y2 y3)) ∧ (∀ y0 y1 y2 y3, LeO (galleylaw31_OrderSorts.l0 k y0 y1 y2 y3) (galleylaw31_OrderSorts.l0 (k + 1) y0 y1 y2 y3))
  | 0 => ⟨fun _ _ _ _ _ r h => by simp [galleylaw31_OrderSorts.j0] at h, fun _ _ _ _ r h => by simp [galleylaw31_OrderSorts.j1] at h, fun _ _ _ _ r h => by simp [galleylaw31_OrderSorts.l0] at h⟩
  | k + 1 => by
    obtain ⟨ih0, ih1, ih2⟩ := galleylaw31_OrderSorts.mono_l k
    refine ⟨?_, ?_, ?_⟩
    · intro y0 y1 y2 y3 y4
      unfold galleylaw31_OrderSorts.j0
      repeat' first
      | (with_reducible exact ih0 _ _ _ _ _)
      | (with_reducible exact ih1 _ _ _ _)
      | (with_reducible exact ih2 _ _ _ _)
      | (with_reducible exact galleylaw31_copied.mono _ _)
      | (with_reducible exact galleyref31_Sort.mono _ _ _)
      | (with_reducible exact LeO.refl _)
      | (with_reducible exact LeO.none _)
      | (with_reducible refine LeO.ite ?_ ?_)
      | (with_reducible refine LeO.bind ?_ (fun _ => ?_))
      | exact ih0 _ _ _ _ _
      | exact ih1 _ _ _ _
      | exact ih2 _ _ _ _
      | exact galleylaw31_copied.mono _ _
      | exact galleyref31_Sort.mono _ _ _
      | exact LeO.none _
      | refine LeO.ite ?_ ?_
      | refine LeO.bind ?_ (fun _ => ?_)
    · intro y0 y1 y2 y3
      unfold galleylaw31_OrderSorts.j1
      repeat' first
      | (with_reducible exact ih0 _ _ _ _ _)
      | (with_reducible exact ih1 _ _ _ _)
      | (with_reducible exact ih2 _ _ _ _)
      | (with_reducible exact galleylaw31_copied.mono _ _)
      | (with_reducible exact galleyref31_Sort.mono _ _ _)
      | (with_reducible exact LeO.refl _)
      | (with_reducible exact LeO.none _)
      | (with_reducible refine LeO.ite ?_ ?_)
      | (with_reducible refine LeO.bind ?_ (fun _ => ?_))
      | exact ih0 _ _ _ _ _
      | exact ih1 _ _ _ _
      | exact ih2 _ _ _ _
      | exact galleylaw31_copied.mono _ _
      | exact galleyref31_Sort.mono _ _ _
      | exact LeO.none _
      | refine LeO.ite ?_ ?_
      | refine LeO.bind ?_ (fun _ => ?_)
    · intro y0 y1 y2 y3
      unfold galleylaw31_OrderSorts.l0
      repeat' first
      | (with_reducible exact ih0 _ _ _ _ _)
      | (with_reducible exact ih1 _ _ _ _)
      | (with_reducible exact ih2 _ _ _ _)
      | (with_reducible exact galleylaw31_copied.mono _ _)
      | (with_reducible exact galleyref31_Sort.mono _ _ _)
      | (with_reducible exact LeO.refl _)
      | (with_reducible exact LeO.none _)
      | (with_reducible refine LeO.ite ?_ ?_)
      | (with_reducible refine LeO.bind ?_ (fun _ => ?_))
      | exact ih0 _ _ _ _ _
      | exact ih1 _ _ _ _
      | exact ih2 _ _ _ _
      | exact galleylaw31_copied.mono _ _
      | exact galleyref31_Sort.mono _ _ _
      | exact LeO.none _
      | refine LeO.ite ?_ ?_
      | refine LeO.bind ?_ (fun _ => ?_)
theorem galleylaw31_OrderSorts.mono : ∀ a0 a1 k, LeO (galleylaw31_OrderSorts.f k a0 a1) (galleylaw31_OrderSorts.f (k + 1) a0 a1) := by
  intro a0 a1 k
  obtain ⟨ih0, ih1, ih2⟩ := galleylaw31_OrderSorts.mono_l k
  unfold galleylaw31_OrderSorts.f
  repeat' first
      | (with_reducible exact ih0 _ _ _ _ _)
      | (with_reducible exact ih1 _ _ _ _)
      | (with_reducible exact ih2 _ _ _ _)
      | (with_reducible exact galleylaw31_copied.mono _ _)
      | (with_reducible exact galleyref31_Sort.mono _ _ _)
      | (with_reducible exact LeO.refl _)
      | (with_reducible exact LeO.none _)
      | (with_reducible refine LeO.ite ?_ ?_)
      | (with_reducible refine LeO.bind ?_ (fun _ => ?_))
      | exact ih0 _ _ _ _ _
      | exact ih1 _ _ _ _
      | exact ih2 _ _ _ _
      | exact galleylaw31_copied.mono _ _
      | exact galleyref31_Sort.mono _ _ _
      | exact LeO.none _
      | refine LeO.ite ?_ ?_
      | refine LeO.bind ?_ (fun _ => ?_)
set_option maxHeartbeats 8000000 in
set_option maxRecDepth 100000 in
theorem galleylaw31_OrderSorts.calls (k : Nat) (A0 : Option Addr) (c0 : Nat) (l0 : List (List Int)) (a1 : Int) (r : Bool) (w : World) (hr0 : Kd.C (Kd.slice 5 (Kd.int .u8)) w A0 l0.length l0) (hc0 : l0.length ≤ c0) (h : galleylaw31_OrderSorts.f k l0 a1 = some r) (hLaid : Laid w := by repeat (first | exact hLaid | exact hLaid.below (by assumption) | exact hLaid.below (Aside0.out (by assumption)) | refine Laid.drewN ?_ _ | refine Laid.drew ?_ | refine Laid.alloc ?_ _ | refine Laid.set hLaid (Aside0.out (by assumption)) ?_)) :
    Calls Tryd.prog 4 #[.slice A0 l0.length c0, .int .i64 a1] w fun e w' => e = .returned (.bool r) ∧ Below w.heap.size w w' := by
  have HR0 := Aside0.mk hr0
  have HC0 := Aside0.mk hc0
  clear hr0 hc0
  have HB := Aside0.mk (Below.refl w.heap.size w)
  have H : ((galleylaw31_wakes.f).bind fun t416 => (if t416 = true then ((galleylaw31_copied.f k l0).bind fun t417 => ((order_Sort.f t417 a1).bind fun bt420 => (if a1 < 1 then (galleylaw31_OrderSorts.j0 k l0 a1 bt420.1 bt420.2 true) else (galleylaw31_OrderSorts.j0 k l0 a1 bt420.1 bt420.2 (decide (a1 > 3)))))) else (some false))) = some r := h
  clear h
  replace H := Option.bind_eq_some_iff.mp H
  obtain ⟨t416, A30, H⟩ := H
  replace H : (if t416 = true then ((galleylaw31_copied.f k l0).bind fun t417 => ((order_Sort.f t417 a1).bind fun bt420 => (if a1 < 1 then (galleylaw31_OrderSorts.j0 k l0 a1 bt420.1 bt420.2 true) else (galleylaw31_OrderSorts.j0 k l0 a1 bt420.1 bt420.2 (decide (a1 > 3)))))) else (some false)) = some r := H
  have A3 := Aside0.mk A30
  clear A30
  by_cases c4 : t416 = true
  · subst c4
    have H1 : ((galleylaw31_copied.f k l0).bind fun t417 => ((order_Sort.f t417 a1).bind fun bt420 => (if a1 < 1 then (galleylaw31_OrderSorts.j0 k l0 a1 bt420.1 bt420.2 true) else (galleylaw31_OrderSorts.j0 k l0 a1 bt420.1 bt420.2 (decide (a1 > 3)))))) = some r := by rw [if_pos rfl] at H; exact H
    clear H
    have H := H1
    clear H1
    replace H := Option.bind_eq_some_iff.mp H
    obtain ⟨t417, A50, H⟩ := H
    replace H : ((order_Sort.f t417 a1).bind fun bt420 => (if a1 < 1 then (galleylaw31_OrderSorts.j0 k l0 a1 bt420.1 bt420.2 true) else (galleylaw31_OrderSorts.j0 k l0 a1 bt420.1 bt420.2 (decide (a1 > 3))))) = some r := H
    have A5 := Aside0.mk A50
    clear A50
    replace H := Option.bind_eq_some_iff.mp H
    obtain ⟨⟨t420, t421⟩, A60, H⟩ := H
    replace H : (if a1 < 1 then (galleylaw31_OrderSorts.j0 k l0 a1 t420 t421 true) else (galleylaw31_OrderSorts.j0 k l0 a1 t420 t421 (decide (a1 > 3)))) = some r := H
    have A6 := Aside0.mk A60
    clear A60
    have HC7 := Aside0.mk H
    clear H
    go_enter Tryd.func4, Tryd.ntmps4
    go_upto_region 4 with (first | (go_at_call 11; (with_reducible refine (galleylaw31_wakes.calls  true _ A3.out).mono ?_); rintro e w8 ⟨rfl, hb⟩; have n0_ := Aside0.mk (below_step (by repeat (first | (with_reducible first | exact HB.out | apply below_alloc | apply pw_below_drewN | apply below_drew1) | exact HB.out)) hb); clear HB; have HB := n0_; clear n0_; (try clear hb); (try clear hb2); (try clear hk); (try clear hi)) | (go_at_call 17; (with_reducible refine (galleylaw31_copied.calls k _ _ l0 t417 _ ?side1 ?side2 A5.out).mono ?_); (case side1 => repeat (first | exact (Kd.C_below HR0.out HB.out) | (with_reducible refine Kd.C_alloc ?_ _) | (with_reducible refine Kd.C_drewN ?_ _) | (with_reducible refine Kd.C_drew ?_))); (case side2 => exact HC0.out); rintro e w9 ⟨v418, rfl, ho0, hb⟩; have n0_ := Aside0.mk (Kd.S_lower ho0 (below_size (by repeat (first | (with_reducible first | exact HB.out | apply below_alloc | apply pw_below_drewN | apply below_drew1) | exact HB.out)))); have n1_ := Aside0.mk (below_step (by repeat (first | (with_reducible first | exact HB.out | apply below_alloc | apply pw_below_drewN | apply below_drew1) | exact HB.out)) hb); clear HB; have HO419 := n0_; have HB := n1_; clear n0_ n1_; (try clear hb); (try clear hb2); (try clear hk); (try clear hi); (try clear ho0); obtain ⟨Ao10, co10, eo10⟩ := Kd.S_slice HO419.out; subst eo10) | (go_at_call 16; (with_reducible refine (order_Sort.calls _ _ t417 a1 t420 t421 _ ?side1 ?side2 A6.out).mono ?_); (case side1 => repeat (first | exact (Kd.S_reads' HO419.out).2.2 | (with_reducible refine Kd.C_alloc ?_ _) | (with_reducible refine Kd.C_drewN ?_ _) | (with_reducible refine Kd.C_drew ?_))); (case side2 => exact (Kd.S_reads' HO419.out).2.1); rintro e w11 ⟨v422, rfl, ho0, hb⟩; have n0_ := Aside0.mk (Kd.S_elder' (by (with_reducible repeat (first | apply Kd.S_alloc | apply Kd.S_drewN | apply Kd.S_drew)); exact HO419.out) (Kd.S_base ho0) hb); have n1_ := Aside0.mk (Kd.S_lower (Kd.S_new' ho0 (Kd.S_lt (by (with_reducible repeat (first | apply Kd.S_alloc | apply Kd.S_drewN | apply Kd.S_drew)); exact HO419.out))) (below_size (by repeat (first | (with_reducible first | exact HB.out | apply below_alloc | apply pw_below_drewN | apply below_drew1) | exact HB.out)))); have n2_ := Aside0.mk (below_step (by repeat (first | (with_reducible first | exact HB.out | apply below_alloc | apply pw_below_drewN | apply below_drew1) | exact HB.out)) hb); clear HO419; clear HB; have HO419 := n0_; have HO423 := n1_; have HB := n2_; clear n0_ n1_ n2_; (try clear hb); (try clear hb2); (try clear hk); (try clear hi); (try clear ho0)))
    repeat (go_quiet (first | (go_at_call 11; (with_reducible refine (galleylaw31_wakes.calls  true _ A3.out).mono ?_); rintro e w8 ⟨rfl, hb⟩; have n0_ := Aside0.mk (below_step (by repeat (first | (with_reducible first | exact HB.out | apply below_alloc | apply pw_below_drewN | apply below_drew1) | exact HB.out)) hb); clear HB; have HB := n0_; clear n0_; (try clear hb); (try clear hb2); (try clear hk); (try clear hi)) | (go_at_call 17; (with_reducible refine (galleylaw31_copied.calls k _ _ l0 t417 _ ?side1 ?side2 A5.out).mono ?_); (case side1 => repeat (first | exact (Kd.C_below HR0.out HB.out) | (with_reducible refine Kd.C_alloc ?_ _) | (with_reducible refine Kd.C_drewN ?_ _) | (with_reducible refine Kd.C_drew ?_))); (case side2 => exact HC0.out); rintro e w9 ⟨v418, rfl, ho0, hb⟩; have n0_ := Aside0.mk (Kd.S_lower ho0 (below_size (by repeat (first | (with_reducible first | exact HB.out | apply below_alloc | apply pw_below_drewN | apply below_drew1) | exact HB.out)))); have n1_ := Aside0.mk (below_step (by repeat (first | (with_reducible first | exact HB.out | apply below_alloc | apply pw_below_drewN | apply below_drew1) | exact HB.out)) hb); clear HB; have HO419 := n0_; have HB := n1_; clear n0_ n1_; (try clear hb); (try clear hb2); (try clear hk); (try clear hi); (try clear ho0); obtain ⟨Ao10, co10, eo10⟩ := Kd.S_slice HO419.out; subst eo10) | (go_at_call 16; (with_reducible refine (order_Sort.calls _ _ t417 a1 t420 t421 _ ?side1 ?side2 A6.out).mono ?_); (case side1 => repeat (first | exact (Kd.S_reads' HO419.out).2.2 | (with_reducible refine Kd.C_alloc ?_ _) | (with_reducible refine Kd.C_drewN ?_ _) | (with_reducible refine Kd.C_drew ?_))); (case side2 => exact (Kd.S_reads' HO419.out).2.1); rintro e w11 ⟨v422, rfl, ho0, hb⟩; have n0_ := Aside0.mk (Kd.S_elder' (by (with_reducible repeat (first | apply Kd.S_alloc | apply Kd.S_drewN | apply Kd.S_drew)); exact HO419.out) (Kd.S_base ho0) hb); have n1_ := Aside0.mk (Kd.S_lower (Kd.S_new' ho0 (Kd.S_lt (by (with_reducible repeat (first | apply Kd.S_alloc | apply Kd.S_drewN | apply Kd.S_drew)); exact HO419.out))) (below_size (by repeat (first | (with_reducible first | exact HB.out | apply below_alloc | apply pw_below_drewN | apply below_drew1) | exact HB.out)))); have n2_ := Aside0.mk (below_step (by repeat (first | (with_reducible first | exact HB.out | apply below_alloc | apply pw_below_drewN | apply below_drew1) | exact HB.out)) hb); clear HO419; clear HB; have HO419 := n0_; have HO423 := n1_; have HB := n2_; clear n0_ n1_ n2_; (try clear hb); (try clear hb2); (try clear hk); (try clear hi); (try clear ho0))); go_upto_region 4 with (first | (go_at_call 11; (with_reducible refine (galleylaw31_wakes.calls  true _ A3.out).mono ?_); rintro e w8 ⟨rfl, hb⟩; have n0_ := Aside0.mk (below_step (by repeat (first | (with_reducible first | exact HB.out | apply below_alloc | apply pw_below_drewN | apply below_drew1) | exact HB.out)) hb); clear HB; have HB := n0_; clear n0_; (try clear hb); (try clear hb2); (try clear hk); (try clear hi)) | (go_at_call 17; (with_reducible refine (galleylaw31_copied.calls k _ _ l0 t417 _ ?side1 ?side2 A5.out).mono ?_); (case side1 => repeat (first | exact (Kd.C_below HR0.out HB.out) | (with_reducible refine Kd.C_alloc ?_ _) | (with_reducible refine Kd.C_drewN ?_ _) | (with_reducible refine Kd.C_drew ?_))); (case side2 => exact HC0.out); rintro e w9 ⟨v418, rfl, ho0, hb⟩; have n0_ := Aside0.mk (Kd.S_lower ho0 (below_size (by repeat (first | (with_reducible first | exact HB.out | apply below_alloc | apply pw_below_drewN | apply below_drew1) | exact HB.out)))); have n1_ := Aside0.mk (below_step (by repeat (first | (with_reducible first | exact HB.out | apply below_alloc | apply pw_below_drewN | apply below_drew1) | exact HB.out)) hb); clear HB; have HO419 := n0_; have HB := n1_; clear n0_ n1_; (try clear hb); (try clear hb2); (try clear hk); (try clear hi); (try clear ho0); obtain ⟨Ao10, co10, eo10⟩ := Kd.S_slice HO419.out; subst eo10) | (go_at_call 16; (with_reducible refine (order_Sort.calls _ _ t417 a1 t420 t421 _ ?side1 ?side2 A6.out).mono ?_); (case side1 => repeat (first | exact (Kd.S_reads' HO419.out).2.2 | (with_reducible refine Kd.C_alloc ?_ _) | (with_reducible refine Kd.C_drewN ?_ _) | (with_reducible refine Kd.C_drew ?_))); (case side2 => exact (Kd.S_reads' HO419.out).2.1); rintro e w11 ⟨v422, rfl, ho0, hb⟩; have n0_ := Aside0.mk (Kd.S_elder' (by (with_reducible repeat (first | apply Kd.S_alloc | apply Kd.S_drewN | apply Kd.S_drew)); exact HO419.out) (Kd.S_base ho0) hb); have n1_ := Aside0.mk (Kd.S_lower (Kd.S_new' ho0 (Kd.S_lt (by (with_reducible repeat (first | apply Kd.S_alloc | apply Kd.S_drewN | apply Kd.S_drew)); exact HO419.out))) (below_size (by repeat (first | (with_reducible first | exact HB.out | apply below_alloc | apply pw_below_drewN | apply below_drew1) | exact HB.out)))); have n2_ := Aside0.mk (below_step (by repeat (first | (with_reducible first | exact HB.out | apply below_alloc | apply pw_below_drewN | apply below_drew1) | exact HB.out)) hb); clear HO419; clear HB; have HO419 := n0_; have HO423 := n1_; have HB := n2_; clear n0_ n1_ n2_; (try clear hb); (try clear hb2); (try clear hk); (try clear hi); (try clear ho0))))
    (try simp only [Act.put, List.setIfInBounds_toArray, List.set_cons_zero, List.set_cons_succ])
    go_cut [23] (fun v23 wc => ∃ (kq : Nat) (x23_6 : Bool), v23 = .bool x23_6 ∧ Aside0 (galleylaw31_OrderSorts.j0 kq l0 a1 t420 t421 x23_6 = some r) ∧ Aside0 (kq ≤ k) ∧ Aside0 (Kd.S (Kd.slice 5 (Kd.int .u8)) 22 wc w.heap.size (fun _ => True) v422 t420) ∧ Aside0 (Below w.heap.size w wc))
    case first =>
      have H := HC7.out
      clear HC7
      by_cases c12 : a1 < 1
      · rw [if_pos c12] at H
        have c12b0 : decide (a1 < 1) = true := decide_eq_true c12
        clear c12
        (first | rw [c12b0] | (simp only [i64_w, i32_w]; rw [c12b0]) | skip)
        have H' := Aside0.mk H
        clear H
        go_wp2
        repeat (go_quiet (fail); try go_wp2)
        go_meet
        case rel => exact ⟨_, (true), (by first | rfl | (simp; done) | (simp [*]; done)), H', ⟨by first | omega | exact Nat.le_refl _⟩, ⟨by (with_reducible repeat (first | apply Kd.S_alloc | apply Kd.S_drewN | apply Kd.S_drew)); exact Kd.S_mono HO423.out (fun _ hk => trivial)⟩, ⟨by repeat (first | (with_reducible first | exact HB.out | apply below_alloc | apply pw_below_drewN | apply below_drew1) | exact HB.out)⟩⟩
      · rw [if_neg c12] at H
        have c12b0 : decide (a1 < 1) = false := decide_eq_false c12
        clear c12
        (first | rw [c12b0] | (simp only [i64_w, i32_w]; rw [c12b0]) | skip)
        have H' := Aside0.mk H
        clear H
        go_wp2
        repeat (go_quiet (fail); try go_wp2)
        go_meet
        case rel => exact ⟨_, (decide (a1 > 3)), (by first | rfl | (simp; done) | (simp [*]; done)), H', ⟨by first | omega | exact Nat.le_refl _⟩, ⟨by (with_reducible repeat (first | apply Kd.S_alloc | apply Kd.S_drewN | apply Kd.S_drew)); exact Kd.S_mono HO423.out (fun _ hk => trivial)⟩, ⟨by repeat (first | (with_reducible first | exact HB.out | apply below_alloc | apply pw_below_drewN | apply below_drew1) | exact HB.out)⟩⟩
    case rest =>
      clear HC7
      try clear c1
      try clear p2
      try clear c4
      try clear c12
      try clear c12b0
      obtain ⟨kq, x23_6, rfl, HA, HJ6, HO_5, HB⟩ := hcut
      cases kq with
      | zero => exact absurd HA.out (by simp [galleylaw31_OrderSorts.j0])
      | succ kj6 =>
        have H := HA.out
        clear HA
        simp only [galleylaw31_OrderSorts.j0] at H
        by_cases c13 : x23_6 = true
        · subst c13
          have H1 : (if (t420.length : Int) = 0 then (some (t421 == 3)) else (some false)) = some r := by rw [if_pos rfl] at H; exact H
          clear H
          have H := H1
          clear H1
          by_cases c14 : (t420.length : Int) = 0
          · rw [if_pos c14] at H
            have c14b0 : ((t420.length : Int) == 0) = true := beq_iff_eq.mpr c14
            have c14b1 : ((t420.length : Int) != 0) = false := bne_eq_false_iff_eq.mpr c14
            clear c14
            obtain rfl := Option.some.inj H
            obtain ⟨Ao15, co15, eo15⟩ := Kd.S_slice HO_5.out
            subst eo15
            go_wp2
            repeat (go_quiet (fail); try go_wp2)
            go_ret
            exact ⟨by first | rfl | (simp [errW_none, errW_some] <;> rfl) | (simp [*, errW_none, errW_some] <;> rfl), by repeat (first | (with_reducible first | exact HB.out | apply below_alloc | apply pw_below_drewN | apply below_drew1) | exact HB.out)⟩
          · rw [if_neg c14] at H
            have c14b0 : ((t420.length : Int) == 0) = false := beq_eq_false_iff_ne.mpr c14
            have c14b1 : ((t420.length : Int) != 0) = true := bne_iff_ne.mpr c14
            have c14b2 : ¬ (t420 = []) := fun h_ => c14 (by rw [h_]; rfl)
            obtain rfl := Option.some.inj H
            obtain ⟨Ao16, co16, eo16⟩ := Kd.S_slice HO_5.out
            subst eo16
            go_wp2
            repeat (go_quiet (fail); try go_wp2)
            go_ret
            exact ⟨by first | rfl | (simp [errW_none, errW_some] <;> rfl) | (simp [*, errW_none, errW_some] <;> rfl), by repeat (first | (with_reducible first | exact HB.out | apply below_alloc | apply pw_below_drewN | apply below_drew1) | exact HB.out)⟩
        · replace c13 := Bool.eq_false_iff.mpr c13
          subst c13
          have H1 : ((galleyref31_Sort.f kj6 l0 a1).bind fun t424 => (if t421 = 0 then (galleylaw31_OrderSorts.j1 kj6 l0 t420 t424 ((t420.length : Int) != (l0.length : Int))) else (galleylaw31_OrderSorts.j1 kj6 l0 t420 t424 true))) = some r := by rw [if_neg (show ¬ (false = true) by decide)] at H; exact H
          clear H
          have H := H1
          clear H1
          replace H := Option.bind_eq_some_iff.mp H
          obtain ⟨t424, A170, H⟩ := H
          replace H : (if t421 = 0 then (galleylaw31_OrderSorts.j1 kj6 l0 t420 t424 ((t420.length : Int) != (l0.length : Int))) else (galleylaw31_OrderSorts.j1 kj6 l0 t420 t424 true)) = some r := H
          have A17 := Aside0.mk A170
          clear A170
          have HC18 := Aside0.mk H
          clear H
          go_upto_region 7 with (first | (go_at_call 18; (with_reducible refine (galleyref31_Sort.calls kj6 _ _ l0 a1 t424 _ ?side1 ?side2 A17.out).mono ?_); (case side1 => repeat (first | exact (Kd.C_below HR0.out HB.out) | (with_reducible refine Kd.C_alloc ?_ _) | (with_reducible refine Kd.C_drewN ?_ _) | (with_reducible refine Kd.C_drew ?_))); (case side2 => exact HC0.out); rintro e w19 ⟨v425, rfl, ho0, hb⟩; have n0_ := Aside0.mk (Kd.S_below (by (with_reducible repeat (first | apply Kd.S_alloc | apply Kd.S_drewN | apply Kd.S_drew)); exact HO_5.out) hb); have n1_ := Aside0.mk (Kd.R_lower ho0 (below_size (by repeat (first | (with_reducible first | exact HB.out | apply below_alloc | apply pw_below_drewN | apply below_drew1) | exact HB.out)))); have n2_ := Aside0.mk (below_step (by repeat (first | (with_reducible first | exact HB.out | apply below_alloc | apply pw_below_drewN | apply below_drew1) | exact HB.out)) hb); clear HO_5; clear HB; have HO_5 := n0_; have HO426 := n1_; have HB := n2_; clear n0_ n1_ n2_; (try clear hb); (try clear hb2); (try clear hk); (try clear hi); (try clear ho0)))
          repeat (go_quiet (first | (go_at_call 18; (with_reducible refine (galleyref31_Sort.calls kj6 _ _ l0 a1 t424 _ ?side1 ?side2 A17.out).mono ?_); (case side1 => repeat (first | exact (Kd.C_below HR0.out HB.out) | (with_reducible refine Kd.C_alloc ?_ _) | (with_reducible refine Kd.C_drewN ?_ _) | (with_reducible refine Kd.C_drew ?_))); (case side2 => exact HC0.out); rintro e w19 ⟨v425, rfl, ho0, hb⟩; have n0_ := Aside0.mk (Kd.S_below (by (with_reducible repeat (first | apply Kd.S_alloc | apply Kd.S_drewN | apply Kd.S_drew)); exact HO_5.out) hb); have n1_ := Aside0.mk (Kd.R_lower ho0 (below_size (by repeat (first | (with_reducible first | exact HB.out | apply below_alloc | apply pw_below_drewN | apply below_drew1) | exact HB.out)))); have n2_ := Aside0.mk (below_step (by repeat (first | (with_reducible first | exact HB.out | apply below_alloc | apply pw_below_drewN | apply below_drew1) | exact HB.out)) hb); clear HO_5; clear HB; have HO_5 := n0_; have HO426 := n1_; have HB := n2_; clear n0_ n1_ n2_; (try clear hb); (try clear hb2); (try clear hk); (try clear hi); (try clear ho0))); go_upto_region 7 with (first | (go_at_call 18; (with_reducible refine (galleyref31_Sort.calls kj6 _ _ l0 a1 t424 _ ?side1 ?side2 A17.out).mono ?_); (case side1 => repeat (first | exact (Kd.C_below HR0.out HB.out) | (with_reducible refine Kd.C_alloc ?_ _) | (with_reducible refine Kd.C_drewN ?_ _) | (with_reducible refine Kd.C_drew ?_))); (case side2 => exact HC0.out); rintro e w19 ⟨v425, rfl, ho0, hb⟩; have n0_ := Aside0.mk (Kd.S_below (by (with_reducible repeat (first | apply Kd.S_alloc | apply Kd.S_drewN | apply Kd.S_drew)); exact HO_5.out) hb); have n1_ := Aside0.mk (Kd.R_lower ho0 (below_size (by repeat (first | (with_reducible first | exact HB.out | apply below_alloc | apply pw_below_drewN | apply below_drew1) | exact HB.out)))); have n2_ := Aside0.mk (below_step (by repeat (first | (with_reducible first | exact HB.out | apply below_alloc | apply pw_below_drewN | apply below_drew1) | exact HB.out)) hb); clear HO_5; clear HB; have HO_5 := n0_; have HO426 := n1_; have HB := n2_; clear n0_ n1_ n2_; (try clear hb); (try clear hb2); (try clear hk); (try clear hi); (try clear ho0))))
          (try simp only [Act.put, List.setIfInBounds_toArray, List.set_cons_zero, List.set_cons_succ])
          go_cut [42] (fun v42 wc => ∃ (kq : Nat) (x42_17 : Bool), v42 = .bool x42_17 ∧ Aside0 (galleylaw31_OrderSorts.j1 kq l0 t420 t424 x42_17 = some r) ∧ Aside0 (kq ≤ kj6) ∧ Aside0 (Kd.S (Kd.slice 5 (Kd.int .u8)) 22 wc w.heap.size (fun _ => True) v422 t420) ∧ Aside0 (Kd.R (Kd.int .i64) 3 wc w.heap.size (fun _ => True) v425 t424) ∧ Aside0 (Below w.heap.size w wc))
          case first =>
            have H := HC18.out
            clear HC18
            by_cases c20 : t421 = 0
            · rw [if_pos c20] at H
              have c20b0 : (t421 == 0) = true := beq_iff_eq.mpr c20
              have c20b1 : (t421 != 0) = false := bne_eq_false_iff_eq.mpr c20
              clear c20
              (first | rw [c20b0] | (simp only [i64_w, i32_w]; rw [c20b0]) | skip)
              have H' := Aside0.mk H
              clear H
              obtain ⟨Ao21, co21, eo21⟩ := Kd.S_slice HO_5.out
              subst eo21
              go_wp2
              repeat (go_quiet (fail); try go_wp2)
              go_meet
              case rel => exact ⟨_, (((t420.length : Int) != (l0.length : Int))), (by first | rfl | (simp; done) | (simp [*]; done)), H', ⟨by have := HJ6.out; first | omega | exact Nat.le_refl _⟩, ⟨by (with_reducible repeat (first | apply Kd.S_alloc | apply Kd.S_drewN | apply Kd.S_drew)); exact HO_5.out⟩, ⟨by (with_reducible repeat (first | apply Kd.R_alloc | apply Kd.R_drewN | apply Kd.R_drew)); exact HO426.out⟩, ⟨by repeat (first | (with_reducible first | exact HB.out | apply below_alloc | apply pw_below_drewN | apply below_drew1) | exact HB.out)⟩⟩
            · rw [if_neg c20] at H
              have c20b0 : (t421 == 0) = false := beq_eq_false_iff_ne.mpr c20
              have c20b1 : (t421 != 0) = true := bne_iff_ne.mpr c20
              (first | rw [c20b0] | (simp only [i64_w, i32_w]; rw [c20b0]) | skip)
              have H' := Aside0.mk H
              clear H
              go_wp2
              repeat (go_quiet (fail); try go_wp2)
              go_meet
              case rel => exact ⟨_, (true), (by first | rfl | (simp; done) | (simp [*]; done)), H', ⟨by have := HJ6.out; first | omega | exact Nat.le_refl _⟩, ⟨by (with_reducible repeat (first | apply Kd.S_alloc | apply Kd.S_drewN | apply Kd.S_drew)); exact HO_5.out⟩, ⟨by (with_reducible repeat (first | apply Kd.R_alloc | apply Kd.R_drewN | apply Kd.R_drew)); exact HO426.out⟩, ⟨by repeat (first | (with_reducible first | exact HB.out | apply below_alloc | apply pw_below_drewN | apply below_drew1) | exact HB.out)⟩⟩
          case rest =>
            clear HC18
            try clear c1
            try clear c2
            try clear p2
            try clear c4
            try clear c12
            try clear c12b0
            try clear c13
            try clear c14
            try clear c14b0
            try clear c14b1
            try clear c14b2
            try clear c20
            try clear c20b0
            try clear c20b1
            try clear p2
            obtain ⟨kq, x42_17, rfl, HA, HJ17, HO_5, HO_7, HB⟩ := hcut
            cases kq with
            | zero => exact absurd HA.out (by simp [galleylaw31_OrderSorts.j1])
            | succ kj17 =>
              have H := HA.out
              clear HA
              simp only [galleylaw31_OrderSorts.j1] at H
              by_cases c22 : x42_17 = true
              · subst c22
                have H1 : (some false) = some r := by rw [if_pos rfl] at H; exact H
                clear H
                have H := H1
                clear H1
                obtain rfl := Option.some.inj H
                go_wp2
                repeat (go_quiet (fail); try go_wp2)
                go_ret
                exact ⟨by first | rfl | (simp [errW_none, errW_some] <;> rfl) | (simp [*, errW_none, errW_some] <;> rfl), by repeat (first | (with_reducible first | exact HB.out | apply below_alloc | apply pw_below_drewN | apply below_drew1) | exact HB.out)⟩
              · replace c22 := Bool.eq_false_iff.mpr c22
                subst c22
                have H1 : (galleylaw31_OrderSorts.l0 kj17 l0 t420 t424 0) = some r := by rw [if_neg (show ¬ (false = true) by decide)] at H; exact H
                clear H
                have H := H1
                clear H1
                have H' := Aside0.mk H
                clear H
                go_wp2
                repeat (go_quiet (fail); try go_wp2)
                go_loopg [8] kj17 (fun kq v8 w' => ∃ (x8_3 : Int), v8 = .int .i64 x8_3 ∧ Aside0 (galleylaw31_OrderSorts.l0 kq l0 t420 t424 x8_3 = some r) ∧ Aside0 (kq ≤ kj17) ∧ Aside0 (Kd.S (Kd.slice 5 (Kd.int .u8)) 22 w' w.heap.size (fun _ => True) v422 t420) ∧ Aside0 (Kd.R (Kd.int .i64) 3 w' w.heap.size (fun _ => True) v425 t424) ∧ Aside0 (Below w.heap.size w w'))
                case atStart => exact ⟨(0), (by first | rfl | (simp; done) | (simp [*]; done)), H', ⟨Nat.le_refl _⟩, ⟨by (with_reducible repeat (first | apply Kd.S_alloc | apply Kd.S_drewN | apply Kd.S_drew)); exact HO_5.out⟩, ⟨by (with_reducible repeat (first | apply Kd.R_alloc | apply Kd.R_drewN | apply Kd.R_drew)); exact HO_7.out⟩, ⟨by repeat (first | (with_reducible first | exact HB.out | apply below_alloc | apply pw_below_drewN | apply below_drew1) | exact HB.out)⟩⟩
                case round =>
                  clear H'
                  try clear c1
                  try clear c2
                  try clear p2
                  try clear c4
                  try clear c12
                  try clear c12b0
                  try clear c13
                  try clear c14
                  try clear c14b0
                  try clear c14b1
                  try clear c14b2
                  try clear c20
                  try clear c20b0
                  try clear c20b1
                  try clear c22
                  try clear p2
                  obtain ⟨x8_3, rfl, HA, HK3, HO_5, HO_7, HB⟩ := hrel
                  cases gk with
                  | zero => exact absurd HA.out (by simp [galleylaw31_OrderSorts.l0])
                  | succ k3 =>
                    have H := HA.out
                    clear HA
                    simp only [galleylaw31_OrderSorts.l0] at H
                    by_cases c23 : x8_3 < (t420.length : Int)
                    · rw [if_pos c23] at H
                      have c23b0 : decide (x8_3 < (t420.length : Int)) = true := decide_eq_true c23
                      clear c23
                      by_cases c24 : 0 ≤ x8_3
                      · rw [if_pos c24] at H
                        have c24b0 : decide (0 ≤ x8_3) = true := decide_eq_true c24
                        clear c24
                        by_cases c25 : x8_3 < (t424.length : Int)
                        · rw [if_pos c25] at H
                          have c25b0 : decide (x8_3 < (t424.length : Int)) = true := decide_eq_true c25
                          clear c25
                          by_cases c26 : 0 ≤ (rd t424 x8_3)
                          · rw [if_pos c26] at H
                            have c26b0 : decide (0 ≤ (rd t424 x8_3)) = true := decide_eq_true c26
                            clear c26
                            by_cases c27 : (rd t424 x8_3) < (l0.length : Int)
                            · rw [if_pos c27] at H
                              have c27b0 : decide ((rd t424 x8_3) < (l0.length : Int)) = true := decide_eq_true c27
                              clear c27
                              by_cases c28 : (strOfNums (rd_L4 t420 x8_3)).toList = (strOfNums (rd_L4 l0 (rd t424 x8_3))).toList
                              · rw [if_pos c28] at H
                                have c28b0 : ((strOfNums (rd_L4 t420 x8_3)).toList == (strOfNums (rd_L4 l0 (rd t424 x8_3))).toList) = true := beq_iff_eq.mpr c28
                                have c28b1 : ((strOfNums (rd_L4 t420 x8_3)).toList != (strOfNums (rd_L4 l0 (rd t424 x8_3))).toList) = false := bne_eq_false_iff_eq.mpr c28
                                clear c28
                                have H' := Aside0.mk H
                                clear H
                                obtain ⟨Ao29, co29, eo29⟩ := Kd.S_slice HO_5.out
                                subst eo29
                                have p427 : 0 ≤ (x8_3 : Int) := of_decide_eq_true (by first | (with_reducible assumption) | assumption)
                                have q427 : x8_3 < (t420.length : Int) := of_decide_eq_true (by first | (with_reducible assumption) | assumption)
                                obtain ⟨ad427, A427_0, c427_0, e427, hx427_0, hl427_0, hi427_0⟩ := at_L4 (Kd.S_reads' HO_5.out).2.2 x8_3 p427 q427
                                cases e427
                                obtain ⟨ce427, hce427, hMe427, hcc427⟩ := Kd.S_get HO_5.out [] x8_3 p427 (by first | exact q427 | exact of_decide_eq_true (by first | (with_reducible assumption) | assumption) | (have e_ := (Kd.S_reads' HO_5.out).1; omega))
                                obtain ⟨ve427_0, rfl, ge427_0⟩ := hMe427
                                have hv427_0 := hcc427 0 _ rfl
                                rw [Nat.add_zero, show ((Kd.slice 5 (Kd.int .u8))).sz = 1 from rfl, Nat.mul_one] at hv427_0
                                replace hv427_0 := Option.some.inj (hv427_0.symm.trans hx427_0)
                                rw [hv427_0] at ge427_0
                                have HL427_0 := Aside0.mk (show Kd.R (Kd.int .u8) 5 _ _ _ _ (rd_L4 t420 x8_3) from ge427_0)
                                clear hv427_0 ge427_0
                                clear hcc427 hce427
                                have HR427_0 := Aside0.mk hi427_0
                                have HC427_0 := Aside0.mk hl427_0
                                clear hi427_0 hl427_0
                                replace p427 := eq_true p427
                                replace q427 := eq_true q427
                                have hcv30 := fun nn_ => Kd.C_string (P := Tryd.prog) (A := A427_0) (c := c427_0) Tryd.underlying22 Tryd.underlying5 Tryd.underlying9 (Kd.C_drewN HR427_0.out nn_)
                                obtain ⟨Ao31, co31, eo31⟩ := Kd.R_slice HO_7.out
                                subst eo31
                                have p428 : 0 ≤ (x8_3 : Int) := of_decide_eq_true (by first | (with_reducible assumption) | assumption)
                                have q428 : x8_3 < (t424.length : Int) := of_decide_eq_true (by first | (with_reducible assumption) | assumption)
                                obtain ⟨ad428, e428, hx428_0⟩ := Kd.at_int (Kd.R_reads' HO_7.out).2.2 x8_3 p428 q428
                                cases e428
                                replace p428 := eq_true p428
                                replace q428 := eq_true q428
                                have p429 : 0 ≤ ((rd t424 x8_3) : Int) := of_decide_eq_true (by first | (with_reducible assumption) | assumption)
                                have q429 : (rd t424 x8_3) < (l0.length : Int) := of_decide_eq_true (by first | (with_reducible assumption) | assumption)
                                obtain ⟨ad429, A429_0, c429_0, e429, hx429_0, hl429_0, hi429_0⟩ := at_L4 HR0.out (rd t424 x8_3) p429 q429
                                cases e429
                                replace hx429_0 := (HB.out.cell (World.block_lt_of_cell? w _ hx429_0)).trans hx429_0
                                have HR429_0 := Aside0.mk hi429_0
                                have HC429_0 := Aside0.mk hl429_0
                                clear hi429_0 hl429_0
                                replace p429 := eq_true p429
                                replace q429 := eq_true q429
                                have hcv32 := fun nn_ => Kd.C_string (P := Tryd.prog) (A := A429_0) (c := c429_0) Tryd.underlying22 Tryd.underlying5 Tryd.underlying9 (Kd.C_drewN (Kd.C_below HR429_0.out HB.out) nn_)
                                go_wp2
                                repeat (go_quiet (fail); try go_wp2)
                                go_roundg k3
                                case measure => have := HJ6.out; have := HJ17.out; have := HK3.out; omega
                                case rel => exact ⟨(wrap64 (x8_3 + 1)), (by first | rfl | (simp; done) | (simp [*]; done)), H', ⟨by have := HJ6.out; have := HJ17.out; have := HK3.out; omega⟩, ⟨by (with_reducible repeat (first | apply Kd.S_alloc | apply Kd.S_drewN | apply Kd.S_drew)); exact HO_5.out⟩, ⟨by (with_reducible repeat (first | apply Kd.R_alloc | apply Kd.R_drewN | apply Kd.R_drew)); exact HO_7.out⟩, ⟨by repeat (first | (with_reducible first | exact HB.out | apply below_alloc | apply pw_below_drewN | apply below_drew1) | exact HB.out)⟩⟩
                              · rw [if_neg c28] at H
                                have c28b0 : ((strOfNums (rd_L4 t420 x8_3)).toList == (strOfNums (rd_L4 l0 (rd t424 x8_3))).toList) = false := beq_eq_false_iff_ne.mpr c28
                                have c28b1 : ((strOfNums (rd_L4 t420 x8_3)).toList != (strOfNums (rd_L4 l0 (rd t424 x8_3))).toList) = true := bne_iff_ne.mpr c28
                                obtain rfl := Option.some.inj H
                                obtain ⟨Ao33, co33, eo33⟩ := Kd.S_slice HO_5.out
                                subst eo33
                                have p427 : 0 ≤ (x8_3 : Int) := of_decide_eq_true (by first | (with_reducible assumption) | assumption)
                                have q427 : x8_3 < (t420.length : Int) := of_decide_eq_true (by first | (with_reducible assumption) | assumption)
                                obtain ⟨ad427, A427_0, c427_0, e427, hx427_0, hl427_0, hi427_0⟩ := at_L4 (Kd.S_reads' HO_5.out).2.2 x8_3 p427 q427
                                cases e427
                                obtain ⟨ce427, hce427, hMe427, hcc427⟩ := Kd.S_get HO_5.out [] x8_3 p427 (by first | exact q427 | exact of_decide_eq_true (by first | (with_reducible assumption) | assumption) | (have e_ := (Kd.S_reads' HO_5.out).1; omega))
                                obtain ⟨ve427_0, rfl, ge427_0⟩ := hMe427
                                have hv427_0 := hcc427 0 _ rfl
                                rw [Nat.add_zero, show ((Kd.slice 5 (Kd.int .u8))).sz = 1 from rfl, Nat.mul_one] at hv427_0
                                replace hv427_0 := Option.some.inj (hv427_0.symm.trans hx427_0)
                                rw [hv427_0] at ge427_0
                                have HL427_0 := Aside0.mk (show Kd.R (Kd.int .u8) 5 _ _ _ _ (rd_L4 t420 x8_3) from ge427_0)
                                clear hv427_0 ge427_0
                                clear hcc427 hce427
                                have HR427_0 := Aside0.mk hi427_0
                                have HC427_0 := Aside0.mk hl427_0
                                clear hi427_0 hl427_0
                                replace p427 := eq_true p427
                                replace q427 := eq_true q427
                                have hcv34 := fun nn_ => Kd.C_string (P := Tryd.prog) (A := A427_0) (c := c427_0) Tryd.underlying22 Tryd.underlying5 Tryd.underlying9 (Kd.C_drewN HR427_0.out nn_)
                                obtain ⟨Ao35, co35, eo35⟩ := Kd.R_slice HO_7.out
                                subst eo35
                                have p428 : 0 ≤ (x8_3 : Int) := of_decide_eq_true (by first | (with_reducible assumption) | assumption)
                                have q428 : x8_3 < (t424.length : Int) := of_decide_eq_true (by first | (with_reducible assumption) | assumption)
                                obtain ⟨ad428, e428, hx428_0⟩ := Kd.at_int (Kd.R_reads' HO_7.out).2.2 x8_3 p428 q428
                                cases e428
                                replace p428 := eq_true p428
                                replace q428 := eq_true q428
                                have p429 : 0 ≤ ((rd t424 x8_3) : Int) := of_decide_eq_true (by first | (with_reducible assumption) | assumption)
                                have q429 : (rd t424 x8_3) < (l0.length : Int) := of_decide_eq_true (by first | (with_reducible assumption) | assumption)
                                obtain ⟨ad429, A429_0, c429_0, e429, hx429_0, hl429_0, hi429_0⟩ := at_L4 HR0.out (rd t424 x8_3) p429 q429
                                cases e429
                                replace hx429_0 := (HB.out.cell (World.block_lt_of_cell? w _ hx429_0)).trans hx429_0
                                have HR429_0 := Aside0.mk hi429_0
                                have HC429_0 := Aside0.mk hl429_0
                                clear hi429_0 hl429_0
                                replace p429 := eq_true p429
                                replace q429 := eq_true q429
                                have hcv36 := fun nn_ => Kd.C_string (P := Tryd.prog) (A := A429_0) (c := c429_0) Tryd.underlying22 Tryd.underlying5 Tryd.underlying9 (Kd.C_drewN (Kd.C_below HR429_0.out HB.out) nn_)
                                go_wp2
                                repeat (go_quiet (fail); try go_wp2)
                                go_ret
                                exact ⟨by first | rfl | (simp [errW_none, errW_some] <;> rfl) | (simp [*, errW_none, errW_some] <;> rfl), by repeat (first | (with_reducible first | exact HB.out | apply below_alloc | apply pw_below_drewN | apply below_drew1) | exact HB.out)⟩
                            · rw [if_neg c27] at H
                              exact absurd H (by simp)
                          · rw [if_neg c26] at H
                            exact absurd H (by simp)
                        · rw [if_neg c25] at H
                          exact absurd H (by simp)
                      · rw [if_neg c24] at H
                        exact absurd H (by simp)
                    · rw [if_neg c23] at H
                      have c23b0 : decide (x8_3 < (t420.length : Int)) = false := decide_eq_false c23
                      clear c23
                      obtain rfl := Option.some.inj H
                      obtain ⟨Ao37, co37, eo37⟩ := Kd.S_slice HO_5.out
                      subst eo37
                      go_wp2
                      repeat (go_quiet (fail); try go_wp2)
                      go_ret
                      exact ⟨by first | rfl | (simp [errW_none, errW_some] <;> rfl) | (simp [*, errW_none, errW_some] <;> rfl), by repeat (first | (with_reducible first | exact HB.out | apply below_alloc | apply pw_below_drewN | apply below_drew1) | exact HB.out)⟩
  · replace c4 := Bool.eq_false_iff.mpr c4
    subst c4
    have H1 : (some false) = some r := by rw [if_neg (show ¬ (false = true) by decide)] at H; exact H
    clear H
    have H := H1
    clear H1
    obtain rfl := Option.some.inj H
    go_enter Tryd.func4, Tryd.ntmps4
    go_wp2_with (first | (go_at_call 11; (with_reducible refine (galleylaw31_wakes.calls  false _ A3.out).mono ?_); rintro e w38 ⟨rfl, hb⟩; have n0_ := Aside0.mk (below_step (by repeat (first | (with_reducible first | exact HB.out | apply below_alloc | apply pw_below_drewN | apply below_drew1) | exact HB.out)) hb); clear HB; have HB := n0_; clear n0_; (try clear hb); (try clear hb2); (try clear hk); (try clear hi)))
    repeat (go_quiet (first | (go_at_call 11; (with_reducible refine (galleylaw31_wakes.calls  false _ A3.out).mono ?_); rintro e w38 ⟨rfl, hb⟩; have n0_ := Aside0.mk (below_step (by repeat (first | (with_reducible first | exact HB.out | apply below_alloc | apply pw_below_drewN | apply below_drew1) | exact HB.out)) hb); clear HB; have HB := n0_; clear n0_; (try clear hb); (try clear hb2); (try clear hk); (try clear hi))); try go_wp2_with (first | (go_at_call 11; (with_reducible refine (galleylaw31_wakes.calls  false _ A3.out).mono ?_); rintro e w38 ⟨rfl, hb⟩; have n0_ := Aside0.mk (below_step (by repeat (first | (with_reducible first | exact HB.out | apply below_alloc | apply pw_below_drewN | apply below_drew1) | exact HB.out)) hb); clear HB; have HB := n0_; clear n0_; (try clear hb); (try clear hb2); (try clear hk); (try clear hi))))
    go_ret
    exact ⟨by first | rfl | (simp [errW_none, errW_some] <;> rfl) | (simp [*, errW_none, errW_some] <;> rfl), by repeat (first | (with_reducible first | exact HB.out | apply below_alloc | apply pw_below_drewN | apply below_drew1) | exact HB.out)⟩

end Go.Proofs.YtdomggegacgmnaaDoor.PA
