-- printed by wip/print_given.py (a program of this session over the kit's printer); not trusted: Lean checks it
import Derived.Test.YtdomggegacgmnaaDoorPAx0
import Derived.Test.YtdomggegacgmnaaDoorPAx2
import Derived.Test.YtdomggegacgmnaaDoorGCompare
import Derived.Test.YtdomggegacgmnaaDoorGWakes
namespace Go.Proofs.YtdomggegacgmnaaDoor.PA
open Go.RowKit Go.Proofs.YtdomggegacgmnaaDoorW.PrintWords Go.Proofs.YtdomggegacgmnaaDoorW.PrintLast Go.Proofs.YtdomggegacgmnaaDoorW.PrintMore
attribute [local go_sem] max2_int min2_int max_two min_two max_three min_three max_four min_four   -- for this text's walks alone
set_option linter.unusedVariables false
set_option linter.unusedSimpArgs false

/-! ### galleylaw31_OrderTotal: function 7 -/
mutual
def galleylaw31_OrderTotal.l0 : Nat → List Int → List Int → List Int → Int → Option (Bool)
  | 0, _, _, _, _ => none
  | k + 1, x0, x1, x2, x7 => if x7 ≤ 3 then ((galleylaw31_own.f x0).bind fun t280 => ((galleylaw31_own.f x1).bind fun t283 => ((order_Compare.f t280 t283 x7).bind fun bt286 => ((galleylaw31_own.f x1).bind fun t288 => ((galleylaw31_own.f x0).bind fun t291 => ((order_Compare.f t288 t291 x7).bind fun bt294 => ((galleylaw31_own.f x1).bind fun t296 => ((galleylaw31_own.f x2).bind fun t299 => ((order_Compare.f t296 t299 x7).bind fun bt302 => ((galleylaw31_own.f x0).bind fun t304 => ((galleylaw31_own.f x2).bind fun t307 => ((order_Compare.f t304 t307 x7).bind fun bt310 => (if bt286.2 = 0 then (if bt294.2 = 0 then (if bt302.2 = 0 then (if bt310.2 = 0 then (if bt286.1 = (wrap64 (-bt294.1)) then (if bt286.1 < (-1) then (galleylaw31_OrderTotal.j1 k x0 x1 x2 x7 bt286.1 bt302.1 bt310.1 true) else (galleylaw31_OrderTotal.j1 k x0 x1 x2 x7 bt286.1 bt302.1 bt310.1 (decide (bt286.1 > 1)))) else (galleylaw31_OrderTotal.j1 k x0 x1 x2 x7 bt286.1 bt302.1 bt310.1 true)) else (galleylaw31_OrderTotal.j1 k x0 x1 x2 x7 bt286.1 bt302.1 bt310.1 true)) else (galleylaw31_OrderTotal.j1 k x0 x1 x2 x7 bt286.1 bt302.1 bt310.1 true)) else (galleylaw31_OrderTotal.j1 k x0 x1 x2 x7 bt286.1 bt302.1 bt310.1 true)) else (galleylaw31_OrderTotal.j1 k x0 x1 x2 x7 bt286.1 bt302.1 bt310.1 true)))))))))))))) else (some true)
def galleylaw31_OrderTotal.j1 : Nat → List Int → List Int → List Int → Int → Int → Int → Int → Bool → Option (Bool)
  | 0, _, _, _, _, _, _, _, _ => none
  | k + 1, x0, x1, x2, x7, x8, x12, x14, x85 => if x85 = true then (some false) else (if x8 ≤ 0 then (if x12 ≤ 0 then (if x14 = (mn x8 x12) then (if x8 ≥ 0 then (if x12 ≥ 0 then (galleylaw31_OrderTotal.j2 k x0 x1 x2 x7 x8 (x14 != (mx x8 x12))) else (galleylaw31_OrderTotal.j2 k x0 x1 x2 x7 x8 false)) else (galleylaw31_OrderTotal.j2 k x0 x1 x2 x7 x8 false)) else (galleylaw31_OrderTotal.j2 k x0 x1 x2 x7 x8 true)) else (if x8 ≥ 0 then (if x12 ≥ 0 then (galleylaw31_OrderTotal.j2 k x0 x1 x2 x7 x8 (x14 != (mx x8 x12))) else (galleylaw31_OrderTotal.j2 k x0 x1 x2 x7 x8 false)) else (galleylaw31_OrderTotal.j2 k x0 x1 x2 x7 x8 false))) else (if x8 ≥ 0 then (if x12 ≥ 0 then (galleylaw31_OrderTotal.j2 k x0 x1 x2 x7 x8 (x14 != (mx x8 x12))) else (galleylaw31_OrderTotal.j2 k x0 x1 x2 x7 x8 false)) else (galleylaw31_OrderTotal.j2 k x0 x1 x2 x7 x8 false)))
def galleylaw31_OrderTotal.j2 : Nat → List Int → List Int → List Int → Int → Int → Bool → Option (Bool)
  | 0, _, _, _, _, _, _ => none
  | k + 1, x0, x1, x2, x7, x8, x113 => if x113 = true then (some false) else (if (strOfNums x0).toList = (strOfNums x1).toList then (if x8 = 0 then (if x7 = 1 then (galleylaw31_OrderTotal.l0 k x0 x1 x2 (wrap64 (x7 + 1))) else (galleylaw31_OrderTotal.l0 k x0 x1 x2 (wrap64 (x7 + 1)))) else (some false)) else (if x7 = 1 then (if x8 = 0 then (some false) else (galleylaw31_OrderTotal.l0 k x0 x1 x2 (wrap64 (x7 + 1)))) else (galleylaw31_OrderTotal.l0 k x0 x1 x2 (wrap64 (x7 + 1)))))
end
def galleylaw31_OrderTotal.f (k : Nat) (l0 : List Int) (l1 : List Int) (l2 : List Int) : Option (Bool) := (galleylaw31_wakes.f).bind fun t279 => (if t279 = true then (galleylaw31_OrderTotal.l0 k l0 l1 l2 1) else (some false))
theorem galleylaw31_OrderTotal.mono_l : ∀ k, (∀ y0 y1 y2 y3, LeO (galleylaw31_OrderTotal.l0 k y0 y1 y2 y3) (galleylaw31_OrderTotal.l0 (k + 1) y0 y1 y2 y3)) ∧ (∀ y0 y1 y2 y3 y4 y5 y6 y7, LeO (galleylaw31_OrderTotal.j1 k y0 y1 y2 y3 y4 y5 y6 y7) (galleylaw31_OrderTotal.j1 (k + 1) y0 y1 y2 y3 y4 y5 y6 y7)) ∧ (∀ y0 y1 y2 y3 y4 y5, LeO (galleylaw31_OrderTotal.j2 k y0 y1 y2 y3 y4 y5) (galleylaw31_OrderTotal.j2 (k + 1) y0 y1 y2 y3 y4 y5))
  | 0 => ⟨fun _ _ _ _ r h => by simp [galleylaw31_OrderTotal.l0] at h, fun _ _ _ _ _ _ _ _ r h => by simp [galleylaw31_OrderTotal.j1] at h, fun _ _ _ _ _ _ r h => by simp [galleylaw31_OrderTotal.j2] at h⟩
  | k + 1 => by
    obtain ⟨ih0, ih1, ih2⟩ := galleylaw31_OrderTotal.mono_l k
    refine ⟨?_, ?_, ?_⟩
    · intro y0 y1 y2 y3
      unfold galleylaw31_OrderTotal.l0
      repeat' first
      | (with_reducible exact ih0 _ _ _ _)
      | (with_reducible exact ih1 _ _ _ _ _ _ _ _)
      | (with_reducible exact ih2 _ _ _ _ _ _)
      | (with_reducible exact LeO.refl _)
      | (with_reducible exact LeO.none _)
      | (with_reducible refine LeO.ite ?_ ?_)
      | (with_reducible refine LeO.bind ?_ (fun _ => ?_))
      | exact ih0 _ _ _ _
      | exact ih1 _ _ _ _ _ _ _ _
      | exact ih2 _ _ _ _ _ _
      | exact LeO.none _
      | refine LeO.ite ?_ ?_
      | refine LeO.bind ?_ (fun _ => ?_)
    · intro y0 y1 y2 y3 y4 y5 y6 y7
      unfold galleylaw31_OrderTotal.j1
      repeat' first
      | (with_reducible exact ih0 _ _ _ _)
      | (with_reducible exact ih1 _ _ _ _ _ _ _ _)
      | (with_reducible exact ih2 _ _ _ _ _ _)
      | (with_reducible exact LeO.refl _)
      | (with_reducible exact LeO.none _)
      | (with_reducible refine LeO.ite ?_ ?_)
      | (with_reducible refine LeO.bind ?_ (fun _ => ?_))
      | exact ih0 _ _ _ _
      | exact ih1 _ _ _ _ _ _ _ _
      | exact ih2 _ _ _ _ _ _
      | exact LeO.none _
      | refine LeO.ite ?_ ?_
      | refine LeO.bind ?_ (fun _ => ?_)
    · intro y0 y1 y2 y3 y4 y5
      unfold galleylaw31_OrderTotal.j2
      repeat' first
      | (with_reducible exact ih0 _ _ _ _)
      | (with_reducible exact ih1 _ _ _ _ _ _ _ _)
      | (with_reducible exact ih2 _ _ _ _ _ _)
      | (with_reducible exact LeO.refl _)
      | (with_reducible exact LeO.none _)
      | (with_reducible refine LeO.ite ?_ ?_)
      | (with_reducible refine LeO.bind ?_ (fun _ => ?_))
      | exact ih0 _ _ _ _
      | exact ih1 _ _ _ _ _ _ _ _
      | exact ih2 _ _ _ _ _ _
      | exact LeO.none _
      | refine LeO.ite ?_ ?_
      | refine LeO.bind ?_ (fun _ => ?_)
theorem galleylaw31_OrderTotal.mono : ∀ a0 a1 a2 k, LeO (galleylaw31_OrderTotal.f k a0 a1 a2) (galleylaw31_OrderTotal.f (k + 1) a0 a1 a2) := by
  intro a0 a1 a2 k
  obtain ⟨ih0, ih1, ih2⟩ := galleylaw31_OrderTotal.mono_l k
  unfold galleylaw31_OrderTotal.f
  repeat' first
      | (with_reducible exact ih0 _ _ _ _)
      | (with_reducible exact ih1 _ _ _ _ _ _ _ _)
      | (with_reducible exact ih2 _ _ _ _ _ _)
      | (with_reducible exact LeO.refl _)
      | (with_reducible exact LeO.none _)
      | (with_reducible refine LeO.ite ?_ ?_)
      | (with_reducible refine LeO.bind ?_ (fun _ => ?_))
      | exact ih0 _ _ _ _
      | exact ih1 _ _ _ _ _ _ _ _
      | exact ih2 _ _ _ _ _ _
      | exact LeO.none _
      | refine LeO.ite ?_ ?_
      | refine LeO.bind ?_ (fun _ => ?_)
set_option maxHeartbeats 8000000 in
set_option maxRecDepth 100000 in
theorem galleylaw31_OrderTotal.calls (k : Nat) (A0 : Option Addr) (c0 : Nat) (l0 : List Int) (A1 : Option Addr) (c1 : Nat) (l1 : List Int) (A2 : Option Addr) (c2 : Nat) (l2 : List Int) (r : Bool) (w : World) (hr0 : Kd.C (Kd.int .u8) w A0 l0.length l0) (hc0 : l0.length ≤ c0) (hr1 : Kd.C (Kd.int .u8) w A1 l1.length l1) (hc1 : l1.length ≤ c1) (hr2 : Kd.C (Kd.int .u8) w A2 l2.length l2) (hc2 : l2.length ≤ c2) (h : galleylaw31_OrderTotal.f k l0 l1 l2 = some r) (hLaid : Laid w := by repeat (first | exact hLaid | exact hLaid.below (by assumption) | exact hLaid.below (Aside0.out (by assumption)) | refine Laid.drewN ?_ _ | refine Laid.drew ?_ | refine Laid.alloc ?_ _ | refine Laid.set hLaid (Aside0.out (by assumption)) ?_)) :
    Calls Tryd.prog 7 #[.slice A0 l0.length c0, .slice A1 l1.length c1, .slice A2 l2.length c2] w fun e w' => e = .returned (.bool r) ∧ Below w.heap.size w w' := by
  have HR0 := Aside0.mk hr0
  have HC0 := Aside0.mk hc0
  clear hr0 hc0
  have HR1 := Aside0.mk hr1
  have HC1 := Aside0.mk hc1
  clear hr1 hc1
  have HR2 := Aside0.mk hr2
  have HC2 := Aside0.mk hc2
  clear hr2 hc2
  have HB := Aside0.mk (Below.refl w.heap.size w)
  have H : ((galleylaw31_wakes.f).bind fun t279 => (if t279 = true then (galleylaw31_OrderTotal.l0 k l0 l1 l2 1) else (some false))) = some r := h
  clear h
  replace H := Option.bind_eq_some_iff.mp H
  obtain ⟨t279, A40, H⟩ := H
  replace H : (if t279 = true then (galleylaw31_OrderTotal.l0 k l0 l1 l2 1) else (some false)) = some r := H
  have A4 := Aside0.mk A40
  clear A40
  by_cases c5 : t279 = true
  · subst c5
    have H1 : (galleylaw31_OrderTotal.l0 k l0 l1 l2 1) = some r := by rw [if_pos rfl] at H; exact H
    clear H
    have H := H1
    clear H1
    have H' := Aside0.mk H
    clear H
    go_enter Tryd.func7, Tryd.ntmps7
    go_wp2_with (first | ((with_reducible refine gate_callee (f := 11) rfl ?_); refine goesL_ (some 16) rfl rfl Tryd.func11 (by kernel_rfl) rfl #[] rfl (by (try simp only [List.map_toArray, List.map_cons, List.map_nil]); first | done | rfl | (simp only [List.length_drop, List.length_take]; rfl)) ?_; (with_reducible refine (galleylaw31_wakes.calls  true _ A4.out).mono ?_); rintro e w6 ⟨rfl, hb⟩; refine ⟨_, rfl, ?_⟩; have n0_ := Aside0.mk (below_step (by repeat (first | (with_reducible first | exact HB.out | apply below_alloc | apply pw_below_drewN | apply below_drew1) | exact HB.out)) hb); clear HB; have HB := n0_; clear n0_; (try clear hb); (try clear hb2); (try clear hk); (try clear hi)))
    go_loopg [7] k (fun kq v7 w' => ∃ (x7_1 : Int), v7 = .int .i64 x7_1 ∧ Aside0 (galleylaw31_OrderTotal.l0 kq l0 l1 l2 x7_1 = some r) ∧ Aside0 (kq ≤ k) ∧ Aside0 (Below w.heap.size w w'))
    case atStart => exact ⟨(1), (by first | rfl | (simp; done) | (simp [*]; done)), H', ⟨Nat.le_refl _⟩, ⟨by repeat (first | (with_reducible first | exact HB.out | apply below_alloc | apply pw_below_drewN | apply below_drew1) | exact HB.out)⟩⟩
    case round =>
      clear H'
      try clear c1
      try clear c2
      try clear p2
      try clear c5
      obtain ⟨x7_1, rfl, HA, HK1, HB⟩ := hrel
      cases gk with
      | zero => exact absurd HA.out (by simp [galleylaw31_OrderTotal.l0])
      | succ k1 =>
        have H := HA.out
        clear HA
        simp only [galleylaw31_OrderTotal.l0] at H
        by_cases c7 : x7_1 ≤ 3
        · rw [if_pos c7] at H
          have c7b0 : decide (x7_1 ≤ 3) = true := decide_eq_true c7
          clear c7
          replace H := Option.bind_eq_some_iff.mp H
          obtain ⟨t280, A80, H⟩ := H
          replace H : ((galleylaw31_own.f l1).bind fun t283 => ((order_Compare.f t280 t283 x7_1).bind fun bt286 => ((galleylaw31_own.f l1).bind fun t288 => ((galleylaw31_own.f l0).bind fun t291 => ((order_Compare.f t288 t291 x7_1).bind fun bt294 => ((galleylaw31_own.f l1).bind fun t296 => ((galleylaw31_own.f l2).bind fun t299 => ((order_Compare.f t296 t299 x7_1).bind fun bt302 => ((galleylaw31_own.f l0).bind fun t304 => ((galleylaw31_own.f l2).bind fun t307 => ((order_Compare.f t304 t307 x7_1).bind fun bt310 => (if bt286.2 = 0 then (if bt294.2 = 0 then (if bt302.2 = 0 then (if bt310.2 = 0 then (if bt286.1 = (wrap64 (-bt294.1)) then (if bt286.1 < (-1) then (galleylaw31_OrderTotal.j1 k1 l0 l1 l2 x7_1 bt286.1 bt302.1 bt310.1 true) else (galleylaw31_OrderTotal.j1 k1 l0 l1 l2 x7_1 bt286.1 bt302.1 bt310.1 (decide (bt286.1 > 1)))) else (galleylaw31_OrderTotal.j1 k1 l0 l1 l2 x7_1 bt286.1 bt302.1 bt310.1 true)) else (galleylaw31_OrderTotal.j1 k1 l0 l1 l2 x7_1 bt286.1 bt302.1 bt310.1 true)) else (galleylaw31_OrderTotal.j1 k1 l0 l1 l2 x7_1 bt286.1 bt302.1 bt310.1 true)) else (galleylaw31_OrderTotal.j1 k1 l0 l1 l2 x7_1 bt286.1 bt302.1 bt310.1 true)) else (galleylaw31_OrderTotal.j1 k1 l0 l1 l2 x7_1 bt286.1 bt302.1 bt310.1 true))))))))))))) = some r := H
          have A8 := Aside0.mk A80
          clear A80
          replace H := Option.bind_eq_some_iff.mp H
          obtain ⟨t283, A90, H⟩ := H
          replace H : ((order_Compare.f t280 t283 x7_1).bind fun bt286 => ((galleylaw31_own.f l1).bind fun t288 => ((galleylaw31_own.f l0).bind fun t291 => ((order_Compare.f t288 t291 x7_1).bind fun bt294 => ((galleylaw31_own.f l1).bind fun t296 => ((galleylaw31_own.f l2).bind fun t299 => ((order_Compare.f t296 t299 x7_1).bind fun bt302 => ((galleylaw31_own.f l0).bind fun t304 => ((galleylaw31_own.f l2).bind fun t307 => ((order_Compare.f t304 t307 x7_1).bind fun bt310 => (if bt286.2 = 0 then (if bt294.2 = 0 then (if bt302.2 = 0 then (if bt310.2 = 0 then (if bt286.1 = (wrap64 (-bt294.1)) then (if bt286.1 < (-1) then (galleylaw31_OrderTotal.j1 k1 l0 l1 l2 x7_1 bt286.1 bt302.1 bt310.1 true) else (galleylaw31_OrderTotal.j1 k1 l0 l1 l2 x7_1 bt286.1 bt302.1 bt310.1 (decide (bt286.1 > 1)))) else (galleylaw31_OrderTotal.j1 k1 l0 l1 l2 x7_1 bt286.1 bt302.1 bt310.1 true)) else (galleylaw31_OrderTotal.j1 k1 l0 l1 l2 x7_1 bt286.1 bt302.1 bt310.1 true)) else (galleylaw31_OrderTotal.j1 k1 l0 l1 l2 x7_1 bt286.1 bt302.1 bt310.1 true)) else (galleylaw31_OrderTotal.j1 k1 l0 l1 l2 x7_1 bt286.1 bt302.1 bt310.1 true)) else (galleylaw31_OrderTotal.j1 k1 l0 l1 l2 x7_1 bt286.1 bt302.1 bt310.1 true)))))))))))) = some r := H
          have A9 := Aside0.mk A90
          clear A90
          replace H := Option.bind_eq_some_iff.mp H
          obtain ⟨⟨t286, t287⟩, A100, H⟩ := H
          replace H : ((galleylaw31_own.f l1).bind fun t288 => ((galleylaw31_own.f l0).bind fun t291 => ((order_Compare.f t288 t291 x7_1).bind fun bt294 => ((galleylaw31_own.f l1).bind fun t296 => ((galleylaw31_own.f l2).bind fun t299 => ((order_Compare.f t296 t299 x7_1).bind fun bt302 => ((galleylaw31_own.f l0).bind fun t304 => ((galleylaw31_own.f l2).bind fun t307 => ((order_Compare.f t304 t307 x7_1).bind fun bt310 => (if t287 = 0 then (if bt294.2 = 0 then (if bt302.2 = 0 then (if bt310.2 = 0 then (if t286 = (wrap64 (-bt294.1)) then (if t286 < (-1) then (galleylaw31_OrderTotal.j1 k1 l0 l1 l2 x7_1 t286 bt302.1 bt310.1 true) else (galleylaw31_OrderTotal.j1 k1 l0 l1 l2 x7_1 t286 bt302.1 bt310.1 (decide (t286 > 1)))) else (galleylaw31_OrderTotal.j1 k1 l0 l1 l2 x7_1 t286 bt302.1 bt310.1 true)) else (galleylaw31_OrderTotal.j1 k1 l0 l1 l2 x7_1 t286 bt302.1 bt310.1 true)) else (galleylaw31_OrderTotal.j1 k1 l0 l1 l2 x7_1 t286 bt302.1 bt310.1 true)) else (galleylaw31_OrderTotal.j1 k1 l0 l1 l2 x7_1 t286 bt302.1 bt310.1 true)) else (galleylaw31_OrderTotal.j1 k1 l0 l1 l2 x7_1 t286 bt302.1 bt310.1 true))))))))))) = some r := H
          have A10 := Aside0.mk A100
          clear A100
          replace H := Option.bind_eq_some_iff.mp H
          obtain ⟨t288, A110, H⟩ := H
          replace H : ((galleylaw31_own.f l0).bind fun t291 => ((order_Compare.f t288 t291 x7_1).bind fun bt294 => ((galleylaw31_own.f l1).bind fun t296 => ((galleylaw31_own.f l2).bind fun t299 => ((order_Compare.f t296 t299 x7_1).bind fun bt302 => ((galleylaw31_own.f l0).bind fun t304 => ((galleylaw31_own.f l2).bind fun t307 => ((order_Compare.f t304 t307 x7_1).bind fun bt310 => (if t287 = 0 then (if bt294.2 = 0 then (if bt302.2 = 0 then (if bt310.2 = 0 then (if t286 = (wrap64 (-bt294.1)) then (if t286 < (-1) then (galleylaw31_OrderTotal.j1 k1 l0 l1 l2 x7_1 t286 bt302.1 bt310.1 true) else (galleylaw31_OrderTotal.j1 k1 l0 l1 l2 x7_1 t286 bt302.1 bt310.1 (decide (t286 > 1)))) else (galleylaw31_OrderTotal.j1 k1 l0 l1 l2 x7_1 t286 bt302.1 bt310.1 true)) else (galleylaw31_OrderTotal.j1 k1 l0 l1 l2 x7_1 t286 bt302.1 bt310.1 true)) else (galleylaw31_OrderTotal.j1 k1 l0 l1 l2 x7_1 t286 bt302.1 bt310.1 true)) else (galleylaw31_OrderTotal.j1 k1 l0 l1 l2 x7_1 t286 bt302.1 bt310.1 true)) else (galleylaw31_OrderTotal.j1 k1 l0 l1 l2 x7_1 t286 bt302.1 bt310.1 true)))))))))) = some r := H
          have A11 := Aside0.mk A110
          clear A110
          replace H := Option.bind_eq_some_iff.mp H
          obtain ⟨t291, A120, H⟩ := H
          replace H : ((order_Compare.f t288 t291 x7_1).bind fun bt294 => ((galleylaw31_own.f l1).bind fun t296 => ((galleylaw31_own.f l2).bind fun t299 => ((order_Compare.f t296 t299 x7_1).bind fun bt302 => ((galleylaw31_own.f l0).bind fun t304 => ((galleylaw31_own.f l2).bind fun t307 => ((order_Compare.f t304 t307 x7_1).bind fun bt310 => (if t287 = 0 then (if bt294.2 = 0 then (if bt302.2 = 0 then (if bt310.2 = 0 then (if t286 = (wrap64 (-bt294.1)) then (if t286 < (-1) then (galleylaw31_OrderTotal.j1 k1 l0 l1 l2 x7_1 t286 bt302.1 bt310.1 true) else (galleylaw31_OrderTotal.j1 k1 l0 l1 l2 x7_1 t286 bt302.1 bt310.1 (decide (t286 > 1)))) else (galleylaw31_OrderTotal.j1 k1 l0 l1 l2 x7_1 t286 bt302.1 bt310.1 true)) else (galleylaw31_OrderTotal.j1 k1 l0 l1 l2 x7_1 t286 bt302.1 bt310.1 true)) else (galleylaw31_OrderTotal.j1 k1 l0 l1 l2 x7_1 t286 bt302.1 bt310.1 true)) else (galleylaw31_OrderTotal.j1 k1 l0 l1 l2 x7_1 t286 bt302.1 bt310.1 true)) else (galleylaw31_OrderTotal.j1 k1 l0 l1 l2 x7_1 t286 bt302.1 bt310.1 true))))))))) = some r := H
          have A12 := Aside0.mk A120
          clear A120
          replace H := Option.bind_eq_some_iff.mp H
          obtain ⟨⟨t294, t295⟩, A130, H⟩ := H
          replace H : ((galleylaw31_own.f l1).bind fun t296 => ((galleylaw31_own.f l2).bind fun t299 => ((order_Compare.f t296 t299 x7_1).bind fun bt302 => ((galleylaw31_own.f l0).bind fun t304 => ((galleylaw31_own.f l2).bind fun t307 => ((order_Compare.f t304 t307 x7_1).bind fun bt310 => (if t287 = 0 then (if t295 = 0 then (if bt302.2 = 0 then (if bt310.2 = 0 then (if t286 = (wrap64 (-t294)) then (if t286 < (-1) then (galleylaw31_OrderTotal.j1 k1 l0 l1 l2 x7_1 t286 bt302.1 bt310.1 true) else (galleylaw31_OrderTotal.j1 k1 l0 l1 l2 x7_1 t286 bt302.1 bt310.1 (decide (t286 > 1)))) else (galleylaw31_OrderTotal.j1 k1 l0 l1 l2 x7_1 t286 bt302.1 bt310.1 true)) else (galleylaw31_OrderTotal.j1 k1 l0 l1 l2 x7_1 t286 bt302.1 bt310.1 true)) else (galleylaw31_OrderTotal.j1 k1 l0 l1 l2 x7_1 t286 bt302.1 bt310.1 true)) else (galleylaw31_OrderTotal.j1 k1 l0 l1 l2 x7_1 t286 bt302.1 bt310.1 true)) else (galleylaw31_OrderTotal.j1 k1 l0 l1 l2 x7_1 t286 bt302.1 bt310.1 true)))))))) = some r := H
          have A13 := Aside0.mk A130
          clear A130
          replace H := Option.bind_eq_some_iff.mp H
          obtain ⟨t296, A140, H⟩ := H
          replace H : ((galleylaw31_own.f l2).bind fun t299 => ((order_Compare.f t296 t299 x7_1).bind fun bt302 => ((galleylaw31_own.f l0).bind fun t304 => ((galleylaw31_own.f l2).bind fun t307 => ((order_Compare.f t304 t307 x7_1).bind fun bt310 => (if t287 = 0 then (if t295 = 0 then (if bt302.2 = 0 then (if bt310.2 = 0 then (if t286 = (wrap64 (-t294)) then (if t286 < (-1) then (galleylaw31_OrderTotal.j1 k1 l0 l1 l2 x7_1 t286 bt302.1 bt310.1 true) else (galleylaw31_OrderTotal.j1 k1 l0 l1 l2 x7_1 t286 bt302.1 bt310.1 (decide (t286 > 1)))) else (galleylaw31_OrderTotal.j1 k1 l0 l1 l2 x7_1 t286 bt302.1 bt310.1 true)) else (galleylaw31_OrderTotal.j1 k1 l0 l1 l2 x7_1 t286 bt302.1 bt310.1 true)) else (galleylaw31_OrderTotal.j1 k1 l0 l1 l2 x7_1 t286 bt302.1 bt310.1 true)) else (galleylaw31_OrderTotal.j1 k1 l0 l1 l2 x7_1 t286 bt302.1 bt310.1 true)) else (galleylaw31_OrderTotal.j1 k1 l0 l1 l2 x7_1 t286 bt302.1 bt310.1 true))))))) = some r := H
          have A14 := Aside0.mk A140
          clear A140
          replace H := Option.bind_eq_some_iff.mp H
          obtain ⟨t299, A150, H⟩ := H
          replace H : ((order_Compare.f t296 t299 x7_1).bind fun bt302 => ((galleylaw31_own.f l0).bind fun t304 => ((galleylaw31_own.f l2).bind fun t307 => ((order_Compare.f t304 t307 x7_1).bind fun bt310 => (if t287 = 0 then (if t295 = 0 then (if bt302.2 = 0 then (if bt310.2 = 0 then (if t286 = (wrap64 (-t294)) then (if t286 < (-1) then (galleylaw31_OrderTotal.j1 k1 l0 l1 l2 x7_1 t286 bt302.1 bt310.1 true) else (galleylaw31_OrderTotal.j1 k1 l0 l1 l2 x7_1 t286 bt302.1 bt310.1 (decide (t286 > 1)))) else (galleylaw31_OrderTotal.j1 k1 l0 l1 l2 x7_1 t286 bt302.1 bt310.1 true)) else (galleylaw31_OrderTotal.j1 k1 l0 l1 l2 x7_1 t286 bt302.1 bt310.1 true)) else (galleylaw31_OrderTotal.j1 k1 l0 l1 l2 x7_1 t286 bt302.1 bt310.1 true)) else (galleylaw31_OrderTotal.j1 k1 l0 l1 l2 x7_1 t286 bt302.1 bt310.1 true)) else (galleylaw31_OrderTotal.j1 k1 l0 l1 l2 x7_1 t286 bt302.1 bt310.1 true)))))) = some r := H
          have A15 := Aside0.mk A150
          clear A150
          replace H := Option.bind_eq_some_iff.mp H
          obtain ⟨⟨t302, t303⟩, A160, H⟩ := H
          replace H : ((galleylaw31_own.f l0).bind fun t304 => ((galleylaw31_own.f l2).bind fun t307 => ((order_Compare.f t304 t307 x7_1).bind fun bt310 => (if t287 = 0 then (if t295 = 0 then (if t303 = 0 then (if bt310.2 = 0 then (if t286 = (wrap64 (-t294)) then (if t286 < (-1) then (galleylaw31_OrderTotal.j1 k1 l0 l1 l2 x7_1 t286 t302 bt310.1 true) else (galleylaw31_OrderTotal.j1 k1 l0 l1 l2 x7_1 t286 t302 bt310.1 (decide (t286 > 1)))) else (galleylaw31_OrderTotal.j1 k1 l0 l1 l2 x7_1 t286 t302 bt310.1 true)) else (galleylaw31_OrderTotal.j1 k1 l0 l1 l2 x7_1 t286 t302 bt310.1 true)) else (galleylaw31_OrderTotal.j1 k1 l0 l1 l2 x7_1 t286 t302 bt310.1 true)) else (galleylaw31_OrderTotal.j1 k1 l0 l1 l2 x7_1 t286 t302 bt310.1 true)) else (galleylaw31_OrderTotal.j1 k1 l0 l1 l2 x7_1 t286 t302 bt310.1 true))))) = some r := H
          have A16 := Aside0.mk A160
          clear A160
          replace H := Option.bind_eq_some_iff.mp H
          obtain ⟨t304, A170, H⟩ := H
          replace H : ((galleylaw31_own.f l2).bind fun t307 => ((order_Compare.f t304 t307 x7_1).bind fun bt310 => (if t287 = 0 then (if t295 = 0 then (if t303 = 0 then (if bt310.2 = 0 then (if t286 = (wrap64 (-t294)) then (if t286 < (-1) then (galleylaw31_OrderTotal.j1 k1 l0 l1 l2 x7_1 t286 t302 bt310.1 true) else (galleylaw31_OrderTotal.j1 k1 l0 l1 l2 x7_1 t286 t302 bt310.1 (decide (t286 > 1)))) else (galleylaw31_OrderTotal.j1 k1 l0 l1 l2 x7_1 t286 t302 bt310.1 true)) else (galleylaw31_OrderTotal.j1 k1 l0 l1 l2 x7_1 t286 t302 bt310.1 true)) else (galleylaw31_OrderTotal.j1 k1 l0 l1 l2 x7_1 t286 t302 bt310.1 true)) else (galleylaw31_OrderTotal.j1 k1 l0 l1 l2 x7_1 t286 t302 bt310.1 true)) else (galleylaw31_OrderTotal.j1 k1 l0 l1 l2 x7_1 t286 t302 bt310.1 true)))) = some r := H
          have A17 := Aside0.mk A170
          clear A170
          replace H := Option.bind_eq_some_iff.mp H
          obtain ⟨t307, A180, H⟩ := H
          replace H : ((order_Compare.f t304 t307 x7_1).bind fun bt310 => (if t287 = 0 then (if t295 = 0 then (if t303 = 0 then (if bt310.2 = 0 then (if t286 = (wrap64 (-t294)) then (if t286 < (-1) then (galleylaw31_OrderTotal.j1 k1 l0 l1 l2 x7_1 t286 t302 bt310.1 true) else (galleylaw31_OrderTotal.j1 k1 l0 l1 l2 x7_1 t286 t302 bt310.1 (decide (t286 > 1)))) else (galleylaw31_OrderTotal.j1 k1 l0 l1 l2 x7_1 t286 t302 bt310.1 true)) else (galleylaw31_OrderTotal.j1 k1 l0 l1 l2 x7_1 t286 t302 bt310.1 true)) else (galleylaw31_OrderTotal.j1 k1 l0 l1 l2 x7_1 t286 t302 bt310.1 true)) else (galleylaw31_OrderTotal.j1 k1 l0 l1 l2 x7_1 t286 t302 bt310.1 true)) else (galleylaw31_OrderTotal.j1 k1 l0 l1 l2 x7_1 t286 t302 bt310.1 true))) = some r := H
          have A18 := Aside0.mk A180
          clear A180
          replace H := Option.bind_eq_some_iff.mp H
          obtain ⟨⟨t310, t311⟩, A190, H⟩ := H
          replace H : (if t287 = 0 then (if t295 = 0 then (if t303 = 0 then (if t311 = 0 then (if t286 = (wrap64 (-t294)) then (if t286 < (-1) then (galleylaw31_OrderTotal.j1 k1 l0 l1 l2 x7_1 t286 t302 t310 true) else (galleylaw31_OrderTotal.j1 k1 l0 l1 l2 x7_1 t286 t302 t310 (decide (t286 > 1)))) else (galleylaw31_OrderTotal.j1 k1 l0 l1 l2 x7_1 t286 t302 t310 true)) else (galleylaw31_OrderTotal.j1 k1 l0 l1 l2 x7_1 t286 t302 t310 true)) else (galleylaw31_OrderTotal.j1 k1 l0 l1 l2 x7_1 t286 t302 t310 true)) else (galleylaw31_OrderTotal.j1 k1 l0 l1 l2 x7_1 t286 t302 t310 true)) else (galleylaw31_OrderTotal.j1 k1 l0 l1 l2 x7_1 t286 t302 t310 true)) = some r := H
          have A19 := Aside0.mk A190
          clear A190
          have HC20 := Aside0.mk H
          clear H
          go_upto_region 10 with (first | ((with_reducible refine gate_callee (f := 13) rfl ?_); refine goesL_ (some 24) rfl rfl Tryd.func13 (by kernel_rfl) rfl #[.slice A0 l0.length c0] rfl (by (try simp only [List.map_toArray, List.map_cons, List.map_nil]); first | done | rfl | (simp only [List.length_drop, List.length_take]; rfl)) ?_; (with_reducible refine (galleylaw31_own.calls _ _ l0 t280 _ ?side1 ?side2 A8.out).mono ?_); (case side1 => repeat (first | exact (Kd.C_below HR0.out HB.out) | (with_reducible refine Kd.C_alloc ?_ _) | (with_reducible refine Kd.C_drewN ?_ _) | (with_reducible refine Kd.C_drew ?_))); (case side2 => exact HC0.out); rintro e w21 ⟨v281, rfl, ho0, hb⟩; refine ⟨_, rfl, ?_⟩; have n0_ := Aside0.mk (Kd.R_lower ho0 (below_size (by repeat (first | (with_reducible first | exact HB.out | apply below_alloc | apply pw_below_drewN | apply below_drew1) | exact HB.out)))); have n1_ := Aside0.mk (below_step (by repeat (first | (with_reducible first | exact HB.out | apply below_alloc | apply pw_below_drewN | apply below_drew1) | exact HB.out)) hb); clear HB; have HO282 := n0_; have HB := n1_; clear n0_ n1_; (try clear hb); (try clear hb2); (try clear hk); (try clear hi); (try clear ho0)) | ((with_reducible refine gate_callee (f := 13) rfl ?_); refine goesL_ (some 26) rfl rfl Tryd.func13 (by kernel_rfl) rfl #[.slice A1 l1.length c1] rfl (by (try simp only [List.map_toArray, List.map_cons, List.map_nil]); first | done | rfl | (simp only [List.length_drop, List.length_take]; rfl)) ?_; (with_reducible refine (galleylaw31_own.calls _ _ l1 t283 _ ?side1 ?side2 A9.out).mono ?_); (case side1 => repeat (first | exact (Kd.C_below HR1.out HB.out) | (with_reducible refine Kd.C_alloc ?_ _) | (with_reducible refine Kd.C_drewN ?_ _) | (with_reducible refine Kd.C_drew ?_))); (case side2 => exact HC1.out); rintro e w22 ⟨v284, rfl, ho0, hb⟩; refine ⟨_, rfl, ?_⟩; have n0_ := Aside0.mk (Kd.R_elder' (by (with_reducible repeat (first | apply Kd.R_alloc | apply Kd.R_drewN | apply Kd.R_drew)); exact HO282.out) (Kd.R_base ho0) hb); have n1_ := Aside0.mk (Kd.R_lower (Kd.R_new' ho0 (Kd.R_lt (by (with_reducible repeat (first | apply Kd.R_alloc | apply Kd.R_drewN | apply Kd.R_drew)); exact HO282.out))) (below_size (by repeat (first | (with_reducible first | exact HB.out | apply below_alloc | apply pw_below_drewN | apply below_drew1) | exact HB.out)))); have n2_ := Aside0.mk (below_step (by repeat (first | (with_reducible first | exact HB.out | apply below_alloc | apply pw_below_drewN | apply below_drew1) | exact HB.out)) hb); clear HO282; clear HB; have HO282 := n0_; have HO285 := n1_; have HB := n2_; clear n0_ n1_ n2_; (try clear hb); (try clear hb2); (try clear hk); (try clear hi); (try clear ho0); obtain ⟨Ao23, co23, eo23⟩ := Kd.R_slice HO282.out; subst eo23; obtain ⟨Ao24, co24, eo24⟩ := Kd.R_slice HO285.out; subst eo24) | ((with_reducible refine gate_callee (f := 12) rfl ?_); refine goesL_ (some 28) rfl rfl Tryd.func12 (by kernel_rfl) rfl #[.slice Ao23 t280.length co23, .slice Ao24 t283.length co24, .int .i64 x7_1] rfl (by (try simp only [List.map_toArray, List.map_cons, List.map_nil]); first | done | rfl | (simp only [List.length_drop, List.length_take]; rfl)) ?_; (with_reducible refine (order_Compare.calls _ _ t280 _ _ t283 x7_1 t286 t287 _ ?side1 ?side2 ?side3 ?side4 A10.out).mono ?_); (case side1 => repeat (first | exact (Kd.R_reads' HO282.out).2.2 | (with_reducible refine Kd.C_alloc ?_ _) | (with_reducible refine Kd.C_drewN ?_ _) | (with_reducible refine Kd.C_drew ?_))); (case side2 => exact (Kd.R_reads' HO282.out).2.1); (case side3 => repeat (first | exact (Kd.R_reads' HO285.out).2.2 | (with_reducible refine Kd.C_alloc ?_ _) | (with_reducible refine Kd.C_drewN ?_ _) | (with_reducible refine Kd.C_drew ?_))); (case side4 => exact (Kd.R_reads' HO285.out).2.1); rintro e w25 ⟨rfl, hb⟩; refine ⟨_, rfl, ?_⟩; have n0_ := Aside0.mk (Kd.R_below (by (with_reducible repeat (first | apply Kd.R_alloc | apply Kd.R_drewN | apply Kd.R_drew)); exact HO282.out) hb); have n1_ := Aside0.mk (Kd.R_below (by (with_reducible repeat (first | apply Kd.R_alloc | apply Kd.R_drewN | apply Kd.R_drew)); exact HO285.out) hb); have n2_ := Aside0.mk (below_step (by repeat (first | (with_reducible first | exact HB.out | apply below_alloc | apply pw_below_drewN | apply below_drew1) | exact HB.out)) hb); clear HO282; clear HO285; clear HB; have HO282 := n0_; have HO285 := n1_; have HB := n2_; clear n0_ n1_ n2_; (try clear hb); (try clear hb2); (try clear hk); (try clear hi)) | ((with_reducible refine gate_callee (f := 13) rfl ?_); refine goesL_ (some 33) rfl rfl Tryd.func13 (by kernel_rfl) rfl #[.slice A1 l1.length c1] rfl (by (try simp only [List.map_toArray, List.map_cons, List.map_nil]); first | done | rfl | (simp only [List.length_drop, List.length_take]; rfl)) ?_; (with_reducible refine (galleylaw31_own.calls _ _ l1 t288 _ ?side1 ?side2 A11.out).mono ?_); (case side1 => repeat (first | exact (Kd.C_below HR1.out HB.out) | (with_reducible refine Kd.C_alloc ?_ _) | (with_reducible refine Kd.C_drewN ?_ _) | (with_reducible refine Kd.C_drew ?_))); (case side2 => exact HC1.out); rintro e w26 ⟨v289, rfl, ho0, hb⟩; refine ⟨_, rfl, ?_⟩; have n0_ := Aside0.mk (Kd.R_elder' (by (with_reducible repeat (first | apply Kd.R_alloc | apply Kd.R_drewN | apply Kd.R_drew)); exact HO282.out) (Kd.R_base ho0) hb); have n1_ := Aside0.mk (Kd.R_elder' (by (with_reducible repeat (first | apply Kd.R_alloc | apply Kd.R_drewN | apply Kd.R_drew)); exact HO285.out) (Kd.R_base ho0) hb); have n2_ := Aside0.mk (Kd.R_lower (Kd.R_new' (Kd.R_new' ho0 (Kd.R_lt (by (with_reducible repeat (first | apply Kd.R_alloc | apply Kd.R_drewN | apply Kd.R_drew)); exact HO282.out))) (Kd.R_lt (by (with_reducible repeat (first | apply Kd.R_alloc | apply Kd.R_drewN | apply Kd.R_drew)); exact HO285.out))) (below_size (by repeat (first | (with_reducible first | exact HB.out | apply below_alloc | apply pw_below_drewN | apply below_drew1) | exact HB.out)))); have n3_ := Aside0.mk (below_step (by repeat (first | (with_reducible first | exact HB.out | apply below_alloc | apply pw_below_drewN | apply below_drew1) | exact HB.out)) hb); clear HO282; clear HO285; clear HB; have HO282 := n0_; have HO285 := n1_; have HO290 := n2_; have HB := n3_; clear n0_ n1_ n2_ n3_; (try clear hb); (try clear hb2); (try clear hk); (try clear hi); (try clear ho0)) | ((with_reducible refine gate_callee (f := 13) rfl ?_); refine goesL_ (some 35) rfl rfl Tryd.func13 (by kernel_rfl) rfl #[.slice A0 l0.length c0] rfl (by (try simp only [List.map_toArray, List.map_cons, List.map_nil]); first | done | rfl | (simp only [List.length_drop, List.length_take]; rfl)) ?_; (with_reducible refine (galleylaw31_own.calls _ _ l0 t291 _ ?side1 ?side2 A12.out).mono ?_); (case side1 => repeat (first | exact (Kd.C_below HR0.out HB.out) | (with_reducible refine Kd.C_alloc ?_ _) | (with_reducible refine Kd.C_drewN ?_ _) | (with_reducible refine Kd.C_drew ?_))); (case side2 => exact HC0.out); rintro e w27 ⟨v292, rfl, ho0, hb⟩; refine ⟨_, rfl, ?_⟩; have n0_ := Aside0.mk (Kd.R_elder' (by (with_reducible repeat (first | apply Kd.R_alloc | apply Kd.R_drewN | apply Kd.R_drew)); exact HO282.out) (Kd.R_base ho0) hb); have n1_ := Aside0.mk (Kd.R_elder' (by (with_reducible repeat (first | apply Kd.R_alloc | apply Kd.R_drewN | apply Kd.R_drew)); exact HO285.out) (Kd.R_base ho0) hb); have n2_ := Aside0.mk (Kd.R_elder' (by (with_reducible repeat (first | apply Kd.R_alloc | apply Kd.R_drewN | apply Kd.R_drew)); exact HO290.out) (Kd.R_base ho0) hb); have n3_ := Aside0.mk (Kd.R_lower (Kd.R_new' (Kd.R_new' (Kd.R_new' ho0 (Kd.R_lt (by (with_reducible repeat (first | apply Kd.R_alloc | apply Kd.R_drewN | apply Kd.R_drew)); exact HO282.out))) (Kd.R_lt (by (with_reducible repeat (first | apply Kd.R_alloc | apply Kd.R_drewN | apply Kd.R_drew)); exact HO285.out))) (Kd.R_lt (by (with_reducible repeat (first | apply Kd.R_alloc | apply Kd.R_drewN | apply Kd.R_drew)); exact HO290.out))) (below_size (by repeat (first | (with_reducible first | exact HB.out | apply below_alloc | apply pw_below_drewN | apply below_drew1) | exact HB.out)))); have n4_ := Aside0.mk (below_step (by repeat (first | (with_reducible first | exact HB.out | apply below_alloc | apply pw_below_drewN | apply below_drew1) | exact HB.out)) hb); clear HO282; clear HO285; clear HO290; clear HB; have HO282 := n0_; have HO285 := n1_; have HO290 := n2_; have HO293 := n3_; have HB := n4_; clear n0_ n1_ n2_ n3_ n4_; (try clear hb); (try clear hb2); (try clear hk); (try clear hi); (try clear ho0); obtain ⟨Ao28, co28, eo28⟩ := Kd.R_slice HO290.out; subst eo28; obtain ⟨Ao29, co29, eo29⟩ := Kd.R_slice HO293.out; subst eo29) | ((with_reducible refine gate_callee (f := 12) rfl ?_); refine goesL_ (some 37) rfl rfl Tryd.func12 (by kernel_rfl) rfl #[.slice Ao28 t288.length co28, .slice Ao29 t291.length co29, .int .i64 x7_1] rfl (by (try simp only [List.map_toArray, List.map_cons, List.map_nil]); first | done | rfl | (simp only [List.length_drop, List.length_take]; rfl)) ?_; (with_reducible refine (order_Compare.calls _ _ t288 _ _ t291 x7_1 t294 t295 _ ?side1 ?side2 ?side3 ?side4 A13.out).mono ?_); (case side1 => repeat (first | exact (Kd.R_reads' HO290.out).2.2 | (with_reducible refine Kd.C_alloc ?_ _) | (with_reducible refine Kd.C_drewN ?_ _) | (with_reducible refine Kd.C_drew ?_))); (case side2 => exact (Kd.R_reads' HO290.out).2.1); (case side3 => repeat (first | exact (Kd.R_reads' HO293.out).2.2 | (with_reducible refine Kd.C_alloc ?_ _) | (with_reducible refine Kd.C_drewN ?_ _) | (with_reducible refine Kd.C_drew ?_))); (case side4 => exact (Kd.R_reads' HO293.out).2.1); rintro e w30 ⟨rfl, hb⟩; refine ⟨_, rfl, ?_⟩; have n0_ := Aside0.mk (Kd.R_below (by (with_reducible repeat (first | apply Kd.R_alloc | apply Kd.R_drewN | apply Kd.R_drew)); exact HO282.out) hb); have n1_ := Aside0.mk (Kd.R_below (by (with_reducible repeat (first | apply Kd.R_alloc | apply Kd.R_drewN | apply Kd.R_drew)); exact HO285.out) hb); have n2_ := Aside0.mk (Kd.R_below (by (with_reducible repeat (first | apply Kd.R_alloc | apply Kd.R_drewN | apply Kd.R_drew)); exact HO290.out) hb); have n3_ := Aside0.mk (Kd.R_below (by (with_reducible repeat (first | apply Kd.R_alloc | apply Kd.R_drewN | apply Kd.R_drew)); exact HO293.out) hb); have n4_ := Aside0.mk (below_step (by repeat (first | (with_reducible first | exact HB.out | apply below_alloc | apply pw_below_drewN | apply below_drew1) | exact HB.out)) hb); clear HO282; clear HO285; clear HO290; clear HO293; clear HB; have HO282 := n0_; have HO285 := n1_; have HO290 := n2_; have HO293 := n3_; have HB := n4_; clear n0_ n1_ n2_ n3_ n4_; (try clear hb); (try clear hb2); (try clear hk); (try clear hi)) | ((with_reducible refine gate_callee (f := 13) rfl ?_); refine goesL_ (some 42) rfl rfl Tryd.func13 (by kernel_rfl) rfl #[.slice A1 l1.length c1] rfl (by (try simp only [List.map_toArray, List.map_cons, List.map_nil]); first | done | rfl | (simp only [List.length_drop, List.length_take]; rfl)) ?_; (with_reducible refine (galleylaw31_own.calls _ _ l1 t296 _ ?side1 ?side2 A14.out).mono ?_); (case side1 => repeat (first | exact (Kd.C_below HR1.out HB.out) | (with_reducible refine Kd.C_alloc ?_ _) | (with_reducible refine Kd.C_drewN ?_ _) | (with_reducible refine Kd.C_drew ?_))); (case side2 => exact HC1.out); rintro e w31 ⟨v297, rfl, ho0, hb⟩; refine ⟨_, rfl, ?_⟩; have n0_ := Aside0.mk (Kd.R_elder' (by (with_reducible repeat (first | apply Kd.R_alloc | apply Kd.R_drewN | apply Kd.R_drew)); exact HO282.out) (Kd.R_base ho0) hb); have n1_ := Aside0.mk (Kd.R_elder' (by (with_reducible repeat (first | apply Kd.R_alloc | apply Kd.R_drewN | apply Kd.R_drew)); exact HO285.out) (Kd.R_base ho0) hb); have n2_ := Aside0.mk (Kd.R_elder' (by (with_reducible repeat (first | apply Kd.R_alloc | apply Kd.R_drewN | apply Kd.R_drew)); exact HO290.out) (Kd.R_base ho0) hb); have n3_ := Aside0.mk (Kd.R_elder' (by (with_reducible repeat (first | apply Kd.R_alloc | apply Kd.R_drewN | apply Kd.R_drew)); exact HO293.out) (Kd.R_base ho0) hb); have n4_ := Aside0.mk (Kd.R_lower (Kd.R_new' (Kd.R_new' (Kd.R_new' (Kd.R_new' ho0 (Kd.R_lt (by (with_reducible repeat (first | apply Kd.R_alloc | apply Kd.R_drewN | apply Kd.R_drew)); exact HO282.out))) (Kd.R_lt (by (with_reducible repeat (first | apply Kd.R_alloc | apply Kd.R_drewN | apply Kd.R_drew)); exact HO285.out))) (Kd.R_lt (by (with_reducible repeat (first | apply Kd.R_alloc | apply Kd.R_drewN | apply Kd.R_drew)); exact HO290.out))) (Kd.R_lt (by (with_reducible repeat (first | apply Kd.R_alloc | apply Kd.R_drewN | apply Kd.R_drew)); exact HO293.out))) (below_size (by repeat (first | (with_reducible first | exact HB.out | apply below_alloc | apply pw_below_drewN | apply below_drew1) | exact HB.out)))); have n5_ := Aside0.mk (below_step (by repeat (first | (with_reducible first | exact HB.out | apply below_alloc | apply pw_below_drewN | apply below_drew1) | exact HB.out)) hb); clear HO282; clear HO285; clear HO290; clear HO293; clear HB; have HO282 := n0_; have HO285 := n1_; have HO290 := n2_; have HO293 := n3_; have HO298 := n4_; have HB := n5_; clear n0_ n1_ n2_ n3_ n4_ n5_; (try clear hb); (try clear hb2); (try clear hk); (try clear hi); (try clear ho0)) | ((with_reducible refine gate_callee (f := 13) rfl ?_); refine goesL_ (some 44) rfl rfl Tryd.func13 (by kernel_rfl) rfl #[.slice A2 l2.length c2] rfl (by (try simp only [List.map_toArray, List.map_cons, List.map_nil]); first | done | rfl | (simp only [List.length_drop, List.length_take]; rfl)) ?_; (with_reducible refine (galleylaw31_own.calls _ _ l2 t299 _ ?side1 ?side2 A15.out).mono ?_); (case side1 => repeat (first | exact (Kd.C_below HR2.out HB.out) | (with_reducible refine Kd.C_alloc ?_ _) | (with_reducible refine Kd.C_drewN ?_ _) | (with_reducible refine Kd.C_drew ?_))); (case side2 => exact HC2.out); rintro e w32 ⟨v300, rfl, ho0, hb⟩; refine ⟨_, rfl, ?_⟩; have n0_ := Aside0.mk (Kd.R_elder' (by (with_reducible repeat (first | apply Kd.R_alloc | apply Kd.R_drewN | apply Kd.R_drew)); exact HO282.out) (Kd.R_base ho0) hb); have n1_ := Aside0.mk (Kd.R_elder' (by (with_reducible repeat (first | apply Kd.R_alloc | apply Kd.R_drewN | apply Kd.R_drew)); exact HO285.out) (Kd.R_base ho0) hb); have n2_ := Aside0.mk (Kd.R_elder' (by (with_reducible repeat (first | apply Kd.R_alloc | apply Kd.R_drewN | apply Kd.R_drew)); exact HO290.out) (Kd.R_base ho0) hb); have n3_ := Aside0.mk (Kd.R_elder' (by (with_reducible repeat (first | apply Kd.R_alloc | apply Kd.R_drewN | apply Kd.R_drew)); exact HO293.out) (Kd.R_base ho0) hb); have n4_ := Aside0.mk (Kd.R_elder' (by (with_reducible repeat (first | apply Kd.R_alloc | apply Kd.R_drewN | apply Kd.R_drew)); exact HO298.out) (Kd.R_base ho0) hb); have n5_ := Aside0.mk (Kd.R_lower (Kd.R_new' (Kd.R_new' (Kd.R_new' (Kd.R_new' (Kd.R_new' ho0 (Kd.R_lt (by (with_reducible repeat (first | apply Kd.R_alloc | apply Kd.R_drewN | apply Kd.R_drew)); exact HO282.out))) (Kd.R_lt (by (with_reducible repeat (first | apply Kd.R_alloc | apply Kd.R_drewN | apply Kd.R_drew)); exact HO285.out))) (Kd.R_lt (by (with_reducible repeat (first | apply Kd.R_alloc | apply Kd.R_drewN | apply Kd.R_drew)); exact HO290.out))) (Kd.R_lt (by (with_reducible repeat (first | apply Kd.R_alloc | apply Kd.R_drewN | apply Kd.R_drew)); exact HO293.out))) (Kd.R_lt (by (with_reducible repeat (first | apply Kd.R_alloc | apply Kd.R_drewN | apply Kd.R_drew)); exact HO298.out))) (below_size (by repeat (first | (with_reducible first | exact HB.out | apply below_alloc | apply pw_below_drewN | apply below_drew1) | exact HB.out)))); have n6_ := Aside0.mk (below_step (by repeat (first | (with_reducible first | exact HB.out | apply below_alloc | apply pw_below_drewN | apply below_drew1) | exact HB.out)) hb); clear HO282; clear HO285; clear HO290; clear HO293; clear HO298; clear HB; have HO282 := n0_; have HO285 := n1_; have HO290 := n2_; have HO293 := n3_; have HO298 := n4_; have HO301 := n5_; have HB := n6_; clear n0_ n1_ n2_ n3_ n4_ n5_ n6_; (try clear hb); (try clear hb2); (try clear hk); (try clear hi); (try clear ho0); obtain ⟨Ao33, co33, eo33⟩ := Kd.R_slice HO298.out; subst eo33; obtain ⟨Ao34, co34, eo34⟩ := Kd.R_slice HO301.out; subst eo34) | ((with_reducible refine gate_callee (f := 12) rfl ?_); refine goesL_ (some 46) rfl rfl Tryd.func12 (by kernel_rfl) rfl #[.slice Ao33 t296.length co33, .slice Ao34 t299.length co34, .int .i64 x7_1] rfl (by (try simp only [List.map_toArray, List.map_cons, List.map_nil]); first | done | rfl | (simp only [List.length_drop, List.length_take]; rfl)) ?_; (with_reducible refine (order_Compare.calls _ _ t296 _ _ t299 x7_1 t302 t303 _ ?side1 ?side2 ?side3 ?side4 A16.out).mono ?_); (case side1 => repeat (first | exact (Kd.R_reads' HO298.out).2.2 | (with_reducible refine Kd.C_alloc ?_ _) | (with_reducible refine Kd.C_drewN ?_ _) | (with_reducible refine Kd.C_drew ?_))); (case side2 => exact (Kd.R_reads' HO298.out).2.1); (case side3 => repeat (first | exact (Kd.R_reads' HO301.out).2.2 | (with_reducible refine Kd.C_alloc ?_ _) | (with_reducible refine Kd.C_drewN ?_ _) | (with_reducible refine Kd.C_drew ?_))); (case side4 => exact (Kd.R_reads' HO301.out).2.1); rintro e w35 ⟨rfl, hb⟩; refine ⟨_, rfl, ?_⟩; have n0_ := Aside0.mk (Kd.R_below (by (with_reducible repeat (first | apply Kd.R_alloc | apply Kd.R_drewN | apply Kd.R_drew)); exact HO282.out) hb); have n1_ := Aside0.mk (Kd.R_below (by (with_reducible repeat (first | apply Kd.R_alloc | apply Kd.R_drewN | apply Kd.R_drew)); exact HO285.out) hb); have n2_ := Aside0.mk (Kd.R_below (by (with_reducible repeat (first | apply Kd.R_alloc | apply Kd.R_drewN | apply Kd.R_drew)); exact HO290.out) hb); have n3_ := Aside0.mk (Kd.R_below (by (with_reducible repeat (first | apply Kd.R_alloc | apply Kd.R_drewN | apply Kd.R_drew)); exact HO293.out) hb); have n4_ := Aside0.mk (Kd.R_below (by (with_reducible repeat (first | apply Kd.R_alloc | apply Kd.R_drewN | apply Kd.R_drew)); exact HO298.out) hb); have n5_ := Aside0.mk (Kd.R_below (by (with_reducible repeat (first | apply Kd.R_alloc | apply Kd.R_drewN | apply Kd.R_drew)); exact HO301.out) hb); have n6_ := Aside0.mk (below_step (by repeat (first | (with_reducible first | exact HB.out | apply below_alloc | apply pw_below_drewN | apply below_drew1) | exact HB.out)) hb); clear HO282; clear HO285; clear HO290; clear HO293; clear HO298; clear HO301; clear HB; have HO282 := n0_; have HO285 := n1_; have HO290 := n2_; have HO293 := n3_; have HO298 := n4_; have HO301 := n5_; have HB := n6_; clear n0_ n1_ n2_ n3_ n4_ n5_ n6_; (try clear hb); (try clear hb2); (try clear hk); (try clear hi)) | ((with_reducible refine gate_callee (f := 13) rfl ?_); refine goesL_ (some 51) rfl rfl Tryd.func13 (by kernel_rfl) rfl #[.slice A0 l0.length c0] rfl (by (try simp only [List.map_toArray, List.map_cons, List.map_nil]); first | done | rfl | (simp only [List.length_drop, List.length_take]; rfl)) ?_; (with_reducible refine (galleylaw31_own.calls _ _ l0 t304 _ ?side1 ?side2 A17.out).mono ?_); (case side1 => repeat (first | exact (Kd.C_below HR0.out HB.out) | (with_reducible refine Kd.C_alloc ?_ _) | (with_reducible refine Kd.C_drewN ?_ _) | (with_reducible refine Kd.C_drew ?_))); (case side2 => exact HC0.out); rintro e w36 ⟨v305, rfl, ho0, hb⟩; refine ⟨_, rfl, ?_⟩; have n0_ := Aside0.mk (Kd.R_elder' (by (with_reducible repeat (first | apply Kd.R_alloc | apply Kd.R_drewN | apply Kd.R_drew)); exact HO282.out) (Kd.R_base ho0) hb); have n1_ := Aside0.mk (Kd.R_elder' (by (with_reducible repeat (first | apply Kd.R_alloc | apply Kd.R_drewN | apply Kd.R_drew)); exact HO285.out) (Kd.R_base ho0) hb); have n2_ := Aside0.mk (Kd.R_elder' (by (with_reducible repeat (first | apply Kd.R_alloc | apply Kd.R_drewN | apply Kd.R_drew)); exact HO290.out) (Kd.R_base ho0) hb); have n3_ := Aside0.mk (Kd.R_elder' (by (with_reducible repeat (first | apply Kd.R_alloc | apply Kd.R_drewN | apply Kd.R_drew)); exact HO293.out) (Kd.R_base ho0) hb); have n4_ := Aside0.mk (Kd.R_elder' (by (with_reducible repeat (first | apply Kd.R_alloc | apply Kd.R_drewN | apply Kd.R_drew)); exact HO298.out) (Kd.R_base ho0) hb); have n5_ := Aside0.mk (Kd.R_elder' (by (with_reducible repeat (first | apply Kd.R_alloc | apply Kd.R_drewN | apply Kd.R_drew)); exact HO301.out) (Kd.R_base ho0) hb); have n6_ := Aside0.mk (Kd.R_lower (Kd.R_new' (Kd.R_new' (Kd.R_new' (Kd.R_new' (Kd.R_new' (Kd.R_new' ho0 (Kd.R_lt (by (with_reducible repeat (first | apply Kd.R_alloc | apply Kd.R_drewN | apply Kd.R_drew)); exact HO282.out))) (Kd.R_lt (by (with_reducible repeat (first | apply Kd.R_alloc | apply Kd.R_drewN | apply Kd.R_drew)); exact HO285.out))) (Kd.R_lt (by (with_reducible repeat (first | apply Kd.R_alloc | apply Kd.R_drewN | apply Kd.R_drew)); exact HO290.out))) (Kd.R_lt (by (with_reducible repeat (first | apply Kd.R_alloc | apply Kd.R_drewN | apply Kd.R_drew)); exact HO293.out))) (Kd.R_lt (by (with_reducible repeat (first | apply Kd.R_alloc | apply Kd.R_drewN | apply Kd.R_drew)); exact HO298.out))) (Kd.R_lt (by (with_reducible repeat (first | apply Kd.R_alloc | apply Kd.R_drewN | apply Kd.R_drew)); exact HO301.out))) (below_size (by repeat (first | (with_reducible first | exact HB.out | apply below_alloc | apply pw_below_drewN | apply below_drew1) | exact HB.out)))); have n7_ := Aside0.mk (below_step (by repeat (first | (with_reducible first | exact HB.out | apply below_alloc | apply pw_below_drewN | apply below_drew1) | exact HB.out)) hb); clear HO282; clear HO285; clear HO290; clear HO293; clear HO298; clear HO301; clear HB; have HO282 := n0_; have HO285 := n1_; have HO290 := n2_; have HO293 := n3_; have HO298 := n4_; have HO301 := n5_; have HO306 := n6_; have HB := n7_; clear n0_ n1_ n2_ n3_ n4_ n5_ n6_ n7_; (try clear hb); (try clear hb2); (try clear hk); (try clear hi); (try clear ho0)) | ((with_reducible refine gate_callee (f := 13) rfl ?_); refine goesL_ (some 53) rfl rfl Tryd.func13 (by kernel_rfl) rfl #[.slice A2 l2.length c2] rfl (by (try simp only [List.map_toArray, List.map_cons, List.map_nil]); first | done | rfl | (simp only [List.length_drop, List.length_take]; rfl)) ?_; (with_reducible refine (galleylaw31_own.calls _ _ l2 t307 _ ?side1 ?side2 A18.out).mono ?_); (case side1 => repeat (first | exact (Kd.C_below HR2.out HB.out) | (with_reducible refine Kd.C_alloc ?_ _) | (with_reducible refine Kd.C_drewN ?_ _) | (with_reducible refine Kd.C_drew ?_))); (case side2 => exact HC2.out); rintro e w37 ⟨v308, rfl, ho0, hb⟩; refine ⟨_, rfl, ?_⟩; have n0_ := Aside0.mk (Kd.R_elder' (by (with_reducible repeat (first | apply Kd.R_alloc | apply Kd.R_drewN | apply Kd.R_drew)); exact HO282.out) (Kd.R_base ho0) hb); have n1_ := Aside0.mk (Kd.R_elder' (by (with_reducible repeat (first | apply Kd.R_alloc | apply Kd.R_drewN | apply Kd.R_drew)); exact HO285.out) (Kd.R_base ho0) hb); have n2_ := Aside0.mk (Kd.R_elder' (by (with_reducible repeat (first | apply Kd.R_alloc | apply Kd.R_drewN | apply Kd.R_drew)); exact HO290.out) (Kd.R_base ho0) hb); have n3_ := Aside0.mk (Kd.R_elder' (by (with_reducible repeat (first | apply Kd.R_alloc | apply Kd.R_drewN | apply Kd.R_drew)); exact HO293.out) (Kd.R_base ho0) hb); have n4_ := Aside0.mk (Kd.R_elder' (by (with_reducible repeat (first | apply Kd.R_alloc | apply Kd.R_drewN | apply Kd.R_drew)); exact HO298.out) (Kd.R_base ho0) hb); have n5_ := Aside0.mk (Kd.R_elder' (by (with_reducible repeat (first | apply Kd.R_alloc | apply Kd.R_drewN | apply Kd.R_drew)); exact HO301.out) (Kd.R_base ho0) hb); have n6_ := Aside0.mk (Kd.R_elder' (by (with_reducible repeat (first | apply Kd.R_alloc | apply Kd.R_drewN | apply Kd.R_drew)); exact HO306.out) (Kd.R_base ho0) hb); have n7_ := Aside0.mk (Kd.R_lower (Kd.R_new' (Kd.R_new' (Kd.R_new' (Kd.R_new' (Kd.R_new' (Kd.R_new' (Kd.R_new' ho0 (Kd.R_lt (by (with_reducible repeat (first | apply Kd.R_alloc | apply Kd.R_drewN | apply Kd.R_drew)); exact HO282.out))) (Kd.R_lt (by (with_reducible repeat (first | apply Kd.R_alloc | apply Kd.R_drewN | apply Kd.R_drew)); exact HO285.out))) (Kd.R_lt (by (with_reducible repeat (first | apply Kd.R_alloc | apply Kd.R_drewN | apply Kd.R_drew)); exact HO290.out))) (Kd.R_lt (by (with_reducible repeat (first | apply Kd.R_alloc | apply Kd.R_drewN | apply Kd.R_drew)); exact HO293.out))) (Kd.R_lt (by (with_reducible repeat (first | apply Kd.R_alloc | apply Kd.R_drewN | apply Kd.R_drew)); exact HO298.out))) (Kd.R_lt (by (with_reducible repeat (first | apply Kd.R_alloc | apply Kd.R_drewN | apply Kd.R_drew)); exact HO301.out))) (Kd.R_lt (by (with_reducible repeat (first | apply Kd.R_alloc | apply Kd.R_drewN | apply Kd.R_drew)); exact HO306.out))) (below_size (by repeat (first | (with_reducible first | exact HB.out | apply below_alloc | apply pw_below_drewN | apply below_drew1) | exact HB.out)))); have n8_ := Aside0.mk (below_step (by repeat (first | (with_reducible first | exact HB.out | apply below_alloc | apply pw_below_drewN | apply below_drew1) | exact HB.out)) hb); clear HO282; clear HO285; clear HO290; clear HO293; clear HO298; clear HO301; clear HO306; clear HB; have HO282 := n0_; have HO285 := n1_; have HO290 := n2_; have HO293 := n3_; have HO298 := n4_; have HO301 := n5_; have HO306 := n6_; have HO309 := n7_; have HB := n8_; clear n0_ n1_ n2_ n3_ n4_ n5_ n6_ n7_ n8_; (try clear hb); (try clear hb2); (try clear hk); (try clear hi); (try clear ho0); obtain ⟨Ao38, co38, eo38⟩ := Kd.R_slice HO306.out; subst eo38; obtain ⟨Ao39, co39, eo39⟩ := Kd.R_slice HO309.out; subst eo39) | ((with_reducible refine gate_callee (f := 12) rfl ?_); refine goesL_ (some 55) rfl rfl Tryd.func12 (by kernel_rfl) rfl #[.slice Ao38 t304.length co38, .slice Ao39 t307.length co39, .int .i64 x7_1] rfl (by (try simp only [List.map_toArray, List.map_cons, List.map_nil]); first | done | rfl | (simp only [List.length_drop, List.length_take]; rfl)) ?_; (with_reducible refine (order_Compare.calls _ _ t304 _ _ t307 x7_1 t310 t311 _ ?side1 ?side2 ?side3 ?side4 A19.out).mono ?_); (case side1 => repeat (first | exact (Kd.R_reads' HO306.out).2.2 | (with_reducible refine Kd.C_alloc ?_ _) | (with_reducible refine Kd.C_drewN ?_ _) | (with_reducible refine Kd.C_drew ?_))); (case side2 => exact (Kd.R_reads' HO306.out).2.1); (case side3 => repeat (first | exact (Kd.R_reads' HO309.out).2.2 | (with_reducible refine Kd.C_alloc ?_ _) | (with_reducible refine Kd.C_drewN ?_ _) | (with_reducible refine Kd.C_drew ?_))); (case side4 => exact (Kd.R_reads' HO309.out).2.1); rintro e w40 ⟨rfl, hb⟩; refine ⟨_, rfl, ?_⟩; have n0_ := Aside0.mk (Kd.R_below (by (with_reducible repeat (first | apply Kd.R_alloc | apply Kd.R_drewN | apply Kd.R_drew)); exact HO282.out) hb); have n1_ := Aside0.mk (Kd.R_below (by (with_reducible repeat (first | apply Kd.R_alloc | apply Kd.R_drewN | apply Kd.R_drew)); exact HO285.out) hb); have n2_ := Aside0.mk (Kd.R_below (by (with_reducible repeat (first | apply Kd.R_alloc | apply Kd.R_drewN | apply Kd.R_drew)); exact HO290.out) hb); have n3_ := Aside0.mk (Kd.R_below (by (with_reducible repeat (first | apply Kd.R_alloc | apply Kd.R_drewN | apply Kd.R_drew)); exact HO293.out) hb); have n4_ := Aside0.mk (Kd.R_below (by (with_reducible repeat (first | apply Kd.R_alloc | apply Kd.R_drewN | apply Kd.R_drew)); exact HO298.out) hb); have n5_ := Aside0.mk (Kd.R_below (by (with_reducible repeat (first | apply Kd.R_alloc | apply Kd.R_drewN | apply Kd.R_drew)); exact HO301.out) hb); have n6_ := Aside0.mk (Kd.R_below (by (with_reducible repeat (first | apply Kd.R_alloc | apply Kd.R_drewN | apply Kd.R_drew)); exact HO306.out) hb); have n7_ := Aside0.mk (Kd.R_below (by (with_reducible repeat (first | apply Kd.R_alloc | apply Kd.R_drewN | apply Kd.R_drew)); exact HO309.out) hb); have n8_ := Aside0.mk (below_step (by repeat (first | (with_reducible first | exact HB.out | apply below_alloc | apply pw_below_drewN | apply below_drew1) | exact HB.out)) hb); clear HO282; clear HO285; clear HO290; clear HO293; clear HO298; clear HO301; clear HO306; clear HO309; clear HB; have HO282 := n0_; have HO285 := n1_; have HO290 := n2_; have HO293 := n3_; have HO298 := n4_; have HO301 := n5_; have HO306 := n6_; have HO309 := n7_; have HB := n8_; clear n0_ n1_ n2_ n3_ n4_ n5_ n6_ n7_ n8_; (try clear hb); (try clear hb2); (try clear hk); (try clear hi)))
          (try simp only [Act.put, List.setIfInBounds_toArray, List.set_cons_zero, List.set_cons_succ])
          go_cut [85] (fun v85 wc => ∃ (kq : Nat) (x85_19 : Bool), v85 = .bool x85_19 ∧ Aside0 (galleylaw31_OrderTotal.j1 kq l0 l1 l2 x7_1 t286 t302 t310 x85_19 = some r) ∧ Aside0 (kq ≤ k1) ∧ Aside0 (Below w.heap.size w wc))
          case first =>
            have H := HC20.out
            clear HC20
            by_cases c41 : t287 = 0
            · rw [if_pos c41] at H
              have c41b0 : (t287 == 0) = true := beq_iff_eq.mpr c41
              have c41b1 : (t287 != 0) = false := bne_eq_false_iff_eq.mpr c41
              clear c41
              (first | rw [c41b0] | (simp only [i64_w, i32_w]; rw [c41b0]) | skip)
              by_cases c42 : t295 = 0
              · rw [if_pos c42] at H
                have c42b0 : (t295 == 0) = true := beq_iff_eq.mpr c42
                have c42b1 : (t295 != 0) = false := bne_eq_false_iff_eq.mpr c42
                clear c42
                by_cases c43 : t303 = 0
                · rw [if_pos c43] at H
                  have c43b0 : (t303 == 0) = true := beq_iff_eq.mpr c43
                  have c43b1 : (t303 != 0) = false := bne_eq_false_iff_eq.mpr c43
                  clear c43
                  by_cases c44 : t311 = 0
                  · rw [if_pos c44] at H
                    have c44b0 : (t311 == 0) = true := beq_iff_eq.mpr c44
                    have c44b1 : (t311 != 0) = false := bne_eq_false_iff_eq.mpr c44
                    clear c44
                    by_cases c45 : t286 = (wrap64 (-t294))
                    · rw [if_pos c45] at H
                      have c45b0 : (t286 == (wrap64 (-t294))) = true := beq_iff_eq.mpr c45
                      have c45b1 : (t286 != (wrap64 (-t294))) = false := bne_eq_false_iff_eq.mpr c45
                      clear c45
                      by_cases c46 : t286 < (-1)
                      · rw [if_pos c46] at H
                        have c46b0 : decide (t286 < (-1)) = true := decide_eq_true c46
                        clear c46
                        have H' := Aside0.mk H
                        clear H
                        go_wp2
                        go_meet
                        case rel => exact ⟨_, (true), (by first | rfl | (simp; done) | (simp [*]; done)), H', ⟨by have := HK1.out; first | omega | exact Nat.le_refl _⟩, ⟨by repeat (first | (with_reducible first | exact HB.out | apply below_alloc | apply pw_below_drewN | apply below_drew1) | exact HB.out)⟩⟩
                      · rw [if_neg c46] at H
                        have c46b0 : decide (t286 < (-1)) = false := decide_eq_false c46
                        clear c46
                        have H' := Aside0.mk H
                        clear H
                        go_wp2
                        go_meet
                        case rel => exact ⟨_, (decide (t286 > 1)), (by first | rfl | (simp; done) | (simp [*]; done)), H', ⟨by have := HK1.out; first | omega | exact Nat.le_refl _⟩, ⟨by repeat (first | (with_reducible first | exact HB.out | apply below_alloc | apply pw_below_drewN | apply below_drew1) | exact HB.out)⟩⟩
                    · rw [if_neg c45] at H
                      have c45b0 : (t286 == (wrap64 (-t294))) = false := beq_eq_false_iff_ne.mpr c45
                      have c45b1 : (t286 != (wrap64 (-t294))) = true := bne_iff_ne.mpr c45
                      have H' := Aside0.mk H
                      clear H
                      go_wp2
                      go_meet
                      case rel => exact ⟨_, (true), (by first | rfl | (simp; done) | (simp [*]; done)), H', ⟨by have := HK1.out; first | omega | exact Nat.le_refl _⟩, ⟨by repeat (first | (with_reducible first | exact HB.out | apply below_alloc | apply pw_below_drewN | apply below_drew1) | exact HB.out)⟩⟩
                  · rw [if_neg c44] at H
                    have c44b0 : (t311 == 0) = false := beq_eq_false_iff_ne.mpr c44
                    have c44b1 : (t311 != 0) = true := bne_iff_ne.mpr c44
                    have H' := Aside0.mk H
                    clear H
                    go_wp2
                    go_meet
                    case rel => exact ⟨_, (true), (by first | rfl | (simp; done) | (simp [*]; done)), H', ⟨by have := HK1.out; first | omega | exact Nat.le_refl _⟩, ⟨by repeat (first | (with_reducible first | exact HB.out | apply below_alloc | apply pw_below_drewN | apply below_drew1) | exact HB.out)⟩⟩
                · rw [if_neg c43] at H
                  have c43b0 : (t303 == 0) = false := beq_eq_false_iff_ne.mpr c43
                  have c43b1 : (t303 != 0) = true := bne_iff_ne.mpr c43
                  have H' := Aside0.mk H
                  clear H
                  go_wp2
                  go_meet
                  case rel => exact ⟨_, (true), (by first | rfl | (simp; done) | (simp [*]; done)), H', ⟨by have := HK1.out; first | omega | exact Nat.le_refl _⟩, ⟨by repeat (first | (with_reducible first | exact HB.out | apply below_alloc | apply pw_below_drewN | apply below_drew1) | exact HB.out)⟩⟩
              · rw [if_neg c42] at H
                have c42b0 : (t295 == 0) = false := beq_eq_false_iff_ne.mpr c42
                have c42b1 : (t295 != 0) = true := bne_iff_ne.mpr c42
                have H' := Aside0.mk H
                clear H
                go_wp2
                go_meet
                case rel => exact ⟨_, (true), (by first | rfl | (simp; done) | (simp [*]; done)), H', ⟨by have := HK1.out; first | omega | exact Nat.le_refl _⟩, ⟨by repeat (first | (with_reducible first | exact HB.out | apply below_alloc | apply pw_below_drewN | apply below_drew1) | exact HB.out)⟩⟩
            · rw [if_neg c41] at H
              have c41b0 : (t287 == 0) = false := beq_eq_false_iff_ne.mpr c41
              have c41b1 : (t287 != 0) = true := bne_iff_ne.mpr c41
              (first | rw [c41b0] | (simp only [i64_w, i32_w]; rw [c41b0]) | skip)
              have H' := Aside0.mk H
              clear H
              go_wp2
              go_meet
              case rel => exact ⟨_, (true), (by first | rfl | (simp; done) | (simp [*]; done)), H', ⟨by have := HK1.out; first | omega | exact Nat.le_refl _⟩, ⟨by repeat (first | (with_reducible first | exact HB.out | apply below_alloc | apply pw_below_drewN | apply below_drew1) | exact HB.out)⟩⟩
          case rest =>
            clear HC20
            try clear c1
            try clear c2
            try clear p2
            try clear c4
            try clear c5
            try clear p6
            try clear c7
            try clear c7b0
            try clear c11
            try clear c12
            try clear c13
            try clear c41
            try clear c41b0
            try clear c41b1
            try clear c42
            try clear c42b0
            try clear c42b1
            try clear c43
            try clear c43b0
            try clear c43b1
            try clear c44
            try clear c44b0
            try clear c44b1
            try clear c45
            try clear c45b0
            try clear c45b1
            try clear c46
            try clear c46b0
            try clear p2
            obtain ⟨kq, x85_19, rfl, HA, HJ19, HB⟩ := hcut
            cases kq with
            | zero => exact absurd HA.out (by simp [galleylaw31_OrderTotal.j1])
            | succ kj19 =>
              have H := HA.out
              clear HA
              simp only [galleylaw31_OrderTotal.j1] at H
              by_cases c47 : x85_19 = true
              · subst c47
                have H1 : (some false) = some r := by rw [if_pos rfl] at H; exact H
                clear H
                have H := H1
                clear H1
                obtain rfl := Option.some.inj H
                go_wp2
                go_ret
                exact ⟨by first | rfl | (simp [errW_none, errW_some] <;> rfl) | (simp [*, errW_none, errW_some] <;> rfl), by repeat (first | (with_reducible first | exact HB.out | apply below_alloc | apply pw_below_drewN | apply below_drew1) | exact HB.out)⟩
              · replace c47 := Bool.eq_false_iff.mpr c47
                subst c47
                have H1 : (if t286 ≤ 0 then (if t302 ≤ 0 then (if t310 = (mn t286 t302) then (if t286 ≥ 0 then (if t302 ≥ 0 then (galleylaw31_OrderTotal.j2 kj19 l0 l1 l2 x7_1 t286 (t310 != (mx t286 t302))) else (galleylaw31_OrderTotal.j2 kj19 l0 l1 l2 x7_1 t286 false)) else (galleylaw31_OrderTotal.j2 kj19 l0 l1 l2 x7_1 t286 false)) else (galleylaw31_OrderTotal.j2 kj19 l0 l1 l2 x7_1 t286 true)) else (if t286 ≥ 0 then (if t302 ≥ 0 then (galleylaw31_OrderTotal.j2 kj19 l0 l1 l2 x7_1 t286 (t310 != (mx t286 t302))) else (galleylaw31_OrderTotal.j2 kj19 l0 l1 l2 x7_1 t286 false)) else (galleylaw31_OrderTotal.j2 kj19 l0 l1 l2 x7_1 t286 false))) else (if t286 ≥ 0 then (if t302 ≥ 0 then (galleylaw31_OrderTotal.j2 kj19 l0 l1 l2 x7_1 t286 (t310 != (mx t286 t302))) else (galleylaw31_OrderTotal.j2 kj19 l0 l1 l2 x7_1 t286 false)) else (galleylaw31_OrderTotal.j2 kj19 l0 l1 l2 x7_1 t286 false))) = some r := by rw [if_neg (show ¬ (false = true) by decide)] at H; exact H
                clear H
                have H := H1
                clear H1
                have HC48 := Aside0.mk H
                clear H
                go_upto_region 12 with (fail)
                go_cut [113] (fun v113 wc => ∃ (kq : Nat) (x113_47 : Bool), v113 = .bool x113_47 ∧ Aside0 (galleylaw31_OrderTotal.j2 kq l0 l1 l2 x7_1 t286 x113_47 = some r) ∧ Aside0 (kq ≤ kj19) ∧ Aside0 (Below w.heap.size w wc))
                case first =>
                  have H := HC48.out
                  clear HC48
                  by_cases c49 : t286 ≤ 0
                  · rw [if_pos c49] at H
                    have c49b0 : decide (t286 ≤ 0) = true := decide_eq_true c49
                    clear c49
                    (first | rw [c49b0] | (simp only [i64_w, i32_w]; rw [c49b0]) | skip)
                    by_cases c50 : t302 ≤ 0
                    · rw [if_pos c50] at H
                      have c50b0 : decide (t302 ≤ 0) = true := decide_eq_true c50
                      clear c50
                      obtain ⟨ji51, hji51⟩ : ∃ j_ : Int, (mn t286 t302) = j_ := ⟨_, rfl⟩
                      replace H : (if t310 = (ji51) then (if t286 ≥ 0 then (if t302 ≥ 0 then (galleylaw31_OrderTotal.j2 kj19 l0 l1 l2 x7_1 t286 (t310 != (mx t286 t302))) else (galleylaw31_OrderTotal.j2 kj19 l0 l1 l2 x7_1 t286 false)) else (galleylaw31_OrderTotal.j2 kj19 l0 l1 l2 x7_1 t286 false)) else (galleylaw31_OrderTotal.j2 kj19 l0 l1 l2 x7_1 t286 true)) = some r := by first | (rw [hji51] at H; exact H) | (simp only [hji51] at H ⊢; exact H)
                      have hji51_ : (if t302 < t286 then t302 else t286) = ji51 := hji51
                      by_cases c52 : t310 = (ji51)
                      · rw [if_pos c52] at H
                        have c52b0 : (t310 == (ji51)) = true := beq_iff_eq.mpr c52
                        have c52b1 : (t310 != (ji51)) = false := bne_eq_false_iff_eq.mpr c52
                        clear c52
                        by_cases c53 : t286 ≥ 0
                        · rw [if_pos c53] at H
                          have c53b0 : decide (0 ≤ t286) = true := decide_eq_true c53
                          clear c53
                          by_cases c54 : t302 ≥ 0
                          · rw [if_pos c54] at H
                            have c54b0 : decide (0 ≤ t302) = true := decide_eq_true c54
                            clear c54
                            obtain ⟨ji55, hji55⟩ : ∃ j_ : Int, (mx t286 t302) = j_ := ⟨_, rfl⟩
                            replace H : (galleylaw31_OrderTotal.j2 kj19 l0 l1 l2 x7_1 t286 (t310 != (ji55))) = some r := by first | (rw [hji55] at H; exact H) | (simp only [hji55] at H ⊢; exact H)
                            have hji55_ : (if t286 < t302 then t302 else t286) = ji55 := hji55
                            have H' := Aside0.mk H
                            clear H
                            go_wp2
                            go_meet
                            case rel => exact ⟨_, ((t310 != (ji55))), (by first | rfl | (simp; done) | (simp only [← hji55] <;> (first | rfl | simp)) | (simp [*]; done)), H', ⟨by have := HK1.out; have := HJ19.out; first | omega | exact Nat.le_refl _⟩, ⟨by repeat (first | (with_reducible first | exact HB.out | apply below_alloc | apply pw_below_drewN | apply below_drew1) | exact HB.out)⟩⟩
                          · rw [if_neg c54] at H
                            have c54b0 : decide (0 ≤ t302) = false := decide_eq_false c54
                            clear c54
                            have H' := Aside0.mk H
                            clear H
                            go_wp2
                            go_meet
                            case rel => exact ⟨_, (false), (by first | rfl | (simp; done) | (simp [*]; done)), H', ⟨by have := HK1.out; have := HJ19.out; first | omega | exact Nat.le_refl _⟩, ⟨by repeat (first | (with_reducible first | exact HB.out | apply below_alloc | apply pw_below_drewN | apply below_drew1) | exact HB.out)⟩⟩
                        · rw [if_neg c53] at H
                          have c53b0 : decide (0 ≤ t286) = false := decide_eq_false c53
                          clear c53
                          have H' := Aside0.mk H
                          clear H
                          go_wp2
                          go_meet
                          case rel => exact ⟨_, (false), (by first | rfl | (simp; done) | (simp [*]; done)), H', ⟨by have := HK1.out; have := HJ19.out; first | omega | exact Nat.le_refl _⟩, ⟨by repeat (first | (with_reducible first | exact HB.out | apply below_alloc | apply pw_below_drewN | apply below_drew1) | exact HB.out)⟩⟩
                      · rw [if_neg c52] at H
                        have c52b0 : (t310 == (ji51)) = false := beq_eq_false_iff_ne.mpr c52
                        have c52b1 : (t310 != (ji51)) = true := bne_iff_ne.mpr c52
                        have H' := Aside0.mk H
                        clear H
                        go_wp2
                        go_meet
                        case rel => exact ⟨_, (true), (by first | rfl | (simp; done) | (simp [*]; done)), H', ⟨by have := HK1.out; have := HJ19.out; first | omega | exact Nat.le_refl _⟩, ⟨by repeat (first | (with_reducible first | exact HB.out | apply below_alloc | apply pw_below_drewN | apply below_drew1) | exact HB.out)⟩⟩
                    · rw [if_neg c50] at H
                      have c50b0 : decide (t302 ≤ 0) = false := decide_eq_false c50
                      clear c50
                      by_cases c56 : t286 ≥ 0
                      · rw [if_pos c56] at H
                        have c56b0 : decide (0 ≤ t286) = true := decide_eq_true c56
                        clear c56
                        by_cases c57 : t302 ≥ 0
                        · rw [if_pos c57] at H
                          have c57b0 : decide (0 ≤ t302) = true := decide_eq_true c57
                          clear c57
                          obtain ⟨ji58, hji58⟩ : ∃ j_ : Int, (mx t286 t302) = j_ := ⟨_, rfl⟩
                          replace H : (galleylaw31_OrderTotal.j2 kj19 l0 l1 l2 x7_1 t286 (t310 != (ji58))) = some r := by first | (rw [hji58] at H; exact H) | (simp only [hji58] at H ⊢; exact H)
                          have hji58_ : (if t286 < t302 then t302 else t286) = ji58 := hji58
                          have H' := Aside0.mk H
                          clear H
                          go_wp2
                          go_meet
                          case rel => exact ⟨_, ((t310 != (ji58))), (by first | rfl | (simp; done) | (simp only [← hji58] <;> (first | rfl | simp)) | (simp [*]; done)), H', ⟨by have := HK1.out; have := HJ19.out; first | omega | exact Nat.le_refl _⟩, ⟨by repeat (first | (with_reducible first | exact HB.out | apply below_alloc | apply pw_below_drewN | apply below_drew1) | exact HB.out)⟩⟩
                        · rw [if_neg c57] at H
                          have c57b0 : decide (0 ≤ t302) = false := decide_eq_false c57
                          clear c57
                          have H' := Aside0.mk H
                          clear H
                          go_wp2
                          go_meet
                          case rel => exact ⟨_, (false), (by first | rfl | (simp; done) | (simp [*]; done)), H', ⟨by have := HK1.out; have := HJ19.out; first | omega | exact Nat.le_refl _⟩, ⟨by repeat (first | (with_reducible first | exact HB.out | apply below_alloc | apply pw_below_drewN | apply below_drew1) | exact HB.out)⟩⟩
                      · rw [if_neg c56] at H
                        have c56b0 : decide (0 ≤ t286) = false := decide_eq_false c56
                        clear c56
                        have H' := Aside0.mk H
                        clear H
                        go_wp2
                        go_meet
                        case rel => exact ⟨_, (false), (by first | rfl | (simp; done) | (simp [*]; done)), H', ⟨by have := HK1.out; have := HJ19.out; first | omega | exact Nat.le_refl _⟩, ⟨by repeat (first | (with_reducible first | exact HB.out | apply below_alloc | apply pw_below_drewN | apply below_drew1) | exact HB.out)⟩⟩
                  · rw [if_neg c49] at H
                    have c49b0 : decide (t286 ≤ 0) = false := decide_eq_false c49
                    clear c49
                    (first | rw [c49b0] | (simp only [i64_w, i32_w]; rw [c49b0]) | skip)
                    by_cases c59 : t286 ≥ 0
                    · rw [if_pos c59] at H
                      have c59b0 : decide (0 ≤ t286) = true := decide_eq_true c59
                      clear c59
                      by_cases c60 : t302 ≥ 0
                      · rw [if_pos c60] at H
                        have c60b0 : decide (0 ≤ t302) = true := decide_eq_true c60
                        clear c60
                        obtain ⟨ji61, hji61⟩ : ∃ j_ : Int, (mx t286 t302) = j_ := ⟨_, rfl⟩
                        replace H : (galleylaw31_OrderTotal.j2 kj19 l0 l1 l2 x7_1 t286 (t310 != (ji61))) = some r := by first | (rw [hji61] at H; exact H) | (simp only [hji61] at H ⊢; exact H)
                        have hji61_ : (if t286 < t302 then t302 else t286) = ji61 := hji61
                        have H' := Aside0.mk H
                        clear H
                        go_wp2
                        go_meet
                        case rel => exact ⟨_, ((t310 != (ji61))), (by first | rfl | (simp; done) | (simp only [← hji61] <;> (first | rfl | simp)) | (simp [*]; done)), H', ⟨by have := HK1.out; have := HJ19.out; first | omega | exact Nat.le_refl _⟩, ⟨by repeat (first | (with_reducible first | exact HB.out | apply below_alloc | apply pw_below_drewN | apply below_drew1) | exact HB.out)⟩⟩
                      · rw [if_neg c60] at H
                        have c60b0 : decide (0 ≤ t302) = false := decide_eq_false c60
                        clear c60
                        have H' := Aside0.mk H
                        clear H
                        go_wp2
                        go_meet
                        case rel => exact ⟨_, (false), (by first | rfl | (simp; done) | (simp [*]; done)), H', ⟨by have := HK1.out; have := HJ19.out; first | omega | exact Nat.le_refl _⟩, ⟨by repeat (first | (with_reducible first | exact HB.out | apply below_alloc | apply pw_below_drewN | apply below_drew1) | exact HB.out)⟩⟩
                    · rw [if_neg c59] at H
                      have c59b0 : decide (0 ≤ t286) = false := decide_eq_false c59
                      clear c59
                      have H' := Aside0.mk H
                      clear H
                      go_wp2
                      go_meet
                      case rel => exact ⟨_, (false), (by first | rfl | (simp; done) | (simp [*]; done)), H', ⟨by have := HK1.out; have := HJ19.out; first | omega | exact Nat.le_refl _⟩, ⟨by repeat (first | (with_reducible first | exact HB.out | apply below_alloc | apply pw_below_drewN | apply below_drew1) | exact HB.out)⟩⟩
                case rest =>
                  clear HC48
                  try clear c1
                  try clear c2
                  try clear p2
                  try clear c4
                  try clear c5
                  try clear c6
                  try clear p6
                  try clear c7
                  try clear c7b0
                  try clear c11
                  try clear c12
                  try clear c13
                  try clear c41
                  try clear c41b0
                  try clear c41b1
                  try clear c42
                  try clear c42b0
                  try clear c42b1
                  try clear c43
                  try clear c43b0
                  try clear c43b1
                  try clear c44
                  try clear c44b0
                  try clear c44b1
                  try clear c45
                  try clear c45b0
                  try clear c45b1
                  try clear c46
                  try clear c46b0
                  try clear c47
                  try clear c49
                  try clear c49b0
                  try clear c50
                  try clear c50b0
                  try clear c52
                  try clear c52b0
                  try clear c52b1
                  try clear c53
                  try clear c53b0
                  try clear c54
                  try clear c54b0
                  try clear c56
                  try clear c56b0
                  try clear c57
                  try clear c57b0
                  try clear c59
                  try clear c59b0
                  try clear c60
                  try clear c60b0
                  try clear p2
                  try clear p6
                  obtain ⟨kq, x113_47, rfl, HA, HJ47, HB⟩ := hcut
                  cases kq with
                  | zero => exact absurd HA.out (by simp [galleylaw31_OrderTotal.j2])
                  | succ kj47 =>
                    have H := HA.out
                    clear HA
                    simp only [galleylaw31_OrderTotal.j2] at H
                    by_cases c62 : x113_47 = true
                    · subst c62
                      have H1 : (some false) = some r := by rw [if_pos rfl] at H; exact H
                      clear H
                      have H := H1
                      clear H1
                      obtain rfl := Option.some.inj H
                      go_wp2
                      go_ret
                      exact ⟨by first | rfl | (simp [errW_none, errW_some] <;> rfl) | (simp [*, errW_none, errW_some] <;> rfl), by repeat (first | (with_reducible first | exact HB.out | apply below_alloc | apply pw_below_drewN | apply below_drew1) | exact HB.out)⟩
                    · replace c62 := Bool.eq_false_iff.mpr c62
                      subst c62
                      have H1 : (if (strOfNums l0).toList = (strOfNums l1).toList then (if t286 = 0 then (if x7_1 = 1 then (galleylaw31_OrderTotal.l0 kj47 l0 l1 l2 (wrap64 (x7_1 + 1))) else (galleylaw31_OrderTotal.l0 kj47 l0 l1 l2 (wrap64 (x7_1 + 1)))) else (some false)) else (if x7_1 = 1 then (if t286 = 0 then (some false) else (galleylaw31_OrderTotal.l0 kj47 l0 l1 l2 (wrap64 (x7_1 + 1)))) else (galleylaw31_OrderTotal.l0 kj47 l0 l1 l2 (wrap64 (x7_1 + 1))))) = some r := by rw [if_neg (show ¬ (false = true) by decide)] at H; exact H
                      clear H
                      have H := H1
                      clear H1
                      by_cases c63 : (strOfNums l0).toList = (strOfNums l1).toList
                      · rw [if_pos c63] at H
                        have c63b0 : ((strOfNums l0).toList == (strOfNums l1).toList) = true := beq_iff_eq.mpr c63
                        have c63b1 : ((strOfNums l0).toList != (strOfNums l1).toList) = false := bne_eq_false_iff_eq.mpr c63
                        clear c63
                        by_cases c64 : t286 = 0
                        · rw [if_pos c64] at H
                          have c64b0 : (t286 == 0) = true := beq_iff_eq.mpr c64
                          have c64b1 : (t286 != 0) = false := bne_eq_false_iff_eq.mpr c64
                          clear c64
                          by_cases c65 : x7_1 = 1
                          · rw [if_pos c65] at H
                            have c65b0 : (x7_1 == 1) = true := beq_iff_eq.mpr c65
                            have c65b1 : (x7_1 != 1) = false := bne_eq_false_iff_eq.mpr c65
                            clear c65
                            have H' := Aside0.mk H
                            clear H
                            have hcv66 := Kd.C_string (P := Tryd.prog) (A := A0) (c := c0) Tryd.underlying22 Tryd.underlying5 Tryd.underlying9 (Kd.C_below HR0.out HB.out)
                            have hcv67 := Kd.C_string (P := Tryd.prog) (A := A1) (c := c1) Tryd.underlying22 Tryd.underlying5 Tryd.underlying9 (Kd.C_below HR1.out HB.out)
                            have hcv68 := Kd.C_string (P := Tryd.prog) (A := A0) (c := c0) Tryd.underlying22 Tryd.underlying5 Tryd.underlying9 (Kd.C_below HR0.out HB.out)
                            have hcv69 := Kd.C_string (P := Tryd.prog) (A := A1) (c := c1) Tryd.underlying22 Tryd.underlying5 Tryd.underlying9 (Kd.C_below HR1.out HB.out)
                            go_wp2
                            go_roundg kj47
                            case measure => have := HK1.out; have := HJ19.out; have := HJ47.out; omega
                            case rel => exact ⟨(wrap64 (x7_1 + 1)), (by first | rfl | (simp; done) | (simp [*]; done)), H', ⟨by have := HK1.out; have := HJ19.out; have := HJ47.out; omega⟩, ⟨by repeat (first | (with_reducible first | exact HB.out | apply below_alloc | apply pw_below_drewN | apply below_drew1) | exact HB.out)⟩⟩
                          · rw [if_neg c65] at H
                            have c65b0 : (x7_1 == 1) = false := beq_eq_false_iff_ne.mpr c65
                            have c65b1 : (x7_1 != 1) = true := bne_iff_ne.mpr c65
                            have H' := Aside0.mk H
                            clear H
                            have hcv70 := Kd.C_string (P := Tryd.prog) (A := A0) (c := c0) Tryd.underlying22 Tryd.underlying5 Tryd.underlying9 (Kd.C_below HR0.out HB.out)
                            have hcv71 := Kd.C_string (P := Tryd.prog) (A := A1) (c := c1) Tryd.underlying22 Tryd.underlying5 Tryd.underlying9 (Kd.C_below HR1.out HB.out)
                            go_wp2
                            go_roundg kj47
                            case measure => have := HK1.out; have := HJ19.out; have := HJ47.out; omega
                            case rel => exact ⟨(wrap64 (x7_1 + 1)), (by first | rfl | (simp; done) | (simp [*]; done)), H', ⟨by have := HK1.out; have := HJ19.out; have := HJ47.out; omega⟩, ⟨by repeat (first | (with_reducible first | exact HB.out | apply below_alloc | apply pw_below_drewN | apply below_drew1) | exact HB.out)⟩⟩
                        · rw [if_neg c64] at H
                          have c64b0 : (t286 == 0) = false := beq_eq_false_iff_ne.mpr c64
                          have c64b1 : (t286 != 0) = true := bne_iff_ne.mpr c64
                          obtain rfl := Option.some.inj H
                          have hcv72 := Kd.C_string (P := Tryd.prog) (A := A0) (c := c0) Tryd.underlying22 Tryd.underlying5 Tryd.underlying9 (Kd.C_below HR0.out HB.out)
                          have hcv73 := Kd.C_string (P := Tryd.prog) (A := A1) (c := c1) Tryd.underlying22 Tryd.underlying5 Tryd.underlying9 (Kd.C_below HR1.out HB.out)
                          go_wp2
                          go_ret
                          exact ⟨by first | rfl | (simp [errW_none, errW_some] <;> rfl) | (simp [*, errW_none, errW_some] <;> rfl), by repeat (first | (with_reducible first | exact HB.out | apply below_alloc | apply pw_below_drewN | apply below_drew1) | exact HB.out)⟩
                      · rw [if_neg c63] at H
                        have c63b0 : ((strOfNums l0).toList == (strOfNums l1).toList) = false := beq_eq_false_iff_ne.mpr c63
                        have c63b1 : ((strOfNums l0).toList != (strOfNums l1).toList) = true := bne_iff_ne.mpr c63
                        by_cases c74 : x7_1 = 1
                        · rw [if_pos c74] at H
                          have c74b0 : (x7_1 == 1) = true := beq_iff_eq.mpr c74
                          have c74b1 : (x7_1 != 1) = false := bne_eq_false_iff_eq.mpr c74
                          clear c74
                          by_cases c75 : t286 = 0
                          · rw [if_pos c75] at H
                            have c75b0 : (t286 == 0) = true := beq_iff_eq.mpr c75
                            have c75b1 : (t286 != 0) = false := bne_eq_false_iff_eq.mpr c75
                            clear c75
                            obtain rfl := Option.some.inj H
                            have hcv76 := Kd.C_string (P := Tryd.prog) (A := A0) (c := c0) Tryd.underlying22 Tryd.underlying5 Tryd.underlying9 (Kd.C_below HR0.out HB.out)
                            have hcv77 := Kd.C_string (P := Tryd.prog) (A := A1) (c := c1) Tryd.underlying22 Tryd.underlying5 Tryd.underlying9 (Kd.C_below HR1.out HB.out)
                            have hcv78 := Kd.C_string (P := Tryd.prog) (A := A0) (c := c0) Tryd.underlying22 Tryd.underlying5 Tryd.underlying9 (Kd.C_below HR0.out HB.out)
                            have hcv79 := Kd.C_string (P := Tryd.prog) (A := A1) (c := c1) Tryd.underlying22 Tryd.underlying5 Tryd.underlying9 (Kd.C_below HR1.out HB.out)
                            go_wp2
                            go_ret
                            exact ⟨by first | rfl | (simp [errW_none, errW_some] <;> rfl) | (simp [*, errW_none, errW_some] <;> rfl), by repeat (first | (with_reducible first | exact HB.out | apply below_alloc | apply pw_below_drewN | apply below_drew1) | exact HB.out)⟩
                          · rw [if_neg c75] at H
                            have c75b0 : (t286 == 0) = false := beq_eq_false_iff_ne.mpr c75
                            have c75b1 : (t286 != 0) = true := bne_iff_ne.mpr c75
                            have H' := Aside0.mk H
                            clear H
                            have hcv80 := Kd.C_string (P := Tryd.prog) (A := A0) (c := c0) Tryd.underlying22 Tryd.underlying5 Tryd.underlying9 (Kd.C_below HR0.out HB.out)
                            have hcv81 := Kd.C_string (P := Tryd.prog) (A := A1) (c := c1) Tryd.underlying22 Tryd.underlying5 Tryd.underlying9 (Kd.C_below HR1.out HB.out)
                            go_wp2
                            go_roundg kj47
                            case measure => have := HK1.out; have := HJ19.out; have := HJ47.out; omega
                            case rel => exact ⟨(wrap64 (x7_1 + 1)), (by first | rfl | (simp; done) | (simp [*]; done)), H', ⟨by have := HK1.out; have := HJ19.out; have := HJ47.out; omega⟩, ⟨by repeat (first | (with_reducible first | exact HB.out | apply below_alloc | apply pw_below_drewN | apply below_drew1) | exact HB.out)⟩⟩
                        · rw [if_neg c74] at H
                          have c74b0 : (x7_1 == 1) = false := beq_eq_false_iff_ne.mpr c74
                          have c74b1 : (x7_1 != 1) = true := bne_iff_ne.mpr c74
                          have H' := Aside0.mk H
                          clear H
                          have hcv82 := Kd.C_string (P := Tryd.prog) (A := A0) (c := c0) Tryd.underlying22 Tryd.underlying5 Tryd.underlying9 (Kd.C_below HR0.out HB.out)
                          have hcv83 := Kd.C_string (P := Tryd.prog) (A := A1) (c := c1) Tryd.underlying22 Tryd.underlying5 Tryd.underlying9 (Kd.C_below HR1.out HB.out)
                          go_wp2
                          go_roundg kj47
                          case measure => have := HK1.out; have := HJ19.out; have := HJ47.out; omega
                          case rel => exact ⟨(wrap64 (x7_1 + 1)), (by first | rfl | (simp; done) | (simp [*]; done)), H', ⟨by have := HK1.out; have := HJ19.out; have := HJ47.out; omega⟩, ⟨by repeat (first | (with_reducible first | exact HB.out | apply below_alloc | apply pw_below_drewN | apply below_drew1) | exact HB.out)⟩⟩
        · rw [if_neg c7] at H
          have c7b0 : decide (x7_1 ≤ 3) = false := decide_eq_false c7
          clear c7
          obtain rfl := Option.some.inj H
          go_wp2
          go_ret
          exact ⟨by first | rfl | (simp [errW_none, errW_some] <;> rfl) | (simp [*, errW_none, errW_some] <;> rfl), by repeat (first | (with_reducible first | exact HB.out | apply below_alloc | apply pw_below_drewN | apply below_drew1) | exact HB.out)⟩
  · replace c5 := Bool.eq_false_iff.mpr c5
    subst c5
    have H1 : (some false) = some r := by rw [if_neg (show ¬ (false = true) by decide)] at H; exact H
    clear H
    have H := H1
    clear H1
    obtain rfl := Option.some.inj H
    go_enter Tryd.func7, Tryd.ntmps7
    go_wp2_with (first | ((with_reducible refine gate_callee (f := 11) rfl ?_); refine goesL_ (some 16) rfl rfl Tryd.func11 (by kernel_rfl) rfl #[] rfl (by (try simp only [List.map_toArray, List.map_cons, List.map_nil]); first | done | rfl | (simp only [List.length_drop, List.length_take]; rfl)) ?_; (with_reducible refine (galleylaw31_wakes.calls  false _ A4.out).mono ?_); rintro e w84 ⟨rfl, hb⟩; refine ⟨_, rfl, ?_⟩; have n0_ := Aside0.mk (below_step (by repeat (first | (with_reducible first | exact HB.out | apply below_alloc | apply pw_below_drewN | apply below_drew1) | exact HB.out)) hb); clear HB; have HB := n0_; clear n0_; (try clear hb); (try clear hb2); (try clear hk); (try clear hi)))
    go_ret
    exact ⟨by first | rfl | (simp [errW_none, errW_some] <;> rfl) | (simp [*, errW_none, errW_some] <;> rfl), by repeat (first | (with_reducible first | exact HB.out | apply below_alloc | apply pw_below_drewN | apply below_drew1) | exact HB.out)⟩

/-- THE ONE PURE STATEMENT of galleylaw31_OrderTotal: yours. -/
def galleylaw31_OrderTotal.Pure : Prop := ∀ (l0 : List Int) (l1 : List Int) (l2 : List Int), l0.length ≤ maxLen → l0.length * 1 ≤ 140737488351232 → (∀ x ∈ l0, (Lit.int .u8 x).wf = true) → l1.length ≤ maxLen → l1.length * 1 ≤ 140737488351232 → (∀ x ∈ l1, (Lit.int .u8 x).wf = true) → l2.length ≤ maxLen → l2.length * 1 ≤ 140737488351232 → (∀ x ∈ l2, (Lit.int .u8 x).wf = true) → ∃ k, galleylaw31_OrderTotal.f k l0 l1 l2 = some true
theorem galleylaw31_OrderTotal.walk (P : galleylaw31_OrderTotal.Pure) (a0 : Option Addr) (len0 cap0 : Nat) (z0 : List Int) (a1 : Option Addr) (len1 cap1 : Nat) (z1 : List Int) (a2 : Option Addr) (len2 cap2 : Nat) (z2 : List Int) (w : World) (hLaid : Laid w) (w0 : (a0 = none ∧ len0 = 0 ∧ cap0 = 0 ∧ z0 = []) ∨ ∃ x, a0 = some x ∧ len0 ≤ cap0 ∧ cap0 ≤ maxLen ∧ z0.length = cap0 ∧ (∀ i, i < z0.length → w.cell? (x.add i) = some (.int .u8 (z0.getD i 0))) ∧ ∀ n ∈ z0, (Lit.int .u8 n).wf = true) (y0 : len0 * 1 ≤ 140737488351232) (w1 : (a1 = none ∧ len1 = 0 ∧ cap1 = 0 ∧ z1 = []) ∨ ∃ x, a1 = some x ∧ len1 ≤ cap1 ∧ cap1 ≤ maxLen ∧ z1.length = cap1 ∧ (∀ i, i < z1.length → w.cell? (x.add i) = some (.int .u8 (z1.getD i 0))) ∧ ∀ n ∈ z1, (Lit.int .u8 n).wf = true) (y1 : len1 * 1 ≤ 140737488351232) (w2 : (a2 = none ∧ len2 = 0 ∧ cap2 = 0 ∧ z2 = []) ∨ ∃ x, a2 = some x ∧ len2 ≤ cap2 ∧ cap2 ≤ maxLen ∧ z2.length = cap2 ∧ (∀ i, i < z2.length → w.cell? (x.add i) = some (.int .u8 (z2.getD i 0))) ∧ ∀ n ∈ z2, (Lit.int .u8 n).wf = true) (y2 : len2 * 1 ≤ 140737488351232) :
    Calls Tryd.prog 7 #[.slice a0 len0 cap0, .slice a1 len1 cap1, .slice a2 len2 cap2] w fun e w' => e = .returned (.bool true) ∧ Below w.heap.size w w' := by
  obtain ⟨l0, rfl, hr0, hm0, hw0, hc0⟩ := ReadsInt.ofRowC w0
  obtain ⟨l1, rfl, hr1, hm1, hw1, hc1⟩ := ReadsInt.ofRowC w1
  obtain ⟨l2, rfl, hr2, hm2, hw2, hc2⟩ := ReadsInt.ofRowC w2
  obtain ⟨k, h⟩ := P l0 l1 l2 hm0 y0 hw0 hm1 y1 hw1 hm2 y2 hw2
  refine (galleylaw31_OrderTotal.calls k _ _ l0 _ _ l1 _ _ l2 true w (Kd.C_of_reads (d := (0 : Int)) (h1 := fun _ => rfl) hr0) hc0 (Kd.C_of_reads (d := (0 : Int)) (h1 := fun _ => rfl) hr1) hc1 (Kd.C_of_reads (d := (0 : Int)) (h1 := fun _ => rfl) hr2) hc2 h).mono ?_
  rintro e w' ⟨rfl, hd⟩
  exact ⟨rfl, hd⟩

end Go.Proofs.YtdomggegacgmnaaDoor.PA
