-- printed by wip/print_given.py (a program of this session over the kit's printer); not trusted: Lean checks it
import Derived.Test.YtjladdjpnicldaaPAx0
import Derived.Test.YtjladdjpnicldaaPAx6
import Derived.Test.YtjladdjpnicldaaGChanges
namespace Go.Proofs.Ytjladdjpnicldaa.PA
open Go.RowKit Go.Proofs.YtjladdjpnicldaaW.PrintWords Go.Proofs.YtjladdjpnicldaaW.PrintLast Go.Proofs.YtjladdjpnicldaaW.PrintMore
attribute [local go_sem] max2_int min2_int max_two min_two max_three min_three max_four min_four   -- for this text's walks alone
set_option linter.unusedVariables false
set_option linter.unusedSimpArgs false

/-! ### shift_Place: function 25 -/
mutual
def shift_Place.j0 : Nat → List (S56) → Int → Int → Bool → Option (Int × Int)
  | 0, _, _, _, _ => none
  | k + 1, x0, x1, x2, x39 => if x39 = true then (some (0, 2)) else ((delta_Changes.f k x0).bind fun bt303 => (shift_Place.l0 k x1 x2 0 bt303.1 (bt303.1.length : Int) 0))
def shift_Place.l0 : Nat → Int → Int → Int → List (S99) → Int → Int → Option (Int × Int)
  | 0, _, _, _, _, _, _ => none
  | k + 1, x1, x2, x13, x45, x46, x47 => if x47 < x46 then (if 0 ≤ x47 then (if x47 < (x45.length : Int) then (if x1 < ((rd_T99 x45 x47).f0) then (some (wrap64 (x1 + x13), 0)) else (if x1 ≤ ((rd_T99 x45 x47).f1) then (if x2 = 1 then (some (wrap64 (((rd_T99 x45 x47).f0) + x13), 0)) else (some (wrap64 ((wrap64 (((rd_T99 x45 x47).f0) + x13)) + (((rd_T99 x45 x47).f2).size : Int)), 0))) else (shift_Place.l0 k x1 x2 (wrap64 (x13 + (wrap64 ((((rd_T99 x45 x47).f2).size : Int) - (wrap64 (((rd_T99 x45 x47).f1) - ((rd_T99 x45 x47).f0))))))) x45 x46 (wrap64 (x47 + 1))))) else (none)) else (none)) else (some (wrap64 (x1 + x13), 0))
end
def shift_Place.f (k : Nat) (l0 : List (S56)) (a1 : Int) (a2 : Int) : Option (Int × Int) := (delta_Lens.f k l0).bind fun bt300 => (if bt300.2.2 = 0 then (if a1 < 0 then (shift_Place.j0 k l0 a1 a2 true) else (if a1 > bt300.1 then (shift_Place.j0 k l0 a1 a2 true) else (if a2 = 1 then (shift_Place.j0 k l0 a1 a2 false) else (shift_Place.j0 k l0 a1 a2 (a2 != 2))))) else (some (0, bt300.2.2)))
theorem shift_Place.mono_l : ∀ k, (∀ y0 y1 y2 y3, LeO (shift_Place.j0 k y0 y1 y2 y3) (shift_Place.j0 (k + 1) y0 y1 y2 y3)) ∧ (∀ y0 y1 y2 y3 y4 y5, LeO (shift_Place.l0 k y0 y1 y2 y3 y4 y5) (shift_Place.l0 (k + 1) y0 y1 y2 y3 y4 y5))
  | 0 => ⟨fun _ _ _ _ r h => by simp [shift_Place.j0] at h, fun _ _ _ _ _ _ r h => by simp [shift_Place.l0] at h⟩
  | k + 1 => by
    obtain ⟨ih0, ih1⟩ := shift_Place.mono_l k
    refine ⟨?_, ?_⟩
    · intro y0 y1 y2 y3
      unfold shift_Place.j0
      repeat' first
      | (with_reducible exact ih0 _ _ _ _)
      | (with_reducible exact ih1 _ _ _ _ _ _)
      | (with_reducible exact delta_Changes.mono _ _)
      | (with_reducible exact delta_Lens.mono _ _)
      | (with_reducible exact LeO.refl _)
      | (with_reducible exact LeO.none _)
      | (with_reducible refine LeO.ite ?_ ?_)
      | (with_reducible refine LeO.bind ?_ (fun _ => ?_))
      | exact ih0 _ _ _ _
      | exact ih1 _ _ _ _ _ _
      | exact delta_Changes.mono _ _
      | exact delta_Lens.mono _ _
      | exact LeO.none _
      | refine LeO.ite ?_ ?_
      | refine LeO.bind ?_ (fun _ => ?_)
    · intro y0 y1 y2 y3 y4 y5
      unfold shift_Place.l0
      repeat' first
      | (with_reducible exact ih0 _ _ _ _)
      | (with_reducible exact ih1 _ _ _ _ _ _)
      | (with_reducible exact delta_Changes.mono _ _)
      | (with_reducible exact delta_Lens.mono _ _)
      | (with_reducible exact LeO.refl _)
      | (with_reducible exact LeO.none _)
      | (with_reducible refine LeO.ite ?_ ?_)
      | (with_reducible refine LeO.bind ?_ (fun _ => ?_))
      | exact ih0 _ _ _ _
      | exact ih1 _ _ _ _ _ _
      | exact delta_Changes.mono _ _
      | exact delta_Lens.mono _ _
      | exact LeO.none _
      | refine LeO.ite ?_ ?_
      | refine LeO.bind ?_ (fun _ => ?_)
theorem shift_Place.mono : ∀ a0 a1 a2 k, LeO (shift_Place.f k a0 a1 a2) (shift_Place.f (k + 1) a0 a1 a2) := by
  intro a0 a1 a2 k
  obtain ⟨ih0, ih1⟩ := shift_Place.mono_l k
  unfold shift_Place.f
  repeat' first
      | (with_reducible exact ih0 _ _ _ _)
      | (with_reducible exact ih1 _ _ _ _ _ _)
      | (with_reducible exact delta_Changes.mono _ _)
      | (with_reducible exact delta_Lens.mono _ _)
      | (with_reducible exact LeO.refl _)
      | (with_reducible exact LeO.none _)
      | (with_reducible refine LeO.ite ?_ ?_)
      | (with_reducible refine LeO.bind ?_ (fun _ => ?_))
      | exact ih0 _ _ _ _
      | exact ih1 _ _ _ _ _ _
      | exact delta_Changes.mono _ _
      | exact delta_Lens.mono _ _
      | exact LeO.none _
      | refine LeO.ite ?_ ?_
      | refine LeO.bind ?_ (fun _ => ?_)
set_option maxHeartbeats 8000000 in
set_option maxRecDepth 100000 in
theorem shift_Place.calls (k : Nat) (A0 : Option Addr) (c0 : Nat) (l0 : List (S56)) (a1 : Int) (a2 : Int) (r1 : Int) (r2 : Int) (w : World) (hr0 : Kd.C k56 w A0 l0.length l0) (hc0 : l0.length ≤ c0) (h : shift_Place.f k l0 a1 a2 = some (r1, r2)) :
    Calls Try.prog 25 #[.slice A0 l0.length c0, .int .i64 a1, .int .i64 a2] w fun e w' => e = .returned (.tuple #[.int .i64 r1, .int .i64 r2]) ∧ Below w.heap.size w w' := by
  have hu99 := Try.underlying99
  have HR0 := Aside0.mk hr0
  have HC0 := Aside0.mk hc0
  clear hr0 hc0
  have HB := Aside0.mk (Below.refl w.heap.size w)
  have H : ((delta_Lens.f k l0).bind fun bt300 => (if bt300.2.2 = 0 then (if a1 < 0 then (shift_Place.j0 k l0 a1 a2 true) else (if a1 > bt300.1 then (shift_Place.j0 k l0 a1 a2 true) else (if a2 = 1 then (shift_Place.j0 k l0 a1 a2 false) else (shift_Place.j0 k l0 a1 a2 (a2 != 2))))) else (some (0, bt300.2.2)))) = some (r1, r2) := h
  clear h
  replace H := Option.bind_eq_some_iff.mp H
  obtain ⟨⟨t300, t301, t302⟩, A40, H⟩ := H
  replace H : (if t302 = 0 then (if a1 < 0 then (shift_Place.j0 k l0 a1 a2 true) else (if a1 > t300 then (shift_Place.j0 k l0 a1 a2 true) else (if a2 = 1 then (shift_Place.j0 k l0 a1 a2 false) else (shift_Place.j0 k l0 a1 a2 (a2 != 2))))) else (some (0, t302))) = some (r1, r2) := H
  have A4 := Aside0.mk A40
  clear A40
  by_cases c5 : t302 = 0
  · rw [if_pos c5] at H
    have c5b0 : (t302 == 0) = true := beq_iff_eq.mpr c5
    have c5b1 : (t302 != 0) = false := bne_eq_false_iff_eq.mpr c5
    clear c5
    have HC6 := Aside0.mk H
    clear H
    go_enter Try.func25, Try.ntmps25
    go_upto_region 4 with (first | ((with_reducible refine gate_callee (f := 26) rfl ?_); refine goesL_ (some 18) rfl rfl Try.func26 (by kernel_rfl) rfl #[.slice A0 l0.length c0] rfl (by (try simp only [List.map_toArray, List.map_cons, List.map_nil]); first | done | rfl | (simp only [List.length_drop, List.length_take]; rfl)) ?_; (with_reducible refine (delta_Lens.calls k _ _ l0 t300 t301 t302 _ ?side1 ?side2 A4.out).mono ?_); (case side1 => repeat (first | exact HR0.out | (with_reducible refine Kd.C_alloc ?_ _) | (with_reducible refine Kd.C_drewN ?_ _) | (with_reducible refine Kd.C_drew ?_))); (case side2 => exact HC0.out); rintro e w7 ⟨rfl, hb⟩; refine ⟨_, rfl, ?_⟩; have n0_ := Aside0.mk (below_step (by repeat (first | (with_reducible first | exact HB.out | apply below_alloc | apply pw_below_drewN | apply below_drew1) | exact HB.out)) hb); clear HB; have HB := n0_; clear n0_; (try clear hb); (try clear hb2); (try clear hk); (try clear hi)))
    (try simp only [Act.put, List.setIfInBounds_toArray, List.set_cons_zero, List.set_cons_succ])
    go_cut [39] (fun v39 wc => ∃ (kq : Nat) (x39_5 : Bool), v39 = .bool x39_5 ∧ Aside0 (shift_Place.j0 kq l0 a1 a2 x39_5 = some (r1, r2)) ∧ Aside0 (kq ≤ k) ∧ Aside0 (Below w.heap.size w wc))
    case first =>
      have H := HC6.out
      clear HC6
      by_cases c8 : a1 < 0
      · rw [if_pos c8] at H
        have c8b0 : decide (a1 < 0) = true := decide_eq_true c8
        clear c8
        (first | rw [c8b0] | (simp only [i64_w, i32_w]; rw [c8b0]) | skip)
        have H' := Aside0.mk H
        clear H
        go_wp2
        go_meet
        case rel => exact ⟨_, (true), (by first | rfl | (simp; done) | (simp [*]; done)), H', ⟨by first | omega | exact Nat.le_refl _⟩, ⟨by repeat (first | (with_reducible first | exact HB.out | apply below_alloc | apply pw_below_drewN | apply below_drew1) | exact HB.out)⟩⟩
      · rw [if_neg c8] at H
        have c8b0 : decide (a1 < 0) = false := decide_eq_false c8
        clear c8
        (first | rw [c8b0] | (simp only [i64_w, i32_w]; rw [c8b0]) | skip)
        by_cases c9 : a1 > t300
        · rw [if_pos c9] at H
          have c9b0 : decide (t300 < a1) = true := decide_eq_true c9
          clear c9
          have H' := Aside0.mk H
          clear H
          go_wp2
          go_meet
          case rel => exact ⟨_, (true), (by first | rfl | (simp; done) | (simp [*]; done)), H', ⟨by first | omega | exact Nat.le_refl _⟩, ⟨by repeat (first | (with_reducible first | exact HB.out | apply below_alloc | apply pw_below_drewN | apply below_drew1) | exact HB.out)⟩⟩
        · rw [if_neg c9] at H
          have c9b0 : decide (t300 < a1) = false := decide_eq_false c9
          clear c9
          by_cases c10 : a2 = 1
          · rw [if_pos c10] at H
            have c10b0 : (a2 == 1) = true := beq_iff_eq.mpr c10
            have c10b1 : (a2 != 1) = false := bne_eq_false_iff_eq.mpr c10
            clear c10
            have H' := Aside0.mk H
            clear H
            go_wp2
            go_meet
            case rel => exact ⟨_, (false), (by first | rfl | (simp; done) | (simp [*]; done)), H', ⟨by first | omega | exact Nat.le_refl _⟩, ⟨by repeat (first | (with_reducible first | exact HB.out | apply below_alloc | apply pw_below_drewN | apply below_drew1) | exact HB.out)⟩⟩
          · rw [if_neg c10] at H
            have c10b0 : (a2 == 1) = false := beq_eq_false_iff_ne.mpr c10
            have c10b1 : (a2 != 1) = true := bne_iff_ne.mpr c10
            have H' := Aside0.mk H
            clear H
            go_wp2
            go_meet
            case rel => exact ⟨_, ((a2 != 2)), (by first | rfl | (simp; done) | (simp [*]; done)), H', ⟨by first | omega | exact Nat.le_refl _⟩, ⟨by repeat (first | (with_reducible first | exact HB.out | apply below_alloc | apply pw_below_drewN | apply below_drew1) | exact HB.out)⟩⟩
    case rest =>
      clear HC6
      try clear c1
      try clear c2
      try clear p2
      try clear c5
      try clear c5b0
      try clear c5b1
      try clear c8
      try clear c8b0
      try clear c9
      try clear c9b0
      try clear c10
      try clear c10b0
      try clear c10b1
      obtain ⟨kq, x39_5, rfl, HA, HJ5, HB⟩ := hcut
      cases kq with
      | zero => exact absurd HA.out (by simp [shift_Place.j0])
      | succ kj5 =>
        have H := HA.out
        clear HA
        simp only [shift_Place.j0] at H
        by_cases c11 : x39_5 = true
        · subst c11
          have H1 : (some (0, 2)) = some (r1, r2) := by rw [if_pos rfl] at H; exact H
          clear H
          have H := H1
          clear H1
          simp only [Option.some.injEq, Prod.mk.injEq] at H
          obtain ⟨rfl, rfl⟩ := H
          go_wp2
          go_ret2
          exact ⟨by first | rfl | (simp [errW_none, errW_some] <;> rfl) | (simp [*, errW_none, errW_some] <;> rfl), by repeat (first | (with_reducible first | exact HB.out | apply below_alloc | apply pw_below_drewN | apply below_drew1) | exact HB.out)⟩
        · replace c11 := Bool.eq_false_iff.mpr c11
          subst c11
          have H1 : ((delta_Changes.f kj5 l0).bind fun bt303 => (shift_Place.l0 kj5 a1 a2 0 bt303.1 (bt303.1.length : Int) 0)) = some (r1, r2) := by rw [if_neg (show ¬ (false = true) by decide)] at H; exact H
          clear H
          have H := H1
          clear H1
          replace H := Option.bind_eq_some_iff.mp H
          obtain ⟨⟨t303, t304⟩, A120, H⟩ := H
          replace H : (shift_Place.l0 kj5 a1 a2 0 t303 (t303.length : Int) 0) = some (r1, r2) := H
          have A12 := Aside0.mk A120
          clear A120
          have H' := Aside0.mk H
          clear H
          go_wp2_with (first | ((with_reducible refine gate_callee (f := 44) rfl ?_); refine goesL_ (some 42) rfl rfl Try.func44 (by kernel_rfl) rfl #[.slice A0 l0.length c0] rfl (by (try simp only [List.map_toArray, List.map_cons, List.map_nil]); first | done | rfl | (simp only [List.length_drop, List.length_take]; rfl)) ?_; (with_reducible refine (delta_Changes.calls kj5 _ _ l0 t303 t304 _ ?side1 ?side2 A12.out).mono ?_); (case side1 => repeat (first | exact (Kd.C_below HR0.out HB.out) | (with_reducible refine Kd.C_alloc ?_ _) | (with_reducible refine Kd.C_drewN ?_ _) | (with_reducible refine Kd.C_drew ?_))); (case side2 => exact HC0.out); rintro e w13 ⟨v305, rfl, ho0, hb⟩; refine ⟨_, rfl, ?_⟩; have n0_ := Aside0.mk (Kd.R_lower ho0 (below_size (by repeat (first | (with_reducible first | exact HB.out | apply below_alloc | apply pw_below_drewN | apply below_drew1) | exact HB.out)))); have n1_ := Aside0.mk (below_step (by repeat (first | (with_reducible first | exact HB.out | apply below_alloc | apply pw_below_drewN | apply below_drew1) | exact HB.out)) hb); clear HB; have HO306 := n0_; have HB := n1_; clear n0_ n1_; (try clear hb); (try clear hb2); (try clear hk); (try clear hi); (try clear ho0); obtain ⟨Ao14, co14, eo14⟩ := Kd.R_slice HO306.out; subst eo14))
          go_loopg [13, 47] kj5 (fun kq v13 v47 w' => ∃ (x13_2 : Int) (x47_2 : Int), v13 = .int .i64 x13_2 ∧ v47 = .int .i64 x47_2 ∧ Aside0 (shift_Place.l0 kq a1 a2 x13_2 t303 (t303.length : Int) x47_2 = some (r1, r2)) ∧ Aside0 (kq ≤ kj5) ∧ Aside0 (Kd.R k99 99 w' w.heap.size (fun _ => True) (.slice Ao14 t303.length co14) t303) ∧ Aside0 (Below w.heap.size w w'))
          case atStart => exact ⟨(0), (0), (by first | rfl | (simp; done) | (simp [*]; done)), (by first | rfl | (simp; done) | (simp [*]; done)), H', ⟨Nat.le_refl _⟩, ⟨by (with_reducible repeat (first | apply Kd.R_alloc | apply Kd.R_drewN | apply Kd.R_drew)); exact HO306.out⟩, ⟨by repeat (first | (with_reducible first | exact HB.out | apply below_alloc | apply pw_below_drewN | apply below_drew1) | exact HB.out)⟩⟩
          case round =>
            clear H'
            try clear c1
            try clear c2
            try clear p2
            try clear c4
            try clear c5
            try clear c5b0
            try clear c5b1
            try clear c8
            try clear c8b0
            try clear c9
            try clear c9b0
            try clear c10
            try clear c10b0
            try clear c10b1
            try clear c11
            try clear p2
            obtain ⟨x13_2, x47_2, rfl, rfl, HA, HK2, HO_45, HB⟩ := hrel
            cases gk with
            | zero => exact absurd HA.out (by simp [shift_Place.l0])
            | succ k2 =>
              have H := HA.out
              clear HA
              simp only [shift_Place.l0] at H
              by_cases c15 : x47_2 < (t303.length : Int)
              · rw [if_pos c15] at H
                have c15b0 : decide (x47_2 < (t303.length : Int)) = true := decide_eq_true c15
                clear c15
                by_cases c16 : 0 ≤ x47_2
                · rw [if_pos c16] at H
                  have c16b0 : decide (0 ≤ x47_2) = true := decide_eq_true c16
                  clear c16
                  by_cases c17 : x47_2 < (t303.length : Int)
                  · rw [if_pos c17] at H
                    have c17b0 : decide (x47_2 < (t303.length : Int)) = true := decide_eq_true c17
                    clear c17
                    by_cases c18 : a1 < ((rd_T99 t303 x47_2).f0)
                    · rw [if_pos c18] at H
                      have c18b0 : decide (a1 < ((rd_T99 t303 x47_2).f0)) = true := decide_eq_true c18
                      clear c18
                      simp only [Option.some.injEq, Prod.mk.injEq] at H
                      obtain ⟨rfl, rfl⟩ := H
                      have p307 : 0 ≤ (x47_2 : Int) := of_decide_eq_true (by first | (with_reducible assumption) | assumption)
                      have q307 : x47_2 < (t303.length : Int) := of_decide_eq_true (by first | (with_reducible assumption) | assumption)
                      obtain ⟨ad307, e307, hx307_0, hx307_1, hx307_2⟩ := at_T99 (Kd.R_reads' HO_45.out).2.2 x47_2 p307 q307
                      cases e307
                      replace p307 := eq_true p307
                      replace q307 := eq_true q307
                      go_wp2_with (first | ((with_reducible refine gate_dst (N := 15) rfl ?_); refine box_event ?hg (N := 15) ?hd (cs := #[.int .i64 0, .int .i64 0, .string (⟨#[]⟩ : ByteArray)]) (t := 99) ?hr ?_; (case hd => rfl); (case hg => rfl); (case hr => first | (go_simp; done) | (go_simp; rfl)); intro gb308 hg w19 hbox hb; have n0_ := Aside0.mk (Kd.R_below (Kd.R_elderB (by (with_reducible repeat (first | apply Kd.R_alloc | apply Kd.R_drewN | apply Kd.R_drew)); exact HO_45.out) gb308 (Nat.le_of_eq hg.symm)) hb); have n1_ := Aside0.mk (below_step (by repeat (first | (with_reducible first | exact HB.out | apply below_alloc | apply pw_below_drewN | apply below_drew1) | exact HB.out)) hb); have n2_ := Aside0.mk (hbox); have n3_ := Aside0.mk ((by rw [hg]; exact (below_size (by repeat (first | (with_reducible first | exact HB.out | apply below_alloc | apply pw_below_drewN | apply below_drew1) | exact HB.out))) : w.heap.size ≤ gb308)); have n4_ := Aside0.mk ((by rw [hg]; exact (below_size (by repeat (first | (with_reducible first | exact HB.out | apply below_alloc | apply pw_below_drewN | apply below_drew1) | exact HB.out))) : w.heap.size ≤ gb308)); clear HO_45; clear HB; have HO_45 := n0_; have HB := n1_; have BK308 := n2_; have GW308 := n3_; have GE308 := n4_; clear n0_ n1_ n2_ n3_ n4_; clear hb hbox hg; have hcz20_0 : w19.cell? ⟨gb308, 0, none⟩ = some (.int .i64 0) := (blk_cell BK308.out 0).trans rfl; have hcz20_1 : w19.cell? ⟨gb308, 1, none⟩ = some (.int .i64 0) := (blk_cell BK308.out 1).trans rfl; have hcz20_2 : w19.cell? ⟨gb308, 2, none⟩ = some (.string (⟨#[]⟩ : ByteArray)) := (blk_cell BK308.out 2).trans rfl; have hfz20_0 := blk_frozen BK308.out 0; have hfz20_1 := blk_frozen BK308.out 1; have hfz20_2 := blk_frozen BK308.out 2))
                      go_ret2
                      exact ⟨by first | rfl | (simp [errW_none, errW_some] <;> rfl) | (simp [*, errW_none, errW_some] <;> rfl), by repeat (first | (with_reducible first | exact HB.out | apply below_alloc | apply pw_below_drewN | apply below_drew1 | refine below_set ?_ GE308.out) | exact HB.out)⟩
                    · rw [if_neg c18] at H
                      have c18b0 : decide (a1 < ((rd_T99 t303 x47_2).f0)) = false := decide_eq_false c18
                      clear c18
                      by_cases c21 : a1 ≤ ((rd_T99 t303 x47_2).f1)
                      · rw [if_pos c21] at H
                        have c21b0 : decide (a1 ≤ ((rd_T99 t303 x47_2).f1)) = true := decide_eq_true c21
                        clear c21
                        by_cases c22 : a2 = 1
                        · rw [if_pos c22] at H
                          have c22b0 : (a2 == 1) = true := beq_iff_eq.mpr c22
                          have c22b1 : (a2 != 1) = false := bne_eq_false_iff_eq.mpr c22
                          clear c22
                          simp only [Option.some.injEq, Prod.mk.injEq] at H
                          obtain ⟨rfl, rfl⟩ := H
                          have p307 : 0 ≤ (x47_2 : Int) := of_decide_eq_true (by first | (with_reducible assumption) | assumption)
                          have q307 : x47_2 < (t303.length : Int) := of_decide_eq_true (by first | (with_reducible assumption) | assumption)
                          obtain ⟨ad307, e307, hx307_0, hx307_1, hx307_2⟩ := at_T99 (Kd.R_reads' HO_45.out).2.2 x47_2 p307 q307
                          cases e307
                          replace p307 := eq_true p307
                          replace q307 := eq_true q307
                          go_wp2_with (first | ((with_reducible refine gate_dst (N := 15) rfl ?_); refine box_event ?hg (N := 15) ?hd (cs := #[.int .i64 0, .int .i64 0, .string (⟨#[]⟩ : ByteArray)]) (t := 99) ?hr ?_; (case hd => rfl); (case hg => rfl); (case hr => first | (go_simp; done) | (go_simp; rfl)); intro gb308 hg w23 hbox hb; have n0_ := Aside0.mk (Kd.R_below (Kd.R_elderB (by (with_reducible repeat (first | apply Kd.R_alloc | apply Kd.R_drewN | apply Kd.R_drew)); exact HO_45.out) gb308 (Nat.le_of_eq hg.symm)) hb); have n1_ := Aside0.mk (below_step (by repeat (first | (with_reducible first | exact HB.out | apply below_alloc | apply pw_below_drewN | apply below_drew1) | exact HB.out)) hb); have n2_ := Aside0.mk (hbox); have n3_ := Aside0.mk ((by rw [hg]; exact (below_size (by repeat (first | (with_reducible first | exact HB.out | apply below_alloc | apply pw_below_drewN | apply below_drew1) | exact HB.out))) : w.heap.size ≤ gb308)); have n4_ := Aside0.mk ((by rw [hg]; exact (below_size (by repeat (first | (with_reducible first | exact HB.out | apply below_alloc | apply pw_below_drewN | apply below_drew1) | exact HB.out))) : w.heap.size ≤ gb308)); clear HO_45; clear HB; have HO_45 := n0_; have HB := n1_; have BK308 := n2_; have GW308 := n3_; have GE308 := n4_; clear n0_ n1_ n2_ n3_ n4_; clear hb hbox hg; have hcz24_0 : w23.cell? ⟨gb308, 0, none⟩ = some (.int .i64 0) := (blk_cell BK308.out 0).trans rfl; have hcz24_1 : w23.cell? ⟨gb308, 1, none⟩ = some (.int .i64 0) := (blk_cell BK308.out 1).trans rfl; have hcz24_2 : w23.cell? ⟨gb308, 2, none⟩ = some (.string (⟨#[]⟩ : ByteArray)) := (blk_cell BK308.out 2).trans rfl; have hfz24_0 := blk_frozen BK308.out 0; have hfz24_1 := blk_frozen BK308.out 1; have hfz24_2 := blk_frozen BK308.out 2))
                          go_ret2
                          exact ⟨by first | rfl | (simp [errW_none, errW_some] <;> rfl) | (simp [*, errW_none, errW_some] <;> rfl), by repeat (first | (with_reducible first | exact HB.out | apply below_alloc | apply pw_below_drewN | apply below_drew1 | refine below_set ?_ GE308.out) | exact HB.out)⟩
                        · rw [if_neg c22] at H
                          have c22b0 : (a2 == 1) = false := beq_eq_false_iff_ne.mpr c22
                          have c22b1 : (a2 != 1) = true := bne_iff_ne.mpr c22
                          simp only [Option.some.injEq, Prod.mk.injEq] at H
                          obtain ⟨rfl, rfl⟩ := H
                          have p307 : 0 ≤ (x47_2 : Int) := of_decide_eq_true (by first | (with_reducible assumption) | assumption)
                          have q307 : x47_2 < (t303.length : Int) := of_decide_eq_true (by first | (with_reducible assumption) | assumption)
                          obtain ⟨ad307, e307, hx307_0, hx307_1, hx307_2⟩ := at_T99 (Kd.R_reads' HO_45.out).2.2 x47_2 p307 q307
                          cases e307
                          replace p307 := eq_true p307
                          replace q307 := eq_true q307
                          go_wp2_with (first | ((with_reducible refine gate_dst (N := 15) rfl ?_); refine box_event ?hg (N := 15) ?hd (cs := #[.int .i64 0, .int .i64 0, .string (⟨#[]⟩ : ByteArray)]) (t := 99) ?hr ?_; (case hd => rfl); (case hg => rfl); (case hr => first | (go_simp; done) | (go_simp; rfl)); intro gb308 hg w25 hbox hb; have n0_ := Aside0.mk (Kd.R_below (Kd.R_elderB (by (with_reducible repeat (first | apply Kd.R_alloc | apply Kd.R_drewN | apply Kd.R_drew)); exact HO_45.out) gb308 (Nat.le_of_eq hg.symm)) hb); have n1_ := Aside0.mk (below_step (by repeat (first | (with_reducible first | exact HB.out | apply below_alloc | apply pw_below_drewN | apply below_drew1) | exact HB.out)) hb); have n2_ := Aside0.mk (hbox); have n3_ := Aside0.mk ((by rw [hg]; exact (below_size (by repeat (first | (with_reducible first | exact HB.out | apply below_alloc | apply pw_below_drewN | apply below_drew1) | exact HB.out))) : w.heap.size ≤ gb308)); have n4_ := Aside0.mk ((by rw [hg]; exact (below_size (by repeat (first | (with_reducible first | exact HB.out | apply below_alloc | apply pw_below_drewN | apply below_drew1) | exact HB.out))) : w.heap.size ≤ gb308)); clear HO_45; clear HB; have HO_45 := n0_; have HB := n1_; have BK308 := n2_; have GW308 := n3_; have GE308 := n4_; clear n0_ n1_ n2_ n3_ n4_; clear hb hbox hg; have hcz26_0 : w25.cell? ⟨gb308, 0, none⟩ = some (.int .i64 0) := (blk_cell BK308.out 0).trans rfl; have hcz26_1 : w25.cell? ⟨gb308, 1, none⟩ = some (.int .i64 0) := (blk_cell BK308.out 1).trans rfl; have hcz26_2 : w25.cell? ⟨gb308, 2, none⟩ = some (.string (⟨#[]⟩ : ByteArray)) := (blk_cell BK308.out 2).trans rfl; have hfz26_0 := blk_frozen BK308.out 0; have hfz26_1 := blk_frozen BK308.out 1; have hfz26_2 := blk_frozen BK308.out 2))
                          go_ret2
                          exact ⟨by first | rfl | (simp [errW_none, errW_some] <;> rfl) | (simp [*, errW_none, errW_some] <;> rfl), by repeat (first | (with_reducible first | exact HB.out | apply below_alloc | apply pw_below_drewN | apply below_drew1 | refine below_set ?_ GE308.out) | exact HB.out)⟩
                      · rw [if_neg c21] at H
                        have c21b0 : decide (a1 ≤ ((rd_T99 t303 x47_2).f1)) = false := decide_eq_false c21
                        clear c21
                        have H' := Aside0.mk H
                        clear H
                        have p307 : 0 ≤ (x47_2 : Int) := of_decide_eq_true (by first | (with_reducible assumption) | assumption)
                        have q307 : x47_2 < (t303.length : Int) := of_decide_eq_true (by first | (with_reducible assumption) | assumption)
                        obtain ⟨ad307, e307, hx307_0, hx307_1, hx307_2⟩ := at_T99 (Kd.R_reads' HO_45.out).2.2 x47_2 p307 q307
                        cases e307
                        replace p307 := eq_true p307
                        replace q307 := eq_true q307
                        go_wp2_with (first | ((with_reducible refine gate_dst (N := 15) rfl ?_); refine box_event ?hg (N := 15) ?hd (cs := #[.int .i64 0, .int .i64 0, .string (⟨#[]⟩ : ByteArray)]) (t := 99) ?hr ?_; (case hd => rfl); (case hg => rfl); (case hr => first | (go_simp; done) | (go_simp; rfl)); intro gb308 hg w27 hbox hb; have n0_ := Aside0.mk (Kd.R_below (Kd.R_elderB (by (with_reducible repeat (first | apply Kd.R_alloc | apply Kd.R_drewN | apply Kd.R_drew)); exact HO_45.out) gb308 (Nat.le_of_eq hg.symm)) hb); have n1_ := Aside0.mk (below_step (by repeat (first | (with_reducible first | exact HB.out | apply below_alloc | apply pw_below_drewN | apply below_drew1) | exact HB.out)) hb); have n2_ := Aside0.mk (hbox); have n3_ := Aside0.mk ((by rw [hg]; exact (below_size (by repeat (first | (with_reducible first | exact HB.out | apply below_alloc | apply pw_below_drewN | apply below_drew1) | exact HB.out))) : w.heap.size ≤ gb308)); have n4_ := Aside0.mk ((by rw [hg]; exact (below_size (by repeat (first | (with_reducible first | exact HB.out | apply below_alloc | apply pw_below_drewN | apply below_drew1) | exact HB.out))) : w.heap.size ≤ gb308)); clear HO_45; clear HB; have HO_45 := n0_; have HB := n1_; have BK308 := n2_; have GW308 := n3_; have GE308 := n4_; clear n0_ n1_ n2_ n3_ n4_; clear hb hbox hg; have hcz28_0 : w27.cell? ⟨gb308, 0, none⟩ = some (.int .i64 0) := (blk_cell BK308.out 0).trans rfl; have hcz28_1 : w27.cell? ⟨gb308, 1, none⟩ = some (.int .i64 0) := (blk_cell BK308.out 1).trans rfl; have hcz28_2 : w27.cell? ⟨gb308, 2, none⟩ = some (.string (⟨#[]⟩ : ByteArray)) := (blk_cell BK308.out 2).trans rfl; have hfz28_0 := blk_frozen BK308.out 0; have hfz28_1 := blk_frozen BK308.out 1; have hfz28_2 := blk_frozen BK308.out 2))
                        go_roundg k2
                        case measure => have := HJ5.out; have := HK2.out; omega
                        case rel => exact ⟨(wrap64 (x13_2 + (wrap64 ((((rd_T99 t303 x47_2).f2).size : Int) - (wrap64 (((rd_T99 t303 x47_2).f1) - ((rd_T99 t303 x47_2).f0))))))), (wrap64 (x47_2 + 1)), (by first | rfl | (simp; done) | (simp [*]; done)), (by first | rfl | (simp; done) | (simp [*]; done)), H', ⟨by have := HJ5.out; have := HK2.out; omega⟩, ⟨by (with_reducible repeat (first | apply Kd.R_alloc | apply Kd.R_drewN | apply Kd.R_drew)); exact Kd.R_mono (Kd.R_far (p := ⟨gb308, 2, none⟩) (Kd.R_far (p := ⟨gb308, 1, none⟩) (Kd.R_far (p := ⟨gb308, 0, none⟩) (Kd.R_mono HO_45.out (fun k_ hk => (⟨hk, hk.2⟩ : _ ∧ k_ ≠ gb308))) (fun _ hk => hk.2) (.int .i64 ((rd_T99 t303 x47_2).f0))) (fun _ hk => hk.2) (.int .i64 ((rd_T99 t303 x47_2).f1))) (fun _ hk => hk.2) (.string ((rd_T99 t303 x47_2).f2))) (fun _ hk => trivial)⟩, ⟨by repeat (first | (with_reducible first | exact HB.out | apply below_alloc | apply pw_below_drewN | apply below_drew1 | refine below_set ?_ GE308.out) | exact HB.out)⟩⟩
                  · rw [if_neg c17] at H
                    exact absurd H (by simp)
                · rw [if_neg c16] at H
                  exact absurd H (by simp)
              · rw [if_neg c15] at H
                have c15b0 : decide (x47_2 < (t303.length : Int)) = false := decide_eq_false c15
                clear c15
                simp only [Option.some.injEq, Prod.mk.injEq] at H
                obtain ⟨rfl, rfl⟩ := H
                go_wp2
                go_ret2
                exact ⟨by first | rfl | (simp [errW_none, errW_some] <;> rfl) | (simp [*, errW_none, errW_some] <;> rfl), by repeat (first | (with_reducible first | exact HB.out | apply below_alloc | apply pw_below_drewN | apply below_drew1) | exact HB.out)⟩
  · rw [if_neg c5] at H
    have c5b0 : (t302 == 0) = false := beq_eq_false_iff_ne.mpr c5
    have c5b1 : (t302 != 0) = true := bne_iff_ne.mpr c5
    simp only [Option.some.injEq, Prod.mk.injEq] at H
    obtain ⟨rfl, rfl⟩ := H
    go_enter Try.func25, Try.ntmps25
    go_wp2_with (first | ((with_reducible refine gate_callee (f := 26) rfl ?_); refine goesL_ (some 18) rfl rfl Try.func26 (by kernel_rfl) rfl #[.slice A0 l0.length c0] rfl (by (try simp only [List.map_toArray, List.map_cons, List.map_nil]); first | done | rfl | (simp only [List.length_drop, List.length_take]; rfl)) ?_; (with_reducible refine (delta_Lens.calls k _ _ l0 t300 t301 t302 _ ?side1 ?side2 A4.out).mono ?_); (case side1 => repeat (first | exact HR0.out | (with_reducible refine Kd.C_alloc ?_ _) | (with_reducible refine Kd.C_drewN ?_ _) | (with_reducible refine Kd.C_drew ?_))); (case side2 => exact HC0.out); rintro e w29 ⟨rfl, hb⟩; refine ⟨_, rfl, ?_⟩; have n0_ := Aside0.mk (below_step (by repeat (first | (with_reducible first | exact HB.out | apply below_alloc | apply pw_below_drewN | apply below_drew1) | exact HB.out)) hb); clear HB; have HB := n0_; clear n0_; (try clear hb); (try clear hb2); (try clear hk); (try clear hi)))
    go_ret2
    exact ⟨by first | rfl | (simp [errW_none, errW_some] <;> rfl) | (simp [*, errW_none, errW_some] <;> rfl), by repeat (first | (with_reducible first | exact HB.out | apply below_alloc | apply pw_below_drewN | apply below_drew1) | exact HB.out)⟩

end Go.Proofs.Ytjladdjpnicldaa.PA
