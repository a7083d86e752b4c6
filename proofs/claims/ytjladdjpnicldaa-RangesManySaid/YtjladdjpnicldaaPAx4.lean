-- printed by wip/print_given.py (a program of this session over the kit's printer); not trusted: Lean checks it
import Derived.Test.YtjladdjpnicldaaPAx0
namespace Go.Proofs.Ytjladdjpnicldaa.PA
open Go.RowKit Go.Proofs.YtjladdjpnicldaaW.PrintWords Go.Proofs.YtjladdjpnicldaaW.PrintLast Go.Proofs.YtjladdjpnicldaaW.PrintMore
attribute [local go_sem] max2_int min2_int max_two min_two max_three min_three max_four min_four   -- for this text's walks alone
set_option linter.unusedVariables false
set_option linter.unusedSimpArgs false

/-! ### delta_lens: function 46 -/
mutual
def delta_lens.l0 : Nat → Int → Int → List (S56) → Int → Int → Option (Int × Int × Bool)
  | 0, _, _, _, _, _ => none
  | k + 1, x2, x3, x8, x9, x10 => if x10 < x9 then (if 0 ≤ x10 then (if x10 < (x8.length : Int) then (if ((rd_T56 x8 x10).f0) = 2 then (delta_lens.j1 k x2 x3 (((rd_T56 x8 x10).f2).size : Int) x8 x9 x10 ((rd_T56 x8 x10).f0) ((rd_T56 x8 x10).f1) ((rd_T56 x8 x10).f2)) else (delta_lens.j1 k x2 x3 ((rd_T56 x8 x10).f1) x8 x9 x10 ((rd_T56 x8 x10).f0) ((rd_T56 x8 x10).f1) ((rd_T56 x8 x10).f2))) else (none)) else (none)) else (some (x2, x3, true))
def delta_lens.j1 : Nat → Int → Int → Int → List (S56) → Int → Int → Int → Int → ByteArray → Option (Int × Int × Bool)
  | 0, _, _, _, _, _, _, _, _, _ => none
  | k + 1, x2, x3, x7, x8, x9, x10, x103000, x103001, x103002 => if x7 > 268435456 then (some (0, 0, false)) else (if x103000 = 2 then (delta_lens.j2 k x2 x3 x7 x8 x9 x10 x103000 x103001 x103002) else (delta_lens.j2 k (wrap64 (x2 + x7)) x3 x7 x8 x9 x10 x103000 x103001 x103002))
def delta_lens.j2 : Nat → Int → Int → Int → List (S56) → Int → Int → Int → Int → ByteArray → Option (Int × Int × Bool)
  | 0, _, _, _, _, _, _, _, _, _ => none
  | k + 1, x2, x3, x7, x8, x9, x10, x103000, x103001, x103002 => if x103000 = 3 then (if x2 > 268435456 then (some (0, 0, false)) else (if x3 > 268435456 then (some (0, 0, false)) else (delta_lens.l0 k x2 x3 x8 x9 (wrap64 (x10 + 1))))) else (if x2 > 268435456 then (some (0, 0, false)) else (if (wrap64 (x3 + x7)) > 268435456 then (some (0, 0, false)) else (delta_lens.l0 k x2 (wrap64 (x3 + x7)) x8 x9 (wrap64 (x10 + 1)))))
end
def delta_lens.f (k : Nat) (l0 : List (S56)) : Option (Int × Int × Bool) := delta_lens.l0 k 0 0 l0 (l0.length : Int) 0
theorem delta_lens.mono_l : ∀ k, (∀ y0 y1 y2 y3 y4, LeO (delta_lens.l0 k y0 y1 y2 y3 y4) (delta_lens.l0 (k + 1) y0 y1 y2 y3 y4)) ∧ (∀ y0 y1 y2 y3 y4 y5 y6 y7 y8, LeO (delta_lens.j1 k y0 y1 y2 y3 y4 y5 y6 y7 y8) (delta_lens.j1 (k + 1) y0 y1 y2 y3 y4 y5 y6 y7 y8)) ∧ (∀ y0 y1 y2 y3 y4 y5 y6 y7 y8, LeO (delta_lens.j2 k y0 y1 y2 y3 y4 y5 y6 y7 y8) (delta_lens.j2 (k + 1) y0 y1 y2 y3 y4 y5 y6 y7 y8))
  | 0 => ⟨fun _ _ _ _ _ r h => by simp [delta_lens.l0] at h, fun _ _ _ _ _ _ _ _ _ r h => by simp [delta_lens.j1] at h, fun _ _ _ _ _ _ _ _ _ r h => by simp [delta_lens.j2] at h⟩
  | k + 1 => by
    obtain ⟨ih0, ih1, ih2⟩ := delta_lens.mono_l k
    refine ⟨?_, ?_, ?_⟩
    · intro y0 y1 y2 y3 y4
      unfold delta_lens.l0
      repeat' first
      | (with_reducible exact ih0 _ _ _ _ _)
      | (with_reducible exact ih1 _ _ _ _ _ _ _ _ _)
      | (with_reducible exact ih2 _ _ _ _ _ _ _ _ _)
      | (with_reducible exact LeO.refl _)
      | (with_reducible exact LeO.none _)
      | (with_reducible refine LeO.ite ?_ ?_)
      | (with_reducible refine LeO.bind ?_ (fun _ => ?_))
      | exact ih0 _ _ _ _ _
      | exact ih1 _ _ _ _ _ _ _ _ _
      | exact ih2 _ _ _ _ _ _ _ _ _
      | exact LeO.none _
      | refine LeO.ite ?_ ?_
      | refine LeO.bind ?_ (fun _ => ?_)
    · intro y0 y1 y2 y3 y4 y5 y6 y7 y8
      unfold delta_lens.j1
      repeat' first
      | (with_reducible exact ih0 _ _ _ _ _)
      | (with_reducible exact ih1 _ _ _ _ _ _ _ _ _)
      | (with_reducible exact ih2 _ _ _ _ _ _ _ _ _)
      | (with_reducible exact LeO.refl _)
      | (with_reducible exact LeO.none _)
      | (with_reducible refine LeO.ite ?_ ?_)
      | (with_reducible refine LeO.bind ?_ (fun _ => ?_))
      | exact ih0 _ _ _ _ _
      | exact ih1 _ _ _ _ _ _ _ _ _
      | exact ih2 _ _ _ _ _ _ _ _ _
      | exact LeO.none _
      | refine LeO.ite ?_ ?_
      | refine LeO.bind ?_ (fun _ => ?_)
    · intro y0 y1 y2 y3 y4 y5 y6 y7 y8
      unfold delta_lens.j2
      repeat' first
      | (with_reducible exact ih0 _ _ _ _ _)
      | (with_reducible exact ih1 _ _ _ _ _ _ _ _ _)
      | (with_reducible exact ih2 _ _ _ _ _ _ _ _ _)
      | (with_reducible exact LeO.refl _)
      | (with_reducible exact LeO.none _)
      | (with_reducible refine LeO.ite ?_ ?_)
      | (with_reducible refine LeO.bind ?_ (fun _ => ?_))
      | exact ih0 _ _ _ _ _
      | exact ih1 _ _ _ _ _ _ _ _ _
      | exact ih2 _ _ _ _ _ _ _ _ _
      | exact LeO.none _
      | refine LeO.ite ?_ ?_
      | refine LeO.bind ?_ (fun _ => ?_)
theorem delta_lens.mono : ∀ a0 k, LeO (delta_lens.f k a0) (delta_lens.f (k + 1) a0) := by
  intro a0 k
  obtain ⟨ih0, ih1, ih2⟩ := delta_lens.mono_l k
  unfold delta_lens.f
  repeat' first
      | (with_reducible exact ih0 _ _ _ _ _)
      | (with_reducible exact ih1 _ _ _ _ _ _ _ _ _)
      | (with_reducible exact ih2 _ _ _ _ _ _ _ _ _)
      | (with_reducible exact LeO.refl _)
      | (with_reducible exact LeO.none _)
      | (with_reducible refine LeO.ite ?_ ?_)
      | (with_reducible refine LeO.bind ?_ (fun _ => ?_))
      | exact ih0 _ _ _ _ _
      | exact ih1 _ _ _ _ _ _ _ _ _
      | exact ih2 _ _ _ _ _ _ _ _ _
      | exact LeO.none _
      | refine LeO.ite ?_ ?_
      | refine LeO.bind ?_ (fun _ => ?_)
set_option maxHeartbeats 8000000 in
set_option maxRecDepth 100000 in
theorem delta_lens.calls (k : Nat) (A0 : Option Addr) (c0 : Nat) (l0 : List (S56)) (r1 : Int) (r2 : Int) (r3 : Bool) (w : World) (hr0 : Kd.C k56 w A0 l0.length l0) (hc0 : l0.length ≤ c0) (h : delta_lens.f k l0 = some (r1, r2, r3)) :
    Calls Try.prog 46 #[.slice A0 l0.length c0] w fun e w' => e = .returned (.tuple #[.int .i64 r1, .int .i64 r2, .bool r3]) ∧ Below w.heap.size w w' := by
  have hu56 := Try.underlying56
  have HR0 := Aside0.mk hr0
  have HC0 := Aside0.mk hc0
  clear hr0 hc0
  have HB := Aside0.mk (Below.refl w.heap.size w)
  have H : (delta_lens.l0 k 0 0 l0 (l0.length : Int) 0) = some (r1, r2, r3) := h
  clear h
  have H' := Aside0.mk H
  clear H
  go_enter Try.func46, Try.ntmps46
  go_wp2
  go_loopg [2, 3, 10] k (fun kq v2 v3 v10 w' => ∃ (x2_1 : Int) (x3_1 : Int) (x10_1 : Int), v2 = .int .i64 x2_1 ∧ v3 = .int .i64 x3_1 ∧ v10 = .int .i64 x10_1 ∧ Aside0 (delta_lens.l0 kq x2_1 x3_1 l0 (l0.length : Int) x10_1 = some (r1, r2, r3)) ∧ Aside0 (kq ≤ k) ∧ Aside0 (Below w.heap.size w w'))
  case atStart => exact ⟨(0), (0), (0), (by first | rfl | (simp; done) | (simp [*]; done)), (by first | rfl | (simp; done) | (simp [*]; done)), (by first | rfl | (simp; done) | (simp [*]; done)), H', ⟨Nat.le_refl _⟩, ⟨by repeat (first | (with_reducible first | exact HB.out | apply below_alloc | apply pw_below_drewN | apply below_drew1) | exact HB.out)⟩⟩
  case round =>
    clear H'
    obtain ⟨x2_1, x3_1, x10_1, rfl, rfl, rfl, HA, HK1, HB⟩ := hrel
    cases gk with
    | zero => exact absurd HA.out (by simp [delta_lens.l0])
    | succ k1 =>
      have H := HA.out
      clear HA
      simp only [delta_lens.l0] at H
      by_cases c2 : x10_1 < (l0.length : Int)
      · rw [if_pos c2] at H
        have c2b0 : decide (x10_1 < (l0.length : Int)) = true := decide_eq_true c2
        clear c2
        by_cases c3 : 0 ≤ x10_1
        · rw [if_pos c3] at H
          have c3b0 : decide (0 ≤ x10_1) = true := decide_eq_true c3
          clear c3
          by_cases c4 : x10_1 < (l0.length : Int)
          · rw [if_pos c4] at H
            have c4b0 : decide (x10_1 < (l0.length : Int)) = true := decide_eq_true c4
            clear c4
            have HC5 := Aside0.mk H
            clear H
            have p101 : 0 ≤ (x10_1 : Int) := of_decide_eq_true (by first | (with_reducible assumption) | assumption)
            have q101 : x10_1 < (l0.length : Int) := of_decide_eq_true (by first | (with_reducible assumption) | assumption)
            obtain ⟨ad101, e101, hx101_0, hx101_1, hx101_2⟩ := at_T56 HR0.out x10_1 p101 q101
            cases e101
            replace hx101_0 := (HB.out.cell (World.block_lt_of_cell? w _ hx101_0)).trans hx101_0
            replace hx101_1 := (HB.out.cell (World.block_lt_of_cell? w _ hx101_1)).trans hx101_1
            replace hx101_2 := (HB.out.cell (World.block_lt_of_cell? w _ hx101_2)).trans hx101_2
            replace p101 := eq_true p101
            replace q101 := eq_true q101
            go_upto_if 18 with (first | ((with_reducible refine gate_dst (N := 6) rfl ?_); refine box_event ?hg (N := 6) ?hd (cs := #[.int .i64 0, .int .i64 0, .string (⟨#[]⟩ : ByteArray)]) (t := 56) ?hr ?_; (case hd => rfl); (case hg => rfl); (case hr => first | (go_simp; done) | (go_simp; rfl)); intro gb102 hg w6 hbox hb; have n0_ := Aside0.mk (below_step (by repeat (first | (with_reducible first | exact HB.out | apply below_alloc | apply pw_below_drewN | apply below_drew1) | exact HB.out)) hb); have n1_ := Aside0.mk (hbox); have n2_ := Aside0.mk ((by rw [hg]; exact (below_size (by repeat (first | (with_reducible first | exact HB.out | apply below_alloc | apply pw_below_drewN | apply below_drew1) | exact HB.out))) : w.heap.size ≤ gb102)); have n3_ := Aside0.mk ((by rw [hg]; exact (below_size (by repeat (first | (with_reducible first | exact HB.out | apply below_alloc | apply pw_below_drewN | apply below_drew1) | exact HB.out))) : w.heap.size ≤ gb102)); clear HB; have HB := n0_; have BK102 := n1_; have GW102 := n2_; have GE102 := n3_; clear n0_ n1_ n2_ n3_; clear hb hbox hg; have hcz7_0 : w6.cell? ⟨gb102, 0, none⟩ = some (.int .i64 0) := (blk_cell BK102.out 0).trans rfl; have hcz7_1 : w6.cell? ⟨gb102, 1, none⟩ = some (.int .i64 0) := (blk_cell BK102.out 1).trans rfl; have hcz7_2 : w6.cell? ⟨gb102, 2, none⟩ = some (.string (⟨#[]⟩ : ByteArray)) := (blk_cell BK102.out 2).trans rfl; have hfz7_0 := blk_frozen BK102.out 0; have hfz7_1 := blk_frozen BK102.out 1; have hfz7_2 := blk_frozen BK102.out 2))
            (try simp only [Act.put, List.setIfInBounds_toArray, List.set_cons_zero, List.set_cons_succ])
            go_cut [7] (fun v7 wc => ∃ (kq : Nat) (x7_4 : Int), v7 = .int .i64 x7_4 ∧ Aside0 (delta_lens.j1 kq x2_1 x3_1 x7_4 l0 (l0.length : Int) x10_1 ((rd_T56 l0 x10_1).f0) ((rd_T56 l0 x10_1).f1) ((rd_T56 l0 x10_1).f2) = some (r1, r2, r3)) ∧ Aside0 (kq ≤ k1) ∧ Aside0 (wc.heap[gb102]? = some (.cells #[.int .i64 ((rd_T56 l0 x10_1).f0), .int .i64 ((rd_T56 l0 x10_1).f1), .string ((rd_T56 l0 x10_1).f2)] 56 (0, 0))) ∧ Aside0 (Below w.heap.size w wc))
            case first =>
              have H := HC5.out
              clear HC5
              by_cases c8 : ((rd_T56 l0 x10_1).f0) = 2
              · rw [if_pos c8] at H
                have c8b0 : (((rd_T56 l0 x10_1).f0) == 2) = true := beq_iff_eq.mpr c8
                have c8b1 : (((rd_T56 l0 x10_1).f0) != 2) = false := bne_eq_false_iff_eq.mpr c8
                clear c8
                (first | rw [c8b0] | (simp only [i64_w, i32_w]; rw [c8b0]) | skip)
                have H' := Aside0.mk H
                clear H
                have hcz9_0 : w6.cell? ⟨gb102, 0, none⟩ = some (.int .i64 0) := (blk_cell BK102.out 0).trans rfl
                have hcz9_1 : w6.cell? ⟨gb102, 1, none⟩ = some (.int .i64 0) := (blk_cell BK102.out 1).trans rfl
                have hcz9_2 : w6.cell? ⟨gb102, 2, none⟩ = some (.string (⟨#[]⟩ : ByteArray)) := (blk_cell BK102.out 2).trans rfl
                have hfz9_0 := blk_frozen BK102.out 0
                have hfz9_1 := blk_frozen BK102.out 1
                have hfz9_2 := blk_frozen BK102.out 2
                go_wp2
                go_meet
                case rel => exact ⟨_, ((((rd_T56 l0 x10_1).f2).size : Int)), (by first | rfl | (simp; done) | (simp [*]; done)), H', ⟨by have := HK1.out; first | omega | exact Nat.le_refl _⟩, ⟨by (with_reducible repeat (first | refine blk_drewN ?_ _ | refine blk_drew ?_ | refine blk_alloc ?_ _)); refine blk_put (cs := #[.int .i64 ((rd_T56 l0 x10_1).f0), .int .i64 ((rd_T56 l0 x10_1).f1), .string (⟨#[]⟩ : ByteArray)]) ?_ 2 _ rfl; (with_reducible repeat (first | refine blk_drewN ?_ _ | refine blk_drew ?_ | refine blk_alloc ?_ _)); refine blk_put (cs := #[.int .i64 ((rd_T56 l0 x10_1).f0), .int .i64 0, .string (⟨#[]⟩ : ByteArray)]) ?_ 1 _ rfl; (with_reducible repeat (first | refine blk_drewN ?_ _ | refine blk_drew ?_ | refine blk_alloc ?_ _)); refine blk_put (cs := #[.int .i64 0, .int .i64 0, .string (⟨#[]⟩ : ByteArray)]) ?_ 0 _ rfl; (with_reducible repeat (first | refine blk_drewN ?_ _ | refine blk_drew ?_ | refine blk_alloc ?_ _)); exact BK102.out⟩, ⟨by repeat (first | (with_reducible first | exact HB.out | apply below_alloc | apply pw_below_drewN | apply below_drew1 | refine below_set ?_ GE102.out) | exact HB.out)⟩⟩
              · rw [if_neg c8] at H
                have c8b0 : (((rd_T56 l0 x10_1).f0) == 2) = false := beq_eq_false_iff_ne.mpr c8
                have c8b1 : (((rd_T56 l0 x10_1).f0) != 2) = true := bne_iff_ne.mpr c8
                (first | rw [c8b0] | (simp only [i64_w, i32_w]; rw [c8b0]) | skip)
                have H' := Aside0.mk H
                clear H
                go_wp2
                go_meet
                case rel => exact ⟨_, ((rd_T56 l0 x10_1).f1), (by first | rfl | (simp; done) | (simp [*]; done)), H', ⟨by have := HK1.out; first | omega | exact Nat.le_refl _⟩, ⟨by (with_reducible repeat (first | refine blk_drewN ?_ _ | refine blk_drew ?_ | refine blk_alloc ?_ _)); refine blk_put (cs := #[.int .i64 ((rd_T56 l0 x10_1).f0), .int .i64 ((rd_T56 l0 x10_1).f1), .string (⟨#[]⟩ : ByteArray)]) ?_ 2 _ rfl; (with_reducible repeat (first | refine blk_drewN ?_ _ | refine blk_drew ?_ | refine blk_alloc ?_ _)); refine blk_put (cs := #[.int .i64 ((rd_T56 l0 x10_1).f0), .int .i64 0, .string (⟨#[]⟩ : ByteArray)]) ?_ 1 _ rfl; (with_reducible repeat (first | refine blk_drewN ?_ _ | refine blk_drew ?_ | refine blk_alloc ?_ _)); refine blk_put (cs := #[.int .i64 0, .int .i64 0, .string (⟨#[]⟩ : ByteArray)]) ?_ 0 _ rfl; (with_reducible repeat (first | refine blk_drewN ?_ _ | refine blk_drew ?_ | refine blk_alloc ?_ _)); exact BK102.out⟩, ⟨by repeat (first | (with_reducible first | exact HB.out | apply below_alloc | apply pw_below_drewN | apply below_drew1 | refine below_set ?_ GE102.out) | exact HB.out)⟩⟩
            case rest =>
              clear HC5
              try clear p1
              try clear q1
              try clear hx1
              try clear c2
              try clear c2b0
              try clear p2
              try clear c3
              try clear c3b0
              try clear c4
              try clear c4b0
              try clear c8
              try clear c8b0
              try clear c8b1
              try clear hcz7_0
              try clear hcz7_1
              try clear hcz7_2
              try clear hcz9_0
              try clear hcz9_1
              try clear hcz9_2
              try clear hfz7_0
              try clear hfz7_1
              try clear hfz7_2
              try clear hfz9_0
              try clear hfz9_1
              try clear hfz9_2
              try clear hx101_0
              try clear hx101_1
              try clear hx101_2
              try clear p101
              try clear q101
              obtain ⟨kq, x7_4, rfl, HA, HJ4, BK102, HB⟩ := hcut
              cases kq with
              | zero => exact absurd HA.out (by simp [delta_lens.j1])
              | succ kj4 =>
                have H := HA.out
                clear HA
                simp only [delta_lens.j1] at H
                by_cases c10 : x7_4 > 268435456
                · rw [if_pos c10] at H
                  have c10b0 : decide (268435456 < x7_4) = true := decide_eq_true c10
                  clear c10
                  simp only [Option.some.injEq, Prod.mk.injEq] at H
                  obtain ⟨rfl, rfl, rfl⟩ := H
                  go_wp2
                  go_ret3
                  exact ⟨by first | rfl | (simp [errW_none, errW_some] <;> rfl) | (simp [*, errW_none, errW_some] <;> rfl), by repeat (first | (with_reducible first | exact HB.out | apply below_alloc | apply pw_below_drewN | apply below_drew1 | refine below_set ?_ GE102.out) | exact HB.out)⟩
                · rw [if_neg c10] at H
                  have c10b0 : decide (268435456 < x7_4) = false := decide_eq_false c10
                  clear c10
                  have HC11 := Aside0.mk H
                  clear H
                  have hcz12_0 : wc.cell? ⟨gb102, 0, none⟩ = some (.int .i64 ((rd_T56 l0 x10_1).f0)) := (blk_cell BK102.out 0).trans rfl
                  have hcz12_1 : wc.cell? ⟨gb102, 1, none⟩ = some (.int .i64 ((rd_T56 l0 x10_1).f1)) := (blk_cell BK102.out 1).trans rfl
                  have hcz12_2 : wc.cell? ⟨gb102, 2, none⟩ = some (.string ((rd_T56 l0 x10_1).f2)) := (blk_cell BK102.out 2).trans rfl
                  have hfz12_0 := blk_frozen BK102.out 0
                  have hfz12_1 := blk_frozen BK102.out 1
                  have hfz12_2 := blk_frozen BK102.out 2
                  go_upto_if 26 with (fail)
                  go_cut [2] (fun v2 wc => ∃ (kq : Nat) (x2_10 : Int), v2 = .int .i64 x2_10 ∧ Aside0 (delta_lens.j2 kq x2_10 x3_1 x7_4 l0 (l0.length : Int) x10_1 ((rd_T56 l0 x10_1).f0) ((rd_T56 l0 x10_1).f1) ((rd_T56 l0 x10_1).f2) = some (r1, r2, r3)) ∧ Aside0 (kq ≤ kj4) ∧ Aside0 (wc.heap[gb102]? = some (.cells #[.int .i64 ((rd_T56 l0 x10_1).f0), .int .i64 ((rd_T56 l0 x10_1).f1), .string ((rd_T56 l0 x10_1).f2)] 56 (0, 0))) ∧ Aside0 (Below w.heap.size w wc))
                  case first =>
                    have H := HC11.out
                    clear HC11
                    by_cases c13 : ((rd_T56 l0 x10_1).f0) = 2
                    · rw [if_pos c13] at H
                      have c13b0 : (((rd_T56 l0 x10_1).f0) == 2) = true := beq_iff_eq.mpr c13
                      have c13b1 : (((rd_T56 l0 x10_1).f0) != 2) = false := bne_eq_false_iff_eq.mpr c13
                      clear c13
                      (first | rw [c13b0] | (simp only [i64_w, i32_w]; rw [c13b0]) | skip)
                      have H' := Aside0.mk H
                      clear H
                      go_wp2
                      go_meet
                      case rel => exact ⟨_, (x2_1), (by first | rfl | (simp; done) | (simp [*]; done)), H', ⟨by have := HK1.out; have := HJ4.out; first | omega | exact Nat.le_refl _⟩, ⟨by (with_reducible repeat (first | refine blk_drewN ?_ _ | refine blk_drew ?_ | refine blk_alloc ?_ _)); exact BK102.out⟩, ⟨by repeat (first | (with_reducible first | exact HB.out | apply below_alloc | apply pw_below_drewN | apply below_drew1 | refine below_set ?_ GE102.out) | exact HB.out)⟩⟩
                    · rw [if_neg c13] at H
                      have c13b0 : (((rd_T56 l0 x10_1).f0) == 2) = false := beq_eq_false_iff_ne.mpr c13
                      have c13b1 : (((rd_T56 l0 x10_1).f0) != 2) = true := bne_iff_ne.mpr c13
                      (first | rw [c13b0] | (simp only [i64_w, i32_w]; rw [c13b0]) | skip)
                      have H' := Aside0.mk H
                      clear H
                      go_wp2
                      go_meet
                      case rel => exact ⟨_, (wrap64 (x2_1 + x7_4)), (by first | rfl | (simp; done) | (simp [*]; done)), H', ⟨by have := HK1.out; have := HJ4.out; first | omega | exact Nat.le_refl _⟩, ⟨by (with_reducible repeat (first | refine blk_drewN ?_ _ | refine blk_drew ?_ | refine blk_alloc ?_ _)); exact BK102.out⟩, ⟨by repeat (first | (with_reducible first | exact HB.out | apply below_alloc | apply pw_below_drewN | apply below_drew1 | refine below_set ?_ GE102.out) | exact HB.out)⟩⟩
                  case rest =>
                    clear HC11
                    try clear c1
                    try clear p1
                    try clear q1
                    try clear hx1
                    try clear c2
                    try clear c2b0
                    try clear p2
                    try clear c3
                    try clear c3b0
                    try clear c4
                    try clear c4b0
                    try clear p6
                    try clear c8
                    try clear c8b0
                    try clear c8b1
                    try clear c10
                    try clear c10b0
                    try clear p10
                    try clear q10
                    try clear hx10
                    try clear c13
                    try clear c13b0
                    try clear c13b1
                    try clear hcz12_0
                    try clear hcz12_1
                    try clear hcz12_2
                    try clear hcz7_0
                    try clear hcz7_1
                    try clear hcz7_2
                    try clear hcz9_0
                    try clear hcz9_1
                    try clear hcz9_2
                    try clear hfz12_0
                    try clear hfz12_1
                    try clear hfz12_2
                    try clear hfz7_0
                    try clear hfz7_1
                    try clear hfz7_2
                    try clear hfz9_0
                    try clear hfz9_1
                    try clear hfz9_2
                    try clear hx101_0
                    try clear hx101_1
                    try clear hx101_2
                    try clear p1
                    try clear p101
                    try clear p2
                    try clear q1
                    try clear q101
                    obtain ⟨kq, x2_10, rfl, HA, HJ10, BK102, HB⟩ := hcut
                    cases kq with
                    | zero => exact absurd HA.out (by simp [delta_lens.j2])
                    | succ kj10 =>
                      have H := HA.out
                      clear HA
                      simp only [delta_lens.j2] at H
                      by_cases c14 : ((rd_T56 l0 x10_1).f0) = 3
                      · rw [if_pos c14] at H
                        have c14b0 : (((rd_T56 l0 x10_1).f0) == 3) = true := beq_iff_eq.mpr c14
                        have c14b1 : (((rd_T56 l0 x10_1).f0) != 3) = false := bne_eq_false_iff_eq.mpr c14
                        clear c14
                        by_cases c15 : x2_10 > 268435456
                        · rw [if_pos c15] at H
                          have c15b0 : decide (268435456 < x2_10) = true := decide_eq_true c15
                          clear c15
                          simp only [Option.some.injEq, Prod.mk.injEq] at H
                          obtain ⟨rfl, rfl, rfl⟩ := H
                          have hcz16_0 : wc.cell? ⟨gb102, 0, none⟩ = some (.int .i64 ((rd_T56 l0 x10_1).f0)) := (blk_cell BK102.out 0).trans rfl
                          have hcz16_1 : wc.cell? ⟨gb102, 1, none⟩ = some (.int .i64 ((rd_T56 l0 x10_1).f1)) := (blk_cell BK102.out 1).trans rfl
                          have hcz16_2 : wc.cell? ⟨gb102, 2, none⟩ = some (.string ((rd_T56 l0 x10_1).f2)) := (blk_cell BK102.out 2).trans rfl
                          have hfz16_0 := blk_frozen BK102.out 0
                          have hfz16_1 := blk_frozen BK102.out 1
                          have hfz16_2 := blk_frozen BK102.out 2
                          go_wp2
                          go_ret3
                          exact ⟨by first | rfl | (simp [errW_none, errW_some] <;> rfl) | (simp [*, errW_none, errW_some] <;> rfl), by repeat (first | (with_reducible first | exact HB.out | apply below_alloc | apply pw_below_drewN | apply below_drew1 | refine below_set ?_ GE102.out) | exact HB.out)⟩
                        · rw [if_neg c15] at H
                          have c15b0 : decide (268435456 < x2_10) = false := decide_eq_false c15
                          clear c15
                          by_cases c17 : x3_1 > 268435456
                          · rw [if_pos c17] at H
                            have c17b0 : decide (268435456 < x3_1) = true := decide_eq_true c17
                            clear c17
                            simp only [Option.some.injEq, Prod.mk.injEq] at H
                            obtain ⟨rfl, rfl, rfl⟩ := H
                            have hcz18_0 : wc.cell? ⟨gb102, 0, none⟩ = some (.int .i64 ((rd_T56 l0 x10_1).f0)) := (blk_cell BK102.out 0).trans rfl
                            have hcz18_1 : wc.cell? ⟨gb102, 1, none⟩ = some (.int .i64 ((rd_T56 l0 x10_1).f1)) := (blk_cell BK102.out 1).trans rfl
                            have hcz18_2 : wc.cell? ⟨gb102, 2, none⟩ = some (.string ((rd_T56 l0 x10_1).f2)) := (blk_cell BK102.out 2).trans rfl
                            have hfz18_0 := blk_frozen BK102.out 0
                            have hfz18_1 := blk_frozen BK102.out 1
                            have hfz18_2 := blk_frozen BK102.out 2
                            go_wp2
                            go_ret3
                            exact ⟨by first | rfl | (simp [errW_none, errW_some] <;> rfl) | (simp [*, errW_none, errW_some] <;> rfl), by repeat (first | (with_reducible first | exact HB.out | apply below_alloc | apply pw_below_drewN | apply below_drew1 | refine below_set ?_ GE102.out) | exact HB.out)⟩
                          · rw [if_neg c17] at H
                            have c17b0 : decide (268435456 < x3_1) = false := decide_eq_false c17
                            clear c17
                            have H' := Aside0.mk H
                            clear H
                            have hcz19_0 : wc.cell? ⟨gb102, 0, none⟩ = some (.int .i64 ((rd_T56 l0 x10_1).f0)) := (blk_cell BK102.out 0).trans rfl
                            have hcz19_1 : wc.cell? ⟨gb102, 1, none⟩ = some (.int .i64 ((rd_T56 l0 x10_1).f1)) := (blk_cell BK102.out 1).trans rfl
                            have hcz19_2 : wc.cell? ⟨gb102, 2, none⟩ = some (.string ((rd_T56 l0 x10_1).f2)) := (blk_cell BK102.out 2).trans rfl
                            have hfz19_0 := blk_frozen BK102.out 0
                            have hfz19_1 := blk_frozen BK102.out 1
                            have hfz19_2 := blk_frozen BK102.out 2
                            go_wp2
                            go_roundg kj10
                            case measure => have := HK1.out; have := HJ4.out; have := HJ10.out; omega
                            case rel => exact ⟨(x2_10), (x3_1), (wrap64 (x10_1 + 1)), (by first | rfl | (simp; done) | (simp [*]; done)), (by first | rfl | (simp; done) | (simp [*]; done)), (by first | rfl | (simp; done) | (simp [*]; done)), H', ⟨by have := HK1.out; have := HJ4.out; have := HJ10.out; omega⟩, ⟨by repeat (first | (with_reducible first | exact HB.out | apply below_alloc | apply pw_below_drewN | apply below_drew1 | refine below_set ?_ GE102.out) | exact HB.out)⟩⟩
                      · rw [if_neg c14] at H
                        have c14b0 : (((rd_T56 l0 x10_1).f0) == 3) = false := beq_eq_false_iff_ne.mpr c14
                        have c14b1 : (((rd_T56 l0 x10_1).f0) != 3) = true := bne_iff_ne.mpr c14
                        by_cases c20 : x2_10 > 268435456
                        · rw [if_pos c20] at H
                          have c20b0 : decide (268435456 < x2_10) = true := decide_eq_true c20
                          clear c20
                          simp only [Option.some.injEq, Prod.mk.injEq] at H
                          obtain ⟨rfl, rfl, rfl⟩ := H
                          have hcz21_0 : wc.cell? ⟨gb102, 0, none⟩ = some (.int .i64 ((rd_T56 l0 x10_1).f0)) := (blk_cell BK102.out 0).trans rfl
                          have hcz21_1 : wc.cell? ⟨gb102, 1, none⟩ = some (.int .i64 ((rd_T56 l0 x10_1).f1)) := (blk_cell BK102.out 1).trans rfl
                          have hcz21_2 : wc.cell? ⟨gb102, 2, none⟩ = some (.string ((rd_T56 l0 x10_1).f2)) := (blk_cell BK102.out 2).trans rfl
                          have hfz21_0 := blk_frozen BK102.out 0
                          have hfz21_1 := blk_frozen BK102.out 1
                          have hfz21_2 := blk_frozen BK102.out 2
                          go_wp2
                          go_ret3
                          exact ⟨by first | rfl | (simp [errW_none, errW_some] <;> rfl) | (simp [*, errW_none, errW_some] <;> rfl), by repeat (first | (with_reducible first | exact HB.out | apply below_alloc | apply pw_below_drewN | apply below_drew1 | refine below_set ?_ GE102.out) | exact HB.out)⟩
                        · rw [if_neg c20] at H
                          have c20b0 : decide (268435456 < x2_10) = false := decide_eq_false c20
                          clear c20
                          by_cases c22 : (wrap64 (x3_1 + x7_4)) > 268435456
                          · rw [if_pos c22] at H
                            have c22b0 : decide (268435456 < (wrap64 (x3_1 + x7_4))) = true := decide_eq_true c22
                            clear c22
                            simp only [Option.some.injEq, Prod.mk.injEq] at H
                            obtain ⟨rfl, rfl, rfl⟩ := H
                            have hcz23_0 : wc.cell? ⟨gb102, 0, none⟩ = some (.int .i64 ((rd_T56 l0 x10_1).f0)) := (blk_cell BK102.out 0).trans rfl
                            have hcz23_1 : wc.cell? ⟨gb102, 1, none⟩ = some (.int .i64 ((rd_T56 l0 x10_1).f1)) := (blk_cell BK102.out 1).trans rfl
                            have hcz23_2 : wc.cell? ⟨gb102, 2, none⟩ = some (.string ((rd_T56 l0 x10_1).f2)) := (blk_cell BK102.out 2).trans rfl
                            have hfz23_0 := blk_frozen BK102.out 0
                            have hfz23_1 := blk_frozen BK102.out 1
                            have hfz23_2 := blk_frozen BK102.out 2
                            go_wp2
                            go_ret3
                            exact ⟨by first | rfl | (simp [errW_none, errW_some] <;> rfl) | (simp [*, errW_none, errW_some] <;> rfl), by repeat (first | (with_reducible first | exact HB.out | apply below_alloc | apply pw_below_drewN | apply below_drew1 | refine below_set ?_ GE102.out) | exact HB.out)⟩
                          · rw [if_neg c22] at H
                            have c22b0 : decide (268435456 < (wrap64 (x3_1 + x7_4))) = false := decide_eq_false c22
                            clear c22
                            have H' := Aside0.mk H
                            clear H
                            have hcz24_0 : wc.cell? ⟨gb102, 0, none⟩ = some (.int .i64 ((rd_T56 l0 x10_1).f0)) := (blk_cell BK102.out 0).trans rfl
                            have hcz24_1 : wc.cell? ⟨gb102, 1, none⟩ = some (.int .i64 ((rd_T56 l0 x10_1).f1)) := (blk_cell BK102.out 1).trans rfl
                            have hcz24_2 : wc.cell? ⟨gb102, 2, none⟩ = some (.string ((rd_T56 l0 x10_1).f2)) := (blk_cell BK102.out 2).trans rfl
                            have hfz24_0 := blk_frozen BK102.out 0
                            have hfz24_1 := blk_frozen BK102.out 1
                            have hfz24_2 := blk_frozen BK102.out 2
                            go_wp2
                            go_roundg kj10
                            case measure => have := HK1.out; have := HJ4.out; have := HJ10.out; omega
                            case rel => exact ⟨(x2_10), (wrap64 (x3_1 + x7_4)), (wrap64 (x10_1 + 1)), (by first | rfl | (simp; done) | (simp [*]; done)), (by first | rfl | (simp; done) | (simp [*]; done)), (by first | rfl | (simp; done) | (simp [*]; done)), H', ⟨by have := HK1.out; have := HJ4.out; have := HJ10.out; omega⟩, ⟨by repeat (first | (with_reducible first | exact HB.out | apply below_alloc | apply pw_below_drewN | apply below_drew1 | refine below_set ?_ GE102.out) | exact HB.out)⟩⟩
          · rw [if_neg c4] at H
            exact absurd H (by simp)
        · rw [if_neg c3] at H
          exact absurd H (by simp)
      · rw [if_neg c2] at H
        have c2b0 : decide (x10_1 < (l0.length : Int)) = false := decide_eq_false c2
        clear c2
        simp only [Option.some.injEq, Prod.mk.injEq] at H
        obtain ⟨rfl, rfl, rfl⟩ := H
        go_wp2
        go_ret3
        exact ⟨by first | rfl | (simp [errW_none, errW_some] <;> rfl) | (simp [*, errW_none, errW_some] <;> rfl), by repeat (first | (with_reducible first | exact HB.out | apply below_alloc | apply pw_below_drewN | apply below_drew1) | exact HB.out)⟩

end Go.Proofs.Ytjladdjpnicldaa.PA
